/- Texts. -/
import Derived.Test.YtghphhhpagagbaaGreatDoorP3
namespace Go.Proofs.YtghphhhpagagbaaGreatDoor
set_option linter.unusedSectionVars false
set_option linter.unusedVariables false
set_option linter.unusedSimpArgs false
open Go.RowKit Tryz
variable (gl:CB)
variable {K V α:Type}{i:Int}{x:Ab}{a b k kk n:Nat}{l:LQ}{r srt:Bk}{m:FM K V}{e:K×V×Nat}{seen:Bq}{R:Ad}{P:Br}{fn:Func}{t:Bo}{g:Aj}
section
attribute [local irreducible] Tr dz Gp
def nG:Bk:=[0,2064,32793,21,16,12,480,640,512,31744,8704,8705,512,33299]
def Sn(n:Nat):G:= .clo (.func n) [] []
def IU:Bn:=[.lit .nilFunc,.lit .nilFunc,Sn 406,Sn 408,.lit .nilFunc,Sn 409,Sn 410,.lit .nilFunc,Sn 411,Sn 412,Sn 414,Sn 415,Sn 414,Sn 416]
def fI:CB:=[(1,nG.flatMap cZ),(0,IU)]
theorem WX:AbT prog 253 3 14 1:=⟨aH,aH,aH⟩
theorem kIx{x:Int}(h:aS nG i=some x):fh prog 253 (.ptr (nG.flatMap cZ) 0) i=some (.ptr (nG.flatMap cZ) (i.toNat*1)):=WX.ix h rfl
structure Aal (o:Bp) (kk:Nat):Prop where
 lo:decide (o.Kind<1)=false
 hi:decide (13<o.Kind)=false
 kind:aS nG o.Kind=some (kk:Int)
 kb:kk<1048576
 bits:wH ((La (rU o):Nat):Int) (kk:Int)=0
 rg:Aj3 o kk
 long:FX o=some false
 nPast:o.Past.length<=1000000
 nGuards:o.Guards.length<=1000000
 past:∀(k:Nat) (a b:Ab),o.Past[k]?=some a->o.Past[k+1]?=some b->pE a b=some true
 guards:∀(k:Nat) (a b:Int),o.Guards[k]?=some a->o.Guards[k+1]?=some b->a<b
 create:decide (ah o.Past=0)=decide (o.Kind=1)
def Lc(l:Bc)(i:Int):Option (Int⊕Unit):=bif i<wI (ah l-1)then(aS l i).bind λa=>(aS l (wI (i+1))).bind λb=>(pE a b).bind λv=>bif v then some (.inl (wI (i+1)))else none else some (.inr ())
def Ld(l:Bk)(i:Int):Option (Int⊕Unit):=bif i<wI (ah l-1)then(aS l i).bind λa=>(aS l (wI (i+1))).bind λb=>bif a<b then some (.inl (wI (i+1)))else none else some (.inr ())
theorem Zs{o:Bp}(h:Aal o kk):AA (Lc o.Past) 0=some ():=by
 have hn:=h.nPast;have hw:wI (ah o.Past-1)=(o.Past.length:Int)-1:=by grind [bM,ah]
 refine T.eq (T.loop (λi=>∃k:Nat,i=(k:Int)/\k<=o.Past.length) (λi=>o.Past.length-i.toNat) (by grind) (by grind) ?_);rintro i ⟨k,rfl,hk⟩;unfold Lc;rw[hw];refine .dec (λhh=>?_) λhh=> .some rfl;have h1:k<o.Past.length:=aa;have h2:k+1<o.Past.length:=aa;have ew:wI ((k:Int)+1)=((k+1:Nat):Int):=aq aa;refine .bind (.ix aa (x:=o.Past[k]) (by grind) (.bind (.ix (by grind) (x:=o.Past[k+1]) (by grind) (.eqb (h.past k _ _ (by simp_all) (by simp_all)) (.some ⟨⟨k+1,ew,aa⟩,?_⟩)))));grind
theorem Zt{o:Bp}(h:Aal o kk):AA (Ld o.Guards) 0=some ():=by
 have hn:=h.nGuards;have hw:wI (ah o.Guards-1)=(o.Guards.length:Int)-1:=by grind [bM,ah]
 refine T.eq (T.loop (λi=>∃k:Nat,i=(k:Int)/\k<=o.Guards.length) (λi=>o.Guards.length-i.toNat) (by grind) (by grind) ?_);rintro i ⟨k,rfl,hk⟩;unfold Ld;rw[hw];refine .dec (λhh=>?_) λhh=> .some rfl;have h1:k<o.Guards.length:=aa;have h2:k+1<o.Guards.length:=aa;have ew:wI ((k:Int)+1)=((k+1:Nat):Int):=aq aa;refine .bind (.ix aa (x:=o.Guards[k]) (by grind) (.bind (.ix (by grind) (x:=o.Guards[k+1]) (by grind) ?_)));rw[CO (h.guards k _ _ (by simp_all) (by simp_all)),ax];refine .some ⟨⟨k+1,ew,aa⟩,?_⟩;grind
theorem IW{o:Bp}(h:Aal o kk):ba prog fI 188 [.agg (aJ o)] (iG 0):=by
 refine Gh func188 ?_;refine pO 111100 (s0 93 fI [(1,.ptr (aJ o) 0),(3,bG true)] [] 0 0) [hr 8 h.lo,hr 12 h.hi,hf 16 (TV fI o),AB 19 (kIx h.kind),AB 20 (rZ.p1Z tZ h.kind),hV 21 (NW (P:=prog) (t:=3) ((La (rU o):Nat):Int) (kk:Int)),hr 22 (show decide (wH ((La (rU o):Nat):Int) (kk:Int)≠0)=false from C6 λe=>e h.bits)] [hc (eB (gs:=aJ o) aH)] ?_ [] [];refine Ix 111101 (s0 93 fI [(1,.ptr (aJ o) 0),(3,bG true)] [] 0 0) ?_ λkk1=>?_;rotate_left
 .refine pN (λi:Int=>(s0 93 fI [(1,.ptr (aJ o) 0),(3,bG true),(27,iG (wI (ah o.Past-1))),(28,iG i)] [] 0 0)) 11110122 (Zs h) [] [] (λB i w hs k5 d=>?_) [] [];unfold Lc at hs;rcases bC hs with⟨b1,hs⟩|⟨b1,hs⟩
  .obtain⟨a,c,hs⟩:=bS hs;obtain⟨b,eb,hs⟩:=bS hs;obtain⟨v,ev,hs⟩:=bS hs;cases v
   .cases hs
   .obtain rfl:=Bf hs;exact jw [hr 29 b1,AB 36 (ac.ixZ c),AB 37 (ac.ptZ aW c),AB 42 (ac.ixZ eb),AB 43 (ac.ptZ aW eb),hf 44 (M5 fI ev)] [] (k5 _ rfl) [] []
  .obtain rfl:=Bf hs;exact yl 111101 [hr 29 b1] [] kk1 [] []
 refine pO 1111100 (s0 93 fI [(1,.ptr (aJ o) 0),(3,bG true)] [] 0 0) [] [] ?_ [] [];refine Ix 1111101 (s0 93 fI [(1,.ptr (aJ o) 0),(3,bG true)] [] 0 0) ?_ λkk1=>?_;rotate_left
 .refine pN (λi:Int=>(s0 93 fI [(1,.ptr (aJ o) 0),(3,bG true),(50,iG (wI (ah o.Guards-1))),(51,iG i)] [] 0 0)) 111110122 (Zt h) [] [] (λB i w hs k5 d=>?_) [] [];unfold Ld at hs;rcases bC hs with⟨b1,hs⟩|⟨b1,hs⟩
  .obtain⟨a,c,hs⟩:=bS hs;obtain⟨b,eb,hs⟩:=bS hs;rcases bC hs with⟨b2,hs⟩|⟨b2,hs⟩
   .obtain rfl:=Bf hs;exact jw [hr 52 b1,AB 59 (rZ.ixZ c),AB 60 (rZ.p1Z tZ c),AB 65 (rZ.ixZ eb),AB 66 (rZ.p1Z tZ eb),hr 67 b2] [] (k5 _ rfl) [] []
   .cases hs
  .obtain rfl:=Bf hs;exact yl 1111101 [hr 52 b1] [] kk1 [] []
 have hc:=h.create;cases e:decide (o.Kind=1) with
 |false=>rw[e] at hc;exact Ar [AB 74 (kIx h.kind),AB 75 (rZ.p1Z tZ h.kind),hf 76 (IT fI h.kb h.rg),hf 80 (Es fI h.long),hr 88 hc,hr 91 e] []
 |true=>rw[e] at hc;exact Ar [AB 74 (kIx h.kind),AB 75 (rZ.p1Z tZ h.kind),hf 76 (IT fI h.kb h.rg),hf 80 (Es fI h.long),hr 88 hc,hr 91 e] []
end
theorem sc1(h1:a<=n)(h2:n<=b):iB n a b=some true:=by grind [iB]
theorem TW{pub:Nat}{b:CD}{s:Xf}(hb:b.length<=1073741824)(h:jJ pub b s=some true):lq pub b s=some true:=by
 unfold jJ at h;obtain⟨g,hj,h⟩:=bS h;rcases bC h with⟨rfl,h⟩|⟨rfl,h⟩
 .cases h
 rcases bC hj with⟨c1,hj⟩|⟨c1,hj⟩
 .cases hj
 rw[show fV=some 2305843009213693950 from rfl,aL] at hj;rcases bC hj with⟨c2,hj⟩|⟨c2,hj⟩
 .cases hj
 rcases bC hj with⟨c3,hj⟩|⟨c3,hj⟩
 .cases hj
 rw[aL] at hj;rcases bC hj with⟨c4,hj⟩|⟨c4,hj⟩
 .cases hj
 rw[aL] at hj;have c5:=Bf hj;have c1:=LR c1;have c2:=LR c2;have c3:=LR c3;have c4:=LR c4;have c5:=LR c5;obtain⟨i,h4,h⟩:=bS h;obtain⟨j,h6,h⟩:=bS h;obtain⟨k,h8,h⟩:=bS h;obtain⟨d,h10,h⟩:=bS h;have hpow:∀{a n r:Nat},n<18446744073709551616->iK a n=some r->r<2305843009213693951:=λhn e=>by obtain⟨q,e1,e2⟩:=ka _ hn;rw[e] at e1;grind
 unfold lq;rw[sc1 aa aa,aL];simp only[Bool.not_true,Be];rw[sc1 aa aa,aL];simp only[Bool.not_true,Be];rw[sc1 aa aa,aL];simp only[Bool.not_true,aL,Be];unfold Pi at h6;obtain⟨m,hm,h6⟩:=bS h6;obtain⟨e,he,h6⟩:=bS h6;cases h6;unfold Ph at hm;have hm':jI [115,105,103,110,101,100] b=some m:=by simp_all
 obtain⟨m2,f1,f2,o⟩:=xe (label:=[115,105,103,110,101,100]) (b:=b) BX hb;obtain rfl:m2=m:=by grind
 obtain⟨e2,g1,g2,c⟩:=ET (label:=[115,105,103]) (l:=[s.R,pub,m2]) BX aC λw hw=>by simp only[EG,KY,or_false] at hw;rcases hw with rfl|rfl|rfl<;>omega
 rw[he] at g2;cases g2;unfold xh;rw[f1,aL,g1,aL,aL,nf BX aa h4,aL];dsimp only;rw[nf aa c h8,aL];have f:=hpow c h8;rw[Po aa aa,aL];rw[ll] at h10;simp_all
section
attribute [local irreducible] Tr dz Gp qc
theorem OD{c:DH}{o:Bp}(ho:Bb o)(hb:o.By=c.Device)(h:lq c.Sign (qc o) o.Sig=some true):ba prog gl 189 [.agg (bv c),.agg (aJ o)] (bG true):=by
 have h14:=yY ho;have e:decide (o.By=c.Device)=true:=CO hb;refine Gh func189 ?_;refine pO [1,0] (s0 20 gl [(2,.ptr (bv c) 0),(3,.ptr (aJ o) 0)] [] 0 0) [] [hc (eB (gs:=bv c) aH),hc (eB (gs:=aJ o) aH)] ?_ [] [];exact Ar [hr 9 e,tN 14 [] 0 [] [.agg (aJ o)] [(0,oO 1 (qc o)),(1,oY (qc o))] (MP gl ho) trivial ⟨⟨rfl,.inl rfl⟩,⟨rfl,.inr ⟨rfl,rY.imm _⟩⟩,trivial⟩,
  tN 15 [0,1] 2 [(0,oO 1 (qc o)),(1,oY (qc o))] [.ref 0 0] [(0,oO 1 (qc o)),(1,oY (qc o)),(2,oY (qc o))] (rS gl (l:=qc o) aa) ⟨⟨rfl,.inl rfl⟩,⟨rfl,.inr ⟨rfl,rY.imm _⟩⟩,trivial⟩ ⟨⟨rfl,.inl rfl⟩,⟨rfl,.inr ⟨rfl,rY.imm _⟩⟩,⟨rfl,.inr ⟨rfl,rY.imm _⟩⟩,trivial⟩,
  hq 18 [uG c.Sign,aE cY (qc o),.agg (yy o.Sig)] [hc (rY.al (qc o))] (GF gl h)] []
end
section
attribute [local irreducible] Tr dz Gp
def blT:Bq:=[0,1,2,2,3,3,3,3,4,4,4,4,4,4,4,4,5,5,5,5,5,5,5,5,5,5,5,5,5,5,5,5]
def WZ(n:Nat):Nat:=blT.getD n 0
theorem RB(h:n<32):ba prog gl 276 [uG (n:Int)] (iG (WZ n:Int)):=by have e:n=0\/n=1\/n=2\/n=3\/n=4\/n=5\/n=6\/n=7\/n=8\/n=9\/n=10\/n=11\/n=12\/n=13\/n=14\/n=15\/n=16\/n=17\/n=18\/n=19\/n=20\/n=21\/n=22\/n=23\/n=24\/n=25\/n=26\/n=27\/n=28\/n=29\/n=30\/n=31:=aa;rcases e with rfl|rfl|rfl|rfl|rfl|rfl|rfl|rfl|rfl|rfl|rfl|rfl|rfl|rfl|rfl|rfl|rfl|rfl|rfl|rfl|rfl|rfl|rfl|rfl|rfl|rfl|rfl|rfl|rfl|rfl|rfl|rfl<;>(refine Gh func276 ?_;exact Ar [] [])
theorem RC{n:Nat}(h:n<32):ba prog gl 193 [uG (n:Int)] (iG (WZ n:Int)):=by refine Gh func193 ?_;exact Ar [hf 7 (RB gl h)] []
def Lf(l:LQ)(i:Int):Option (Int⊕Unit):=bif i<ah l then(aS l i).bind λa=>(aS l (wI (i-1))).bind λb=>bif decide (0<i)&& !decide (wI (a.Device-b.Device)<0)then some (.inl (wI (i+1)))else none else some (.inr ())
def aa3(_:Unit):Option (Unit⊕Unit):=some (.inr ())
theorem Lg:AA aa3 ()=some ():=T.eq (T.loop (λ_=>True) (λ_=>0) trivial BX λ_ _=> .some rfl)
abbrev oC(l:LQ):Option Ob:=some ⟨78,l.flatMap bv,none⟩
abbrev zP:G:= .clo (.func 187) [] []
def xf(l:LQ):Prop:=l.length<=12/\∀(k:Nat) (a b:DH),l[k]?=some a->l[k+1]?=some b->a.Device<=b.Device/\0<=a.Device/\b.Device<=1000000
theorem Zw(h:xf l):AA (Lf l) (wI (0+1))=some ():=by
 have hn:=h.1;refine T.eq (T.loop (λi=>∃k:Nat,i=((k+1:Nat):Int)/\k<=12) (λi=>14-i.toNat) ⟨0,rfl,aa⟩ (by show 14-_<_;omega) ?_);rintro i ⟨k,rfl,hk⟩;unfold Lf;refine .dec (λhh=>?_) λhh=> .some rfl;unfold ah at hh;have h1:k<l.length:=aa;have h2:k+1<l.length:=aa;have ew:wI (((k+1:Nat):Int)+1)=((k+1+1:Nat):Int):=aq aa;have em:wI (((k+1:Nat):Int)-1)=(k:Int):=by grind [bM]
 obtain⟨q1,a,b⟩:=h.2 k _ _ (DR h1) (DR h2);refine .bind (.ix aa (x:=l[k+1]) (by rw[Fs,DR h2]) (.bind (.ix (by rw[em];omega) (x:=l[k]) (by rw[em,Fs,DR h1]) ?_)));rw[bM (z:=l[k+1].Device-l[k].Device) aa aa,CO (by grind),C6 (by grind)];refine .some ⟨⟨k+1,ew,aa⟩,?_⟩;grind
theorem OE(h:xf l):OU prog gl 314 [.rsl 0 0 l.length,iG 0,iG (ah l),zP] [(0,oC l)] 1 1 (.tup []) [(0,oC l)]:=by
 refine ZU func314 ?_ (λi hi=>by match i,hi with|0,_=>exact⟨_,rfl⟩);refine pN (λi:Int=>(s0 53 gl [(0,.rsl 0 0 l.length),(1,iG 0),(2,iG (ah l)),(3,zP),(8,iG i)] [(0,oC l)] 1 1)) 1122 (Zw h) [] [hc (el l),hc (aG 20 zP aH),hc (bT.imm l)] (λB i w hs k5 d=>?_) [] [(0,0)] [(0,.row)];unfold Lf at hs;rcases bC hs with⟨b1,hs⟩|⟨b1,hs⟩
 .obtain⟨a,c,hs⟩:=bS hs;obtain⟨b,eb,hs⟩:=bS hs;rcases bC hs with⟨b2,hs⟩|⟨b2,hs⟩
  rotate_left
  .cases hs
  obtain rfl:=Bf hs;simp only[bA,Bool.not_eq_true'] at b2;refine Ix 11221021 (s0 53 gl [(0,.rsl 0 0 l.length),(1,iG 0),(2,iG (ah l)),(3,zP),(8,iG i)] [(0,oC l)] 1 1) ?_ λkk=>?_
  .exact jw [] [hc (el l),hc (aG 20 zP aH),hc (bT.imm l)] (k5 _ rfl) [] [(0,0)] [(0,.row)]
  refine pN (λ_:Unit=>(s0 53 gl [(0,.rsl 0 0 l.length),(1,iG 0),(2,iG (ah l)),(3,zP),(8,iG i),(9,iG i)] [(0,oC l)] 1 1)) 1122102122 Lg [hr 14 b1] [hc (el l),hc (aG 20 zP aH),hc (bT.imm l)] (λe z v hz2 f g=>?_) [] [(0,0)] [(0,.row)];exact yl 11221021 [hr 20 b2.1,AB 25 (bT.ixrZ 0 c),AB 26 (bT.pt0Z E2 c),AB 30 (bT.ixrZ 0 eb),AB 31 (bT.pt0Z E2 eb),hf 32 (Dt gl (a:=a) (b:=b) rfl),hr 33 b2.2] [hc (el l),hc (aG 20 zP aH),hc (bT.imm l)] kk [] [(0,0)] [(0,.row)]
 .exact ZT [hr 14 b1] [hc (bT.imm l)] [(0,0)] [(0,.row)]
theorem zr{gs gs0:Bn}{g0:G}{i:Nat}(h:CI i gs gs0)(hg:nF 20 g0=true:=by kernel_rfl):CI i (g0::gs) (g0::gs0):=CJ (aG 20 _ hg) h
theorem OF(h:xf l)(k:Int):OU prog gl 261 [.rsl 0 0 l.length,iG 0,iG (ah l),iG k,zP] [(0,oC l)] 1 1 (.tup []) [(0,oC l)]:=by
 have e:wI (ah l-0)=ah l:=by have:=h.1;grind [bM,ah]
 have hd:decide (wI (ah l-0)<=12)=true:=by rw[e];exact CO (by have:=h.1;unfold ah;omega)
 refine ZU func261 ?_ (λi hi=>by match i,hi with|0,_=>exact⟨_,rfl⟩);refine pN (λ_:Unit=>(s0 148 gl [(0,.rsl 0 0 l.length),(1,iG 0),(2,iG (ah l)),(3,iG k),(4,zP)] [(0,oC l)] 1 1)) 11122 Lg [] [hc (el l),hc (aG 20 zP aH),hc (bT.imm l)] (λa z v hz2 b d=>?_) [] [(0,0)] [(0,.row)];exact ZT [hr 25 hd,hz 30 [0] (wS (i:=0) (c:=1) aH (OE gl h) (aG 20 _ aH) (bT.imm l) BX (by rfl) (w5 (zr (zr (zr wZ)))))] [hc (bT.imm l)] [(0,0)] [(0,.row)]
theorem Lh(h:xf l):OU prog gl 186 [.rsl 0 0 l.length,zP] [(0,oC l)] 1 1 (.tup []) [(0,oC l)]:=by
 have e:wU (ah l)=l.length:=by have:=h.1;unfold ah;rw[gP];omega
 have hl:ba prog gl 193 [uG (wU (ah l):Int)] (iG (WZ l.length:Int)):=by rw[e];exact RC gl (by have:=h.1;omega)
 refine ZU func186 ?_ (λi hi=>by match i,hi with|0,_=>exact⟨_,rfl⟩);exact ZT [AB 10 (C8 (ah l)),hf 11 hl,hz 13 [0] (wS (i:=0) (c:=1) aH (OF gl h (WZ l.length:Int)) (aG 20 _ aH) (bT.imm l) BX (by rfl) (w5 (zr (zr (zr (zr wZ))))))] [hc (bT.imm l)] [(0,0)] [(0,.row)]
abbrev Ke(l:Bk):Option Ob:=some ⟨3,l.flatMap cZ,none⟩
def aao(s:Bk×Int):Option ((Bk×Int)⊕Bk):=
 bif 0<s.2 then(aS s.1 s.2).bind λa=>(aS s.1 (wI (s.2-1))).bind λb=>bif a<b then(ji s.1 s.2 b).bind λc=>(ji c (wI (s.2-1)) a).bind λd=>some (.inl (d,wI (s.2-1)))else some (.inr s.1)else some (.inr s.1)
def Abr(n:Int)(s:Bk×Int):Option ((Bk×Int)⊕Bk):=
 bif s.2<n then(AA aao (s.1,s.2)).bind λl=>some (.inl (l,wI (s.2+1)))else some (.inr s.1)
def inZ(l:Bk):Option Bk:=AA (Abr (ah l)) (l,wI (0+1))
theorem Agl(a b:Int):ba prog gl 309 [iG a,iG b] (bG (decide (a<b))):=UQ gl (by unfold T9 Fu;simp)
theorem Ami{l c d:Bk}{j a b:Int}(h1:ji l i b=some c)(h2:ji c j a=some d):fh prog 22 (.rsl 0 0 l.length) j=some (.ref 0 (0+j.toNat*1)):=by rw[hZ h1];exact rZ.ixsZ 0 h2
theorem Agm{l:Bk}(h:inZ l=some r):jg prog gl 303 [.rsl 0 0 l.length,iG 0,iG (ah l)] [(0,Ke l)] 1 (.tup []) [(0,Ke r)] 1:=by
 unfold inZ at h;refine pP func303 ?_;refine pN (λs:Bk×Int=>(s0 49 gl [(0,.rsl 0 0 s.1.length),(1,iG 0),(2,iG (ah l)),(6,iG s.2)] [(0,Ke s.1)] 1 1)) 1122 h [] [hc (el l),hc (rZ.imm l)] (λB s w hs k5 g=>?_) [] [(0,0)] [(0,.row)];obtain⟨l1,i⟩:=s;unfold Abr at hs;dsimp only at hs;rcases bC hs with⟨b1,hs⟩|⟨b1,hs⟩
 .obtain⟨l2,e2,hs⟩:=bS hs;obtain rfl:=Bf hs;refine Ix 11221021 (s0 49 gl [(0,.rsl 0 0 l2.length),(1,iG 0),(2,iG (ah l)),(6,iG i)] [(0,Ke l2)] 1 1) ?_ λkk=>?_
  .exact jw [] [hc (el l2),hc (rZ.imm l2)] (k5 _ rfl) [] [(0,0)] [(0,.row)]
  refine pN (λs:Bk×Int=>(s0 49 gl [(0,.rsl 0 0 s.1.length),(1,iG 0),(2,iG (ah l)),(6,iG i),(7,iG s.2)] [(0,Ke s.1)] 1 1)) 1122102122 e2 [hr 12 b1] [hc (el l1),hc (rZ.imm l1)] (λn z v hz k e=>?_) [] [(0,0)] [(0,.row)];obtain⟨l3,j⟩:=z;unfold aao at hz;dsimp only at hz;rcases bC hz with⟨b2,hz⟩|⟨b2,hz⟩
  .obtain⟨a,d,hz⟩:=bS hz;obtain⟨b,eb,hz⟩:=bS hz;have c:=Agl gl a b;rcases bC hz with⟨b3,hz⟩|⟨b3,hz⟩
   .obtain⟨m,e1,hz⟩:=bS hz;obtain⟨f,e3,hz⟩:=bS hz;obtain rfl:=Bf hz;rw[b3] at c;exact jw [hr 18 b2,AB 22 (rZ.ixrZ 0 d),AB 23 (rZ.p10Z tZ d),AB 27 (rZ.ixrZ 0 eb),AB 28 (rZ.p10Z tZ eb),hf 29 c,AB 41 (rZ.ixrZ 0 eb),AB 42 (rZ.p10Z tZ eb),AB 45 (rZ.ixrZ 0 d),AB 46 (rZ.p10Z tZ d),AB 47 (rZ.ixsZ 0 e1),hw 47 (m.flatMap cZ) (rZ.putZ e1),AB 48 (Ami e1 e3),hw 48 (f.flatMap cZ) (rZ.putZ e3)] [hc ((hZ e1).trans (hZ e3)),hc (rZ.imm f)] (k _ rfl) [] [(0,0)] [(0,.row)]
   .obtain rfl:=Bf hz;obtain rfl:=e _ rfl;rw[b3] at c;exact yl 11221021 [hr 18 b2,AB 22 (rZ.ixrZ 0 d),AB 23 (rZ.p10Z tZ d),AB 27 (rZ.ixrZ 0 eb),AB 28 (rZ.p10Z tZ eb),hf 29 c] [hc (el l3),hc (rZ.imm l3)] kk [] [(0,0)] [(0,.row)]
  .obtain rfl:=Bf hz;obtain rfl:=e _ rfl;exact yl 11221021 [hr 18 b2] [hc (el l3),hc (rZ.imm l3)] kk [] [(0,0)] [(0,.row)]
 .obtain rfl:=Bf hs;obtain rfl:=g _ rfl;exact mt .normal (s0 49 gl [] [(0,Ke l1)] 1 1) [] [hr 12 b1] [hc (rZ.imm l1)] (ρ:=[(0,0)]) (kd:=[(0,.row)])
theorem Agn{l:Bk}(hl:l.length<=12)(h:inZ l=some r)(k:Int):jg prog gl 249 [.rsl 0 0 l.length,iG 0,iG (ah l),iG k] [(0,Ke l)] 1 (.tup []) [(0,Ke r)] 1:=by
 have e:wI (ah l-0)=ah l:=by grind [bM,ah]
 have hd:decide (wI (ah l-0)<=12)=true:=by grind [ah]
 refine pP func249 ?_;refine pN (λ_:Unit=>(s0 134 gl [(0,.rsl 0 0 l.length),(1,iG 0),(2,iG (ah l)),(3,iG k)] [(0,Ke l)] 1 1)) 11122 Lg [] [hc (el l),hc (rZ.imm l)] (λa z v hz2 b c=>?_) [] [(0,0)] [(0,.row)];exact mt .ret (s0 134 gl [] [(0,Ke r)] 1 1) [] [hr 23 hd,tN 27 [0] 1 [(0,Ke l)] [.rsl 0 0 l.length,iG 0,iG (ah l)] [(0,Ke r)] (Agm gl h) ⟨⟨rfl,.inr ⟨rfl,rZ.imm l⟩⟩,trivial⟩ ⟨⟨rfl,.inr ⟨rfl,rZ.imm r⟩⟩,trivial⟩] [hc (rZ.imm r)] (ρ:=[(0,0)]) (kd:=[(0,.row)])
theorem Pu{l:Bk}(hl:l.length<=12)(h:inZ l=some r):jg prog gl 157 [.rsl 0 0 l.length] [(0,Ke l)] 1 (.tup []) [(0,Ke r)] 1:=by
 have e:wU (ah l)=l.length:=by unfold ah;rw[gP];omega
 have hb:ba prog gl 193 [uG (wU (ah l):Int)] (iG (WZ l.length:Int)):=by rw[e];exact RC gl aa
 refine pP func157 ?_;exact mt .normal (s0 11 gl [] [(0,Ke r)] 1 1) [] [AB 8 (C8 (ah l)),hf 9 hb,tN 10 [0] 1 [(0,Ke l)] [.rsl 0 0 l.length,iG 0,iG (ah l),iG (WZ l.length:Int)] [(0,Ke r)] (Agn gl hl h (WZ l.length:Int)) ⟨⟨rfl,.inr ⟨rfl,rZ.imm l⟩⟩,trivial⟩ ⟨⟨rfl,.inr ⟨rfl,rZ.imm r⟩⟩,trivial⟩] [hc (rZ.imm r)] (ρ:=[(0,0)]) (kd:=[(0,.row)])
end
theorem AeF{A B:List α}{x:α}:(A++x::B)[A.length]?=some x:=aC
def Pv(l:Bk):Prop:=l.Pairwise λa b=>a<=b
theorem AeG{S R:Bk}{x:Int}(hn:(S++x::R).length<=1000)(hs:Pv S):T (AA aao (S++x::R,(S.length:Int))) λr=>∃S',r=S'++R/\S'.length=S.length+1/\Pv S'/\S'.Perm (x::S):=by
 have hl:S.length+R.length+1<=1000:=by simp at hn;omega
 refine T.loop (λs=>∃b a,s.1=b++x::(a++R)/\s.2=(b.length:Int)/\S=b++a/\∀y∈a,x<=y) (λs=>s.2.toNat) ⟨S,[],rfl,rfl,aC,aC⟩ (by show((S.length:Int)).toNat<_;omega) ?_;rintro⟨l,j⟩ ⟨b,a,e1,e2,e3,e4⟩;dsimp only at e1 e2;subst e1 e2 e3;have fin:(∀y∈b,y<=x)->∃S',b++x::(a++R)=S'++R/\S'.length=(b++a).length+1/\Pv S'/\S'.Perm (x::(b++a)):=λh=>by refine⟨b++x::a,aC,by simp;omega,?_,List.perm_middle⟩;grind [Pv,List.pairwise_cons]
 unfold aao;dsimp only;rcases List.eq_nil_or_concat b with rfl|⟨A,y,rfl⟩
 .rw[C6 aC,Be];exact .some (fin aC)
 .have hA:((A++[y]).length:Int)=((A.length+1:Nat):Int):=aC;have hAl:A.length<=1000:=by simp at hl;omega
  have ew:wI (((A.length+1:Nat):Int)-1)=(A.length:Int):=by grind [bM]
  rw[List.concat_eq_append] at*;rw[hA,CO aa,ax,au,ew,au];have eq1:A++[y]++x::(a++R)=A++y::x::(a++R):=aC;have g1:(A++[y]++x::(a++R))[A.length+1]?=some x:=by simp
  have g2:(A++[y]++x::(a++R))[A.length]?=some y:=by rw[eq1];exact AeF
  rw[g1,g2];simp only[aL];refine .dec (λc=>?_) λh=> .some (fin λz hz=>?_)
  .have s1:ji (A++[y]++x::(a++R)) ((A.length+1:Nat):Int) y=some (A++[y]++y::(a++R)):=by unfold ji;rw[Bx ⟨aa,aC⟩,Fs];simp_all
   have s2:ji (A++[y]++y::(a++R)) (A.length:Int) x=some (A++x::(y::a++R)):=by unfold ji;simp_all
   rw[s1,aL,s2,aL];refine .some ⟨⟨A,y::a,rfl,rfl,aC,λz hz=>?_⟩,?_⟩
   .grind
   simp_all
  .have hyx:y<=x:=aa;rcases Jk.1 hz with hz|hz
   .have hs':=hs;unfold Pv at hs';rw[List.append_assoc,List.pairwise_append] at hs';exact Int.le_trans (hs'.2.2 z hz y aC) hyx
   grind
theorem Acg{l:Bk}(hn:l.length<=1000):T (inZ l) λr=>r.Perm l/\Pv r:=by
 unfold inZ;refine T.loop (λs=>∃S R,s.1=S++R/\Pv S/\(S++R).Perm l/\((S.length:Int)=s.2\/(l=[]/\S=[]/\R=[]/\s.2=1))) (λs=>1002-s.2.toNat) ?_ (by show 1002-_<_;omega) ?_
 .cases l with
  |nil=>exact⟨[],[],rfl,.nil,.refl _,.inr ⟨rfl,rfl,rfl,rfl⟩⟩
  |cons a r=>exact⟨[a],r,rfl,List.pairwise_singleton _ _,.refl _,.inl rfl⟩
 rintro⟨l1,i⟩ ⟨S,R,e1,e2,e3,e4⟩;dsimp only at e1 e4;subst e1;have hlen:=e3.length_eq;unfold Abr;dsimp only;refine .dec (λhlt=>?_) λhge=> .some ⟨e3,?_⟩
 .unfold ah at hlt;rcases e4 with rfl|⟨rfl,rfl,rfl,rfl⟩
  rotate_left
  .simp at hlt
  cases R with
  |nil=>simp at hlen;omega
  |cons x R=>refine .bind ((AeG (by rw[hlen];exact hn) e2).mono λr ⟨S',b,d,c,r4⟩=> .some ⟨⟨S',R,b,c,?_,.inl ?_⟩,?_⟩);all_goals grind [bM]
 .unfold ah at hge;rcases e4 with rfl|⟨rfl,rfl,rfl,rfl⟩
  .have:R=[]:=List.eq_nil_of_length_eq_zero (by simp at hlen;omega);subst this;simpa using e2
  .exact .nil
theorem Ach{ks:Bk}(hs:Pv srt)(hp:ks.Perm srt)(hn:srt.length<=1000):inZ ks=some srt:=by obtain⟨r,e,p,s⟩:=Acg (l:=ks) (by rw[hp.length_eq];exact hn);rw[e];refine congrArg some ?_;refine List.Perm.eq_of_pairwise (le:=λa b=>a<=b) (λa b _ _ h1 h2=>?_) s hs (p.trans hp);exact Int.le_antisymm h1 h2
section
attribute [local irreducible] Tr dz Gp
def ksQ{K V:Type}(m:FM K V)(seen:Bq):List K:=seen.filterMap λn=>(m.es.find? λe=>Nat.beq e.2.2 n).map (·.1)
theorem Aci(hm:FxOk m){seen:Bq}(he:e∈m.es):ksQ m (seen++[e.2.2])=ksQ m seen++[e.1]:=by
 unfold ksQ;rw[List.filterMap_append];have:∀{es:List (K×V×Nat)},(es.map (·.2.2)).Nodup->e∈es->es.find? (λx=>Nat.beq x.2.2 e.2.2)=some e:=by
  intro es;induction es with
  |nil=>intro _ h;cases h
  |cons x r ih=>
   intro hd h;rw[E7,LS] at hd;rcases EG.1 h with rfl|h
   .simp
   grind [bc]
 simp[this hm.nd he]
def KsQ{K V:Type}(m:FM K V)(seen:Bq):Prop:=seen.Nodup/\∀n∈seen,n∈m.es.map (·.2.2)
theorem PN{l m:Bq}(hd:l.Nodup)(hs:∀x∈l,x∈m):l.length<=m.length:=by
 induction l generalizing m with
 |nil=>exact Nat.zero_le _
 |cons a r ih=>rw[LS] at hd;have ha:=hs a aC;have:=ih (m:=m.erase a) hd.2 λx hx=>(List.mem_erase_of_ne (λe:x=a=>hd.1 (by rw[<-e];exact hx))).2 (hs x (by simp[hx]));grind
theorem Acj{seen:Bq}(h:KsQ m seen):(ksQ m seen).length<=m.es.length:=by have h1:=PN h.1 h.2;grind [ksQ]
theorem aat:KsQ m []:=⟨.nil,aC⟩
theorem aaE{seen:Bq}(h:KsQ m seen)(he:e∈m.es)(hn:e.2.2∉seen):KsQ m (seen++[e.2.2]):=by
 refine⟨?_,λn hx=>?_⟩
 .rw[List.nodup_append];exact⟨h.1,aC,(by grind)⟩
 .rcases Jk.1 hx with hx|hx
  .exact h.2 n hx
  grind
theorem AeJ(hm:FxOk m)(h:KsQ m seen)(ha:∀e∈m.es,e.2.2∈seen):(ksQ m seen).Perm (m.es.map (·.1)):=by
 have hp:seen.Perm (m.es.map (·.2.2)):=(List.perm_ext_iff_of_nodup h.1 hm.nd).2 λn=>⟨h.2 n,(by grind)⟩;have h1:(ksQ m seen).Perm (ksQ m (m.es.map (·.2.2))):=hp.filterMap _;have h2:∀es:List (K×V×Nat),(∀e∈es,e∈m.es)->ksQ m (es.map (·.2.2))=es.map (·.1):=by
  intro es;induction es with
  |nil=>intro _;rfl
  |cons e r ih=>intro hh;have:=Aci hm (seen:=[]) (hh e aC);grind [ksQ]
 grind
abbrev XR:Bo:=138
abbrev Tl(m:FM Int Bool):Option Ob:=some (MZ XR JN bG m)
abbrev Oa(i:Nat):G:= .clo (.func 158) [] [.ref i 0]
abbrev YB:Option Ob:=some ⟨XR,[.mref 1],none⟩
abbrev bxI(g:G):Option Ob:=some ⟨22,[g],none⟩
abbrev KSZ(m:FM Int Bool):Type:={ks:Bk//ks.Perm (m.es.map (·.1))}
noncomputable abbrev cAZ:Code:=bq 11012 (ai Tryz.f248)
noncomputable abbrev AeK(st:LoopState):Option Ob:=some ⟨0,[],some (.loop st none 13 [(2,.ref 2 0)] (Dy cAZ) (Dz cAZ) (DA cAZ))⟩
abbrev Aiy(clock:Nat)(seen:Bq):Option Ob:=some ⟨XR,[],some (.iter (some 1) clock seen clock)⟩
theorem XS(m:FM Int Bool):∀e∈mEs JN bG m,bB e.2.1:=PL λv=>mN _
abbrev AeL:Fr:=[(0,.yld 3),(5,.ref 4 0)]
noncomputable abbrev σKZ(m:FM Int Bool)(seen:Bq)(l:Bk):aQ:=[(0,YB),(1,Tl m),(2,bxI (.rsl 5 0 l.length)),(3,AeK .ready),(4,Aiy m.clk seen),(5,Ke l)]
noncomputable abbrev σKY(m:FM Int Bool)(seen:Bq)(a:Bk):aQ:=[(0,YB),(1,Tl m),(2,bxI (.rsl 6 0 a.length)),(3,AeK .busy),(4,Aiy m.clk seen),(6,Ke a)]
theorem Abt{m:FM Int Bool}(hm:FxOk m)(hn:m.es.length<=1000):Xx prog gl 248 [.lit (.slice none 0 0),Oa 0] [(0,YB),(1,Tl m)] 2 (ι:=KSZ m) (λx=> .rsl 2 0 x.1.length) (λx=>[(0,YB),(1,Tl m),(2,Ke x.1)]) (λ_=>3):=by
 refine dMF func248 ?_;refine YR [1,0,1,2] (s0 13 gl [(2,.ref 2 0),(6,Oa 0)] [(2,bxI (.lit (.slice none 0 0))),(0,YB),(1,Tl m)] 3 2) [] ?_;refine Xt (fst:=[]) (cap:=[.ref 0 0]) Tryz.f158 func158 ?_;refine pO [0] (s0 14 gl [(0,.yld 3),(1,.ref 0 0)] [(0,YB),(1,Tl m),(2,bxI (.lit (.slice none 0 0))),(3,AeK .ready)] 4 4) [] [hc (XS m)] ?_ [] [(0,0),(1,1),(2,2),(3,3)];refine yl (Bs':=[]) [0] (J:=(s0 14 gl AeL (σKZ m [] []) 6 4)) [] [hc (XS m),hc (rZ.imm [])] ?_ (vs:=[3]) (ρ:=rI 6) (kd:=[(5,.row)]);refine dNx [1] ?_;refine dMw 5 6 7 0 (iti:=4) (mi:=1) (clock:=m.clk) (since:=m.clk) (T:=XR) (ty:=XR) (es:=mEs JN bG m) (λseen=>(s0 14 gl AeL (σKZ m seen (ksQ m seen)) 6 4)) (KsQ m) aat (by grind [FxOk]) rfl (Le.refl _) (λseen=>rfl) (λseen=>rfl) (by grind) (λB seen k g n hI hme hns c=>?_) (λseen hI hs=>?_)
 .obtain⟨e,he,d⟩:=EP.1 hme;simp only[FF] at d;obtain⟨rfl,rfl,rfl⟩:=d;have hl:=Acj hI;have c:=c (aaE hI he hns);rw[Aci hm he] at c;generalize ksQ m seen=l at hl c⊢;have hge:jr ((4,Aiy m.clk (seen++[e.2.2]))::σKZ m seen l) (.ref 4 0)=some (.tup [db (JN e.1),bG e.2.1]):=yo (iti:=4) (mi:=1) (since:=m.clk) (clock:=m.clk) (T:=XR) (ty:=XR) (seen:=seen) rfl rfl (by rw[HR];exact hm.nd) hme;refine pO 112211210 (s0 14 gl ((3,iG e.1)::AeL) (σKZ m (seen++[e.2.2]) l) 6 4) [YT 8 hge] [hc (XS m),hc (rfl:l.length=l.length),hc (rZ.imm l)] ?_ [] [(0,0),(1,1),(2,2),(3,3),(4,4),(5,5)] [(5,.row)];refine Xw (i:=3) (j:=2) (n:=13) (t:=0) (t2:=0) (pe:=none) (fr:=[(2,.ref 2 0)]) (ps:=Dy cAZ) (a:=Dz cAZ) (b:=DA cAZ) (s1:=(s0 14 gl ([(11,iG e.1),(10,.yld 3),(3,iG e.1)]++AeL) (σKZ m (seen++[e.2.2]) l) 6 4))
   (s3:=(s0 14 gl ([(13,bG false),(12,bG true),(11,iG e.1),(10,.yld 3),(3,iG e.1)]++AeL) ((3,AeK .ready)::σKY m (seen++[e.2.2]) (l++[e.1])) 7 4))
   (σKY m (seen++[e.2.2]) (l++[e.1])) 7 (.loop .ready none 13 [(2,.ref 2 0)] (Dy cAZ) (Dz cAZ) (DA cAZ)) [] [] ?_ ?_
  .refine C9 .normal ⟨13,gl,[(2,.ref 2 0),(5,iG e.1)],σKZ m (seen++[e.2.2]) l,6,6,true⟩ [] [hc (XS m),hc (rfl:l.length=l.length),hc (rZ.imm l)] (Xv Tryz.f248 ?_ rfl) (ρ:=rI 6) (kd:=[(5,.row)]);exact C9 .normal ⟨13,gl,[],σKY m (seen++[e.2.2]) (l++[e.1]),7,6,true⟩ [Tn 11 rZ 8 l e.1 aa] [hc (XS m),hc (el (l++[e.1])),hc (rZ.imm (l++[e.1]))] (by grind [jy]) (ρ:=rI 6++[(6,7)]) (kd:=[(6,.row)])
  .exact jw [] [hc (XS m),hc (el (l++[e.1])),hc (rZ.imm (l++[e.1]))] c (ρ:=rI 5++[(5,6)]) (kd:=[(5,.row)])
 .have hp:=AeJ hm hI λe he=>hs _ (EP.2 ⟨e,he,rfl⟩);generalize ksQ m seen=l at hp⊢;refine C9 .normal (s0 14 gl [] [(0,YB),(1,Tl m),(2,bxI (.rsl 5 0 l.length)),(3,AeK .ready),(5,Ke l)] 6 4) [] [hc (XS m),hc (rfl:l.length=l.length),hc (rZ.imm l)] (Xu ?_ rfl) (ρ:=rI 4++[(5,5)]) (kd:=[(5,.row)]);exact C9 .ret (s0 13 gl [(4,.rsl 2 0 l.length)] [(0,YB),(1,Tl m),(2,Ke l)] 3 2) [] [hc (rfl:l.length=l.length),hc (XS m),hc (rZ.imm l)] (YY ⟨l,hp⟩ (Wo (gs:=[.rsl 2 0 l.length]) rfl aH rfl rfl rfl rfl)) (ρ:=[(0,0),(1,1),(2,5)]) (kd:=[(2,.row)])
theorem AaE{m:FM Int Bool}(hm:FxOk m)(hn:m.es.length<=1000):Xx prog gl 156 [Oa 0] [(0,YB),(1,Tl m)] 2 (ι:=KSZ m) (λx=> .rsl 2 0 x.1.length) (λx=>[(0,YB),(1,Tl m),(2,Ke x.1)]) (λ_=>3):=by refine dMF func156 ?_;refine pO [1,0] (s0 5 gl [(0,Oa 0)] [(0,YB),(1,Tl m)] 2 2) [] [hc (XS m)] ?_ [] [(0,0),(1,1)] [(999999,.clo)];refine dCl 3 4 2 (fst:=[]) (cap:=[]) (gs:=[.lit (.slice none 0 0),Oa 0]) (U6 (g:=λx:KSZ m=> .rsl 2 0 x.1.length) (c:=2) (c':=λ_=>3) (σR:=[(0,YB),(1,Tl m)]) [0,1] (λx:KSZ m=>[(0,YB),(1,Tl m),(2,Ke x.1)]) (Abt gl hm hn) ⟨⟨rfl,.inl rfl⟩,⟨rfl,rfl,rfl,rfl,.inr ⟨rfl,XS m⟩⟩,trivial⟩ (λx=>⟨⟨rfl,.inl rfl⟩,⟨rfl,rfl,rfl,rfl,.inr ⟨rfl,XS m⟩⟩,⟨rfl,.inr ⟨rfl,rZ.imm x.1⟩⟩,trivial⟩) (hcov:=λ_=>rfl) (hg:=λ_=>rfl) (hc:=λ_=>rfl)) λx=>?_;exact C9 .ret (s0 5 gl [(2,.rsl 2 0 x.1.length)] [(0,YB),(1,Tl m),(2,Ke x.1)] 3 2) [] [hc (rfl:x.1.length=x.1.length),hc (XS m),hc (rZ.imm x.1)] (YY x (Wo (gs:=[.rsl 2 0 x.1.length]) rfl aH rfl rfl rfl rfl))
theorem Abu{m:FM Int Bool}(hm:FxOk m)(hn:m.es.length<=12)(hs:∀a:Bk,a.Perm (m.es.map (·.1))->inZ a=some srt)(hsl:srt.length=m.es.length):jg prog gl 85 [Oa 0] [(0,YB),(1,Tl m)] 2 (.rsl 2 0 srt.length) [(0,YB),(1,Tl m),(2,Ke srt)] 3:=by
 refine pP func85 ?_;refine pO [1,0] (s0 9 gl [(0,Oa 0)] [(0,YB),(1,Tl m)] 2 2) [] [hc (XS m)] ?_ [] [(0,0),(1,1)] [(999999,.clo)];refine dCl 4 5 3 (fst:=[]) (cap:=[]) (gs:=[Oa 0]) (U6 (g:=λx:KSZ m=> .rsl 2 0 x.1.length) (c:=2) (c':=λ_=>3) (σR:=[(0,YB),(1,Tl m)]) [0,1] (λx:KSZ m=>[(0,YB),(1,Tl m),(2,Ke x.1)]) (AaE gl hm aa) ⟨⟨rfl,.inl rfl⟩,⟨rfl,rfl,rfl,rfl,.inr ⟨rfl,XS m⟩⟩,trivial⟩ (λx=>⟨⟨rfl,.inl rfl⟩,⟨rfl,rfl,rfl,rfl,.inr ⟨rfl,XS m⟩⟩,⟨rfl,.inr ⟨rfl,rZ.imm x.1⟩⟩,trivial⟩) (hcov:=λ_=>rfl) (hg:=λ_=>rfl) (hc:=λ_=>rfl)) λx=>?_;have hx:=hs x.1 x.2;have hxl:x.1.length<=12:=by rw[x.2.length_eq,Hl];exact hn
 have hsl:srt.length=x.1.length:=by rw[hsl,x.2.length_eq,Hl]
 rw[show(G.rsl 2 0 srt.length)= .rsl 2 0 x.1.length by rw[hsl]];exact mt .ret (s0 9 gl [(2,.rsl 2 0 x.1.length)] [(0,YB),(1,Tl m),(2,Ke srt)] 3 2) [.rsl 2 0 x.1.length] [tN 7 [2] 3 [(2,Ke x.1)] [.rsl 2 0 x.1.length] [(0,Ke srt)] (Pu gl hxl hx) ⟨⟨rfl,.inr ⟨rfl,rZ.imm x.1⟩⟩,trivial⟩ ⟨⟨rfl,.inr ⟨rfl,rZ.imm srt⟩⟩,trivial⟩] [hc (rfl:x.1.length=x.1.length),hc (XS m),hc (rZ.imm srt)]
theorem AeM(m:FM Int Bool):jg prog gl 86 [.mref 0] [(0,Tl m)] 1 (Oa 1) [(0,Tl m),(1,some ⟨XR,[.mref 0],none⟩)] 2:=by refine pP func86 ?_;exact mt .ret (s0 4 gl [(2,Oa 1)] [(0,Tl m),(1,some ⟨XR,[.mref 0],none⟩)] 2 1) [Oa 1] [] [hc (XS m)] (kd:=[(999999,.clo)])
def He(R:Ad):Bk:=(inZ (R.in_.es.map (·.1))).getD []
theorem le6{l:Bk}(hd:l.Nodup)(h:∀x∈l,1<=x/\x<=6):l.length<=6:=by
 have hs:∀x∈l.map Int.toNat,x∈List.range' 1 6:=by grind
 have hn:(l.map Int.toNat).Nodup:=by clear hs;induction l<;>grind
 have:=PN hn hs;grind
theorem Bj.len{R:Ad}(hR:Bj R):R.in_.es.length<=6:=by
 have:=le6 hR.ci.kd λx hx=>by obtain⟨e,he,rfl⟩:=EP.1 hx;exact hR.i6 e he
 rwa [Hl] at this
theorem Lo(hR:Bj R):Pv (He R)/\(He R).Perm (R.in_.es.map (·.1))/\∀a:Bk,a.Perm (R.in_.es.map (·.1))->inZ a=some (He R):=by have hl:=hR.len;obtain⟨r,e,p,s⟩:=Acg (l:=R.in_.es.map (·.1)) (by rw[Hl];omega);grind [He,Ach,List.Perm.length_eq,Hl]
abbrev bx2:Option Ob:=some ⟨XR,[.mref 2],none⟩
theorem RZ(hR:Bj R):SW prog gl 33 [.ref 0 0] (BG f0 R) 14 14 (aE cZ (He R)) (BG f0 R):=by
 obtain⟨h1,h2,h3⟩:=Lo hR;have hl:=hR.len;have hsl:(He R).length=R.in_.es.length:=by rw[h2.length_eq,Hl]
 generalize He R=srt at h1 h2 h3 hsl⊢;refine dFP func33 ?_;exact ZT [tN 7 [2] 14 [(2,Tl R.in_)] [.mref 2] [(0,Tl R.in_),(1,bx2)] (AeM gl R.in_) ⟨⟨rfl,rfl,rfl,rfl,.inr ⟨rfl,XS R.in_⟩⟩,trivial⟩ ⟨⟨rfl,rfl,rfl,rfl,.inr ⟨rfl,XS R.in_⟩⟩,⟨rfl,.inl rfl⟩,trivial⟩,tN 8 [14,2] 15 [(14,bx2),(2,Tl R.in_)] [Oa 14] [(0,bx2),(1,Tl R.in_),(2,Ke srt)] (Abu gl hR.ci.1 aa h3 hsl) ⟨⟨rfl,.inl rfl⟩,⟨rfl,rfl,rfl,rfl,.inr ⟨rfl,XS R.in_⟩⟩,trivial⟩ ⟨⟨rfl,.inl rfl⟩,⟨rfl,rfl,rfl,rfl,.inr ⟨rfl,XS R.in_⟩⟩,⟨rfl,.inr ⟨rfl,rZ.imm srt⟩⟩,trivial⟩] (hc (⟨rZ.len srt,rZ.imm srt,rfl⟩:(srt.flatMap cZ).length=srt.length*1/\(∀g∈srt.flatMap cZ,bB g)/\srt.length=srt.length)::rlA hR) (Gf f0) Nh
def Ko(n k:Nat):Option (Nat⊕Unit):=if k<n then some (.inl (k+1))else if k=n then some (.inr ())else none
theorem EO{n:Nat}(h:n<=1000000):AA (Ko n) 0=some ():=T.eq (T.loop (λk=>k<=n) (λk=>n-k) aa aa λk hk=>by
 unfold Ko;split
 .exact .some ⟨aa,aa⟩
 .rw[Bx aa];exact .some rfl)
def SB(m:Int)(Q:Ad)(d:Int):Ad:=bif Dq Q d=m then GV Q d else Q
def AeN(R:Ad)(o:Bp):Ad:=(He R).foldl (SB o.Member) R
theorem Ack{Q:Ad}(hQ:Bj Q)(m d:Int):Bj (SB m Q d):=by grind [SB,KE]
theorem UG{m:Int}:∀{l:Bk} {Q:Ad},Bj Q->Bj (l.foldl (SB m) Q)
 |[],Q,h=>h
 |d::r,Q,h=>UG (l:=r) (Ack h m d)
abbrev ρW:DD:=[(0,0),(1,1),(2,2),(3,3),(4,4),(5,16),(6,17),(7,18),(8,19),(9,20),(10,21),(11,22),(12,23),(13,24),(14,14),(15,15)]
theorem Abv(hR:Bj R){o:Bp}{i:Ab}(hk:o.Kind=3)(hd:o.Device=0):Ut gl R o i (AeN R o):=by
 have a1:decide (o.Kind=1)=false:=by rw[hk];rfl
 have a2:decide (o.Kind=2)=false:=by rw[hk];rfl
 have a3:decide (o.Kind=3)=true:=by rw[hk];rfl
 have ad:decide (o.Device≠0)=false:=C6 (by rw[hd];simp);have hdv:=RZ gl hR;have hn:(He R).length<=6:=by have:=(Lo hR).2.1.length_eq;rw[Hl] at this;rw[this];exact hR.len
 refine Pt gl hR ?_;unfold AeN;generalize He R=l at hdv hn⊢;have hQ:∀k,Bj ((l.take k).foldl (SB o.Member) R):=λk=>UG hR;refine pN (λk:Nat=>(s0 259 gl [(0,.ref 0 0),(4,.ref 14 0),(69,aE cZ l),(70,iG (ah l)),(71,iG (k:Int))] (Aeq ((l.take k).foldl (SB o.Member) R) o i) 16 5)) 111121414131122 (EO (n:=l.length) aa) [hr 29 a1,hr 52 a2,hr 60 a3,hr 63 ad,hrr 69 f0 16 [] hR hdv] (rlB ρD f0 hR) (λB k v hs k5 a=>?_) [] ρD Nh;unfold Ko at hs;split at hs
 .rename_i hlt;obtain rfl:=Bf hs;obtain⟨x,hx⟩:∃x,l[k]?=some x:=⟨_,DR hlt⟩;have hz:=Bg hx;have k5:=k5 _ rfl;have hq:=hQ k;rw[JJ,hx,Option.toList_some,On,List.foldl_cons,List.foldl_nil] at k5;generalize (l.take k).foldl (SB o.Member) R=Q at hq k5⊢;unfold SB at k5;cases hm:decide (Dq Q x=o.Member) with
  |false=>rw[hm] at k5;exact jw [hr 72 (Dd hx),AB 73 (rZ.ixZ hz),AB 74 (rZ.p1Z tZ hz),hof gl 77 hq x 16,hr 80 hm,hbb 84 (Xl (q:=k) aa)] (rlB ρD f0 hq) k5 [] ρD Nh
  |true=>rw[hm] at k5;exact jw [hr 72 (Dd hx),AB 73 (rZ.ixZ hz),AB 74 (rZ.p1Z tZ hz),hof gl 77 hq x 16,hr 80 hm,ZZ 83 f0 16 [iG x] hq (KE hq x) (aad gl hq x),hbb 84 (Xl (q:=k) aa)] (rlB ρW f16 (KE hq x)) k5 [] ρW Nh
 .split at hs
  .rename_i he;subst he;rw[EQ];exact Hj f0 _ (UG hR) [hr 72 (DZ (s:=l))] (rlX (f:=f0) (R:=l.foldl (SB o.Member) R))
  .cases hs
def Ug(R:Ad)(o:Bp)(i:Ab):Ad:=
 if o.Kind=1 then AaA R o else if o.Kind=2 then I6 R o.Device o.Role else if o.Kind=3 then(if o.Device=0 then AeN R o else GV R o.Device)else if o.Kind=5 then Uf R o else if o.Kind=9 then aaj R o i else if o.Kind=11 then XQ R o else if o.Kind=12 then VB R o else if o.Kind=13 then aal R o else R
structure UH (o:Bp) (i:Ab):Prop where
 i:i.By=o.By
 g:o.Guards.length<=1000000
 n:o.Kind=9->1<=o.Need/\o.Need<=1000000
 b:1<=o.By/\o.By<=6
theorem Q5(hR:Bj R){o:Bp}{i:Ab}(ho:UH o i):Bj (Ug R o i):=by
 unfold Ug;split
 .exact AeD hR o
 split
 .exact IH hR _ _
 split
 .split
  .exact UG hR
  .exact KE hR _
 grind [Acf,AeA,UH.i,UH.g,UH.n,Aey,UH.b,Aex,AeE]
theorem AeO(hR:Bj R){o:Bp}{i:Ab}(ho:UH o i):Ut gl R o i (Ug R o i):=by
 unfold Ug;split
 .exact AcZ gl hR (by assumption)
 split
 .exact Air gl hR (by assumption)
 split
 .split
  .grind [Abv]
  grind [AcV]
 split
 .exact Abn gl hR (by assumption)
 split
 .grind [AeB,UH.i,UH.g,UH.n]
 split
 .exact Aez gl hR (by assumption) ho.b
 split
 .exact AcX gl hR (by assumption)
 split
 .exact Abq gl hR (by assumption)
 grind [Agg]
def Aiz(l:LQ):FM Int DH:=l.foldl (λm c=>C3 m c.Device c) ⟨[],0⟩
def Hf(l:LQ):Ad:=⟨Aiz l,⟨[],0⟩,⟨[],0⟩,⟨[],0⟩,0⟩
structure Ac2 (l:LQ):Prop where
 n:l.length<=1000
 r:∀c∈l,1<=c.Device/\c.Device<=6/\1<=c.Member/\c.Member<=3
theorem AaF{d:Int}{c:DH}:∀{l:LQ} {m:FM Int DH},(l.foldl (λm c=>C3 m c.Device c) m).get d=some c->(c∈l/\c.Device=d)\/m.get d=some c
 |[],m,h=> .inr h
 |x::r,m,h=>by
  rcases AaF (l:=r) h with⟨h1,h2⟩|h
  all_goals grind [Bz]
theorem Lw(h:∀c∈l,1<=c.Device/\c.Device<=6/\1<=c.Member/\c.Member<=3):Bj (Hf l):=by
 have e:∀{K V:Type},QI (⟨[],0⟩:FM K V):=by grind [QI,FxOk]
 have hc:∀d,(DS ((Hf l).cards.get d)).Member=0\/∃c∈l,c.Device=d/\DS ((Hf l).cards.get d)=c:=λd=>by
  cases hg:(Hf l).cards.get d with
  |none=>exact .inl rfl
  |some c=>
   rcases AaF (l:=l) hg with⟨h1,h2⟩|h1
   .exact .inr ⟨c,h1,h2,rfl⟩
   .cases h1
 refine⟨e,e,e,λe he=>(by cases he),λd=>?_,λk x g h1=>(by cases h1),λk x g h1=>(by cases h1),λk x g h1=>(by cases h1),λk x g h1=>(by cases h1),λe he=>(by cases he),λd hd=>?_,λk x g h1=>(by cases h1)⟩;all_goals grind
abbrev ρN:DD:=[(0,4),(1,0),(2,1),(3,2),(4,3),(5,5),(6,6),(7,7),(8,8),(9,9),(10,10),(11,11),(12,12),(13,13)]
def fN0(k:Nat):Nat:=match k with
 |0=>4
 |1=>0
 |2=>1
 |3=>2
 |4=>3
 |k=>k
theorem AeP(hl:Ac2 l):SW prog gl 80 [aE bv l] [] 0 0 (.ref 0 0) (BG f0 (Hf l)):=by
 have hQ:∀k,Bj (Hf (l.take k)):=λk=>Lw λc hc=>hl.r c (List.mem_of_mem_take hc);refine dFP func80 ?_;refine pN (λk:Nat=>(s0 27 gl [(3,.ref 0 0),(12,aE bv l),(13,iG (ah l)),(14,iG (k:Int))] (BG f0 (Hf (l.take k))) 14 0)) 1110122 (EO (n:=l.length) (by have:=hl.n;omega)) [] (rlB ρN fN0 (hQ 0)) (λB k v hs k5 b=>?_) [] ρN Nh;unfold Ko at hs;split at hs
 .rename_i hlt;obtain rfl:=Bf hs;obtain⟨x,hx⟩:∃x,l[k]?=some x:=⟨_,DR hlt⟩;have hz:=Bg hx;have k5:=k5 _ rfl;have e:Hf (l.take (k+1))={Hf (l.take k) with cards:=C3 (Hf (l.take k)).cards x.Device x}:=by unfold Hf Aiz;rw[JJ,hx,Option.toList_some,On];rfl
  have hq:=hQ k;have a:=hQ (k+1);rw[e] at k5 a;have hn:=hl.n;have hp:=AeH (P:=prog) (σ:=[(1,some (MZ tMc JN cdG (Hf (l.take k)).cards))]) (i:=1) (t:=tMc) (t':=tMc) (vg:=cdG) (et:=78) O6 Acd aH (k:=x.Device) (gk:=iG x.Device) rfl (m:=(Hf (l.take k)).cards) rfl x;generalize Hf (l.take k)=Q at hq a hp k5⊢;exact jw [hr 15 (Dd hx),AB 16 (bT.ixZ hz),AB 17 (bT.ptZ E2 hz),hmr 15 hp,hbb 25 (Xl (q:=k) aa)] (rlB (Gf f0) f0 a) k5 [] (Gf f0) Nh
 .split at hs
  .rename_i he;subst he;rw[EQ];exact ZT [hr 15 (DZ (s:=l))] (rlB (Gf f0) f0 (Lw hl.r)) (Gf f0) Nh
  .cases hs
def I9(R:Ad)(m:Int):Bool:=decide (LW R m=3)
def AeQ(R:Ad)(o:Bp)(m:Int):Int:=bif DY R o.Device then(bif I9 R m then 0 else bif Dq R o.Device≠m then 14 else 0)else 17
def Ac3(R:Ad)(o:Bp)(m:Int):Int:=bif o.Device≠0 then(bif OI R o.Device then(bif I9 R m then 0 else bif Dq R o.Device≠m then 14 else 0)else 17)else match R.members.get o.Member with
 |none=>16
 |some _=>bif I9 R m then 0 else bif o.Member≠m then 14 else 0
def AeR(R:Ad)(o:Bp)(m:Int):Int:=bif I9 R m then(match R.members.get o.Member with
 |none=>16
 |some _=>0)else 14
def AeS(R:Ad)(m:Int):Int:=bif LW R m<2 then 14 else 0
def AeT(R:Ad)(o:Bp)(m:Int):Int:=bif I9 R m then 0 else bif Dq R o.Of.By≠m then 14 else 0
def AaG(R:Ad)(o:Bp)(m:Int):Int:=match R.members.get m with
 |none=>25
 |some x=>match x.guard with
  |none=>25
  |some g=>bif g.id=o.Of then 0 else 25
theorem SC(R:Ad)(m:Int):ba prog gl 407 [.ptr (CA R) 0,iG m] (bG (I9 R m)):=Gh func407 (Ar [hf 7 (UE gl R m)] [])
theorem Aml(R:Ad)(d:Int):∀σ,bL prog σ Ye false (FM.g JN bG R.in_) (iG d)=some (bG (OI R d)):=Sb R.in_ d
theorem Agq(R:Ad)(o:Bp)(m:Int):ba prog gl 406 [.ptr (CA R) 0,.agg (aJ o),iG m] (iG (AeQ R o m)):=by
 have h1:=Aaw gl R o.Device;have h2:=SC gl R m;have h3:=Aav gl R o.Device;unfold AeQ;refine Gh func406 ?_;cases b1:DY R o.Device with
 |false=>rw[b1] at h1;exact Ar [hf 11 h1] []
 |true=>
  rw[b1] at h1;cases b2:I9 R m with
  |true=>rw[b2] at h2;exact Ar [hf 11 h1,hf 16 h2] []
  |false=>
   rw[b2] at h2;cases b3:decide (Dq R o.Device≠m) with
   |true=>exact Ar [hf 11 h1,hf 16 h2,hf 22 h3,hr 24 b3] []
   |false=>exact Ar [hf 11 h1,hf 16 h2,hf 22 h3,hr 24 b3] []
theorem Agr(R:Ad)(o:Bp)(m:Int):ba prog gl 408 [.ptr (CA R) 0,.agg (aJ o),iG m] (iG (Ac3 R o m)):=by
 have h2:=SC gl R m;have h3:=Aav gl R o.Device;have h4:=Aml R o.Device;have h5:=Agh R o.Member;unfold Ac3;refine Gh func408 ?_;cases b1:decide (o.Device≠0) with
 |true=>
  cases b4:OI R o.Device with
  |false=>rw[b4] at h4;exact Ar [hr 12 b1,hm 19 h4] []
  |true=>
   rw[b4] at h4;cases b2:I9 R m with
   |true=>rw[b2] at h2;exact Ar [hr 12 b1,hm 19 h4,hf 24 h3,hf 35 h2] []
   |false=>
    rw[b2] at h2;cases b3:decide (Dq R o.Device≠m) with
    |true=>exact Ar [hr 12 b1,hm 19 h4,hf 24 h3,hf 35 h2,hr 40 b3] []
    |false=>exact Ar [hr 12 b1,hm 19 h4,hf 24 h3,hf 35 h2,hr 40 b3] []
 |false=>
  cases b5:R.members.get o.Member with
  |none=>rw[b5] at h5;exact Ar [hr 12 b1,hm 31 h5] []
  |some x=>
   rw[b5] at h5;cases b2:I9 R m with
   |true=>rw[b2] at h2;exact Ar [hr 12 b1,hm 31 h5,hf 35 h2] []
   |false=>
    rw[b2] at h2;cases b3:decide (o.Member≠m) with
    |true=>exact Ar [hr 12 b1,hm 31 h5,hf 35 h2,hr 40 b3] []
    |false=>exact Ar [hr 12 b1,hm 31 h5,hf 35 h2,hr 40 b3] []
theorem Ags(R:Ad)(o:Bp)(m:Int):ba prog gl 409 [.ptr (CA R) 0,.agg (aJ o),iG m] (iG (AeR R o m)):=by
 have h2:=SC gl R m;have h5:=Agh R o.Member;unfold AeR;refine Gh func409 ?_;cases b2:I9 R m with
 |false=>rw[b2] at h2;exact Ar [hf 10 h2] []
 |true=>
  rw[b2] at h2;cases b5:R.members.get o.Member with
  |none=>rw[b5] at h5;exact Ar [hf 10 h2,hm 19 h5] []
  |some x=>rw[b5] at h5;exact Ar [hf 10 h2,hm 19 h5] []
theorem Agt(R:Ad)(o:Bp)(m:Int):ba prog gl 410 [.ptr (CA R) 0,.agg (aJ o),iG m] (iG (AeS R m)):=by
 unfold AeS;refine Gh func410 ?_;cases b:decide (LW R m<2) with
 |true=>exact Ar [hf 9 (UE gl R m),hr 10 b] []
 |false=>exact Ar [hf 9 (UE gl R m),hr 10 b] []
theorem Agu(R:Ad)(o:Bp)(m:Int):ba prog gl 411 [.ptr (CA R) 0,.agg (aJ o),iG m] (iG (AeT R o m)):=by
 have h2:=SC gl R m;have h3:=Aav gl R o.Of.By;unfold AeT;refine Gh func411 ?_;cases b2:I9 R m with
 |true=>rw[b2] at h2;exact Ar [hf 9 h2] []
 |false=>
  rw[b2] at h2;cases b3:decide (Dq R o.Of.By≠m) with
  |true=>exact Ar [hf 9 h2,hf 16 h3,hr 18 b3] []
  |false=>exact Ar [hf 9 h2,hf 16 h3,hr 18 b3] []
theorem Acl(R:Ad)(o:Bp)(m:Int):ba prog gl 414 [.ptr (CA R) 0,.agg (aJ o),iG m] (iG (AaG R o m)):=by
 have h5:=Agh R m;unfold AaG;refine Gh func414 ?_;cases b5:R.members.get m with
 |none=>rw[b5] at h5;exact Ar [hm 13 h5] []
 |some x=>
  rw[b5] at h5;obtain⟨role,gd⟩:=x;cases gd with
  |none=>exact Ar [hm 13 h5] []
  |some g=>
   dsimp only;cases b:decide (g.id=o.Of) with
   |true=>exact Ar [hm 13 h5,hV 33 (dy g.id o.Of (r:=false) (by rw[b];rfl))] []
   |false=>exact Ar [hm 13 h5,hV 33 (dy g.id o.Of (r:=true) (by rw[b];rfl))] []
def eQ{K V:Type}(m:FM K V)(seen:Bq):List (K×V×Nat):=seen.filterMap λn=>m.es.find? λe=>Nat.beq e.2.2 n
theorem R0{K V:Type}:∀{es:List (K×V×Nat)} {e:K×V×Nat},(es.map (·.2.2)).Nodup->e∈es->es.find? (λx=>Nat.beq x.2.2 e.2.2)=some e
 |[],e,_,h=>by cases h
 |x::r,e,hd,h=>by
  rw[E7,LS] at hd;rcases EG.1 h with rfl|h
  .simp
  .have hb:Nat.beq x.2.2 e.2.2=false:=by grind [bc]
   rw[List.find?_cons,hb];exact R0 hd.2 h
theorem AeU(hm:FxOk m)(he:e∈m.es):eQ m (seen++[e.2.2])=eQ m seen++[e]:=by unfold eQ;rw[List.filterMap_append];simp[R0 hm.nd he]
theorem Ahs{K V:Type}{m:FM K V}(hm:FxOk m):∀es:List (K×V×Nat),(∀e∈es,e∈m.es)->eQ m (es.map (·.2.2))=es
 |[],_=>rfl
 |e::r,h=>by have ih:=Ahs hm r (by grind);unfold eQ at ih⊢;rw[E7,List.filterMap_cons,R0 hm.nd (h e aC),ih]
theorem Acm(hm:FxOk m)(h:KsQ m seen)(ha:∀e∈m.es,e.2.2∈seen):(eQ m seen).Perm m.es:=by have hp:seen.Perm (m.es.map (·.2.2)):=(List.perm_ext_iff_of_nodup h.1 hm.nd).2 λn=>⟨h.2 n,(by grind)⟩;have h1:(eQ m seen).Perm (eQ m (m.es.map (·.2.2))):=hp.filterMap _;rwa [Ahs hm m.es λe h=>h] at h1
theorem AiA(h:e∈eQ m seen):e∈m.es:=by grind [eQ]
theorem Akx:∀{seen:Bq},KsQ m seen->(eQ m seen).Nodup
 |[],_=> .nil
 |n::r,h=>by grind [KsQ,eQ,bc]
abbrev dvE(d:Int)(l:List (CM×Int×Nat)):Bk:=(l.filter λe=>decide (e.1.device=d)).map (·.2.1)
theorem aaF{m:FM CM Int}(hk:(m.es.map (·.1)).Nodup)(hb:∀e∈m.es,1<=e.1.by_/\e.1.by_<=6){l:List (CM×Int×Nat)}(hn:l.Nodup)(hs:∀e∈l,e∈m.es)(d:Int):(dvE d l).length<=6:=by
 unfold dvE;rw[Hl];have key:∀l:List (CM×Int×Nat),l.Nodup->(∀e∈l,e∈m.es/\e.1.device=d)->(l.map (·.1.by_)).Nodup:=by
  intro l;induction l with
  |nil=>intro _ _;exact .nil
  |cons a r ih=>
   intro hn hs;rw[LS] at hn;rw[E7,LS];refine⟨λhm=>?_,(by grind)⟩;obtain⟨b,hb,e⟩:=EP.1 hm;obtain⟨a1,a2⟩:=hs a aC;obtain⟨b1,b2⟩:=hs b (by simp[hb]);have:a.1=b.1:=by cases h1:a.1;cases h2:b.1;grind
   grind [Nj]
 have h2:=le6 (key _ (hn.sublist List.filter_sublist) λe he=>⟨hs e (Hk.1 he).1,DL (Hk.1 he).2⟩) λx hx=>by obtain⟨e,he,rfl⟩:=EP.1 hx;exact hb e (hs e (Hk.1 he).1)
 rwa [Hl] at h2
def Abx(g:Cd)(d:Int):Bk:=(inZ (dvE d g.vouches.es)).getD []
def XT(R:Ad)(m d:Int):Int×Int:=match R.members.get m with
 |none=>(0,4)
 |some x=>match x.guard with
  |none=>(0,4)
  |some g=>bif ah (Abx g d)<g.need then(0,26)else bif g.objected&&decide ((Abx g d).getD 0 0<=g.last)then(0,28)else(wI ((Abx g d).getD (g.need.toNat-1) 0+g.wait),0)
abbrev frV(a:Nat){R:Ad}{k:Int}{x:Az}(_:R.members.get k=some x):Fr:=[(a,.ref (3+nM k) 0)]
abbrev miV{R:Ad}{k:Int}{x:Az}(_:R.members.get k=some x):Nat:=6+nM k
abbrev Agv(ρ:DD){R:Ad}(hR:Bj R){l:List (Nat×Ob)}(hl:∀q∈l,Bu f0 R q.1=some q.2)(h:okR ρ f0=true:=by kernel_rfl):List HP:=L0.map λk=>hc (show XL (It ρ) (tg R l k) (tg R l k) from(YA hl k).symm▸Ps (κ:=It ρ) (f:=f0) (f':=f0) (λk ⟨ob,hk⟩=>Z2 h (DV hk)) hR k)
abbrev ρV:DD:=Gf f0++[(14,14),(15,18)]
abbrev kdV:List (Nat×Rk):=Nh++[(15,.row)]
abbrev frD{R:Ad}{k:Int}{x:Az}(hx:R.members.get k=some x)(d:Int)(a:Bk):Fr:=frV 9 hx++[(2,iG d),(10,.rsl 15 0 a.length),(36,.ref 14 0)]
abbrev stD{R:Ad}{k:Int}{x:Az}(hx:R.members.get k=some x){l:List (Nat×Ob)}(hl:∀q∈l,Bu f0 R q.1=some q.2)(g:Cd)(seen:Bq)(a:Bk):aQ:=stT hl++[(14,aac tMv (miV hx) g.vouches.clk seen),(15,Ke a)]
theorem AiB(hR:Bj R)(m d:Int):SW prog gl 417 [.ref 0 0,iG m,iG d] (BG f0 R) 14 14 (.tup [iG (XT R m d).1,iG (XT R m d).2]) (BG f0 R):=by
 have hr2:∀a b:Int,bB (.tup [iG a,iG b]):=λa b=>L7 λg hg=>by simp only[EG,KY,or_false] at hg;rcases hg with rfl|rfl<;>exact mN _
 refine dFP func417 ?_;unfold XT;cases hx:R.members.get m with
 |none=>have hr:=hr2 0 4;exact Hj f0 _ hR [KX 18 (Vv hx)] (Hz R hr)
 |some x=>
  have hlk:=RW hx;obtain⟨j,hj,o⟩:∃j:Nat,m=(j:Int)/\(j=1\/j=2\/j=3):=by grind [Agd]
  subst hj;obtain⟨role,gd⟩:=x;cases gd with
  |none=>
   have hl:=hl1 o hx;have hr:=hr2 0 4;rcases o with rfl|rfl|rfl
   all_goals
    refine pO 11100 (s0 88 gl (frP 8 hx++[(2,iG d)]) (stT hl) 14 14) [KX 18 hlk] (rlT (Gf f0) f0 hR hl) ?_ (ρ:=Gf f0) (kd:=Nh)
    exact Hj f0 _ hR [] (VA hl hr)
  |some g=>
   have hl:=hl3 o hx;have hv:=hR.cv _ _ g hx rfl;obtain⟨t,u⟩:=hR.gN _ _ g hx rfl;have hb:=hR.vb _ _ g hx rfl;have h6:=aaF hv.kd hb (List.Pairwise.of_map (λx=>x.1) (λa b h e=>h (by rw[e])) hv.kd) (λe he=>he) d;obtain⟨srt,e1,p1,s1⟩:=Acg (l:=dvE d g.vouches.es) aa;have hsr:∀p:Bk,p.Perm (dvE d g.vouches.es)->inZ p=some srt:=λp hk=>Ach s1 (hk.trans p1.symm) (by rw[p1.length_eq];omega);have hda:Abx g d=srt:=by unfold Abx;rw[e1];rfl
   dsimp only;rw[hda];have hadd:∀seen (e:CM×Int×Nat),e∈g.vouches.es->dvE d (eQ g.vouches (seen++[e.2.2]))=dvE d (eQ g.vouches seen)++(if e.1.device=d then[e.2.1] else[]):=λseen e he=>by grind [AeU,QI.toFxOk]
   rcases o with rfl|rfl|rfl
   all_goals
    refine pO 11100 (s0 88 gl (frP 8 hx++[(2,iG d)]) (stT hl) 14 14) [KX 18 hlk] (rlT (Gf f0) f0 hR hl) ?_ (ρ:=Gf f0) (kd:=Nh)
    refine pO 11111100 (s0 88 gl (frV 9 hx++[(2,iG d),(10,Iy)]) (stT hl) 14 14) [] (Agv (Gf f0) hR hl) ?_ (ρ:=Gf f0) (kd:=Nh)
    refine yl (Bs':=[]) [1,1,1,1,1,0,0] (J:=(s0 88 gl (frD hx d []) (stD hx hl g [] []) 16 14)) [] (Agv ρD hR hl++[hc (rZ.imm [])]) ?_ (vs:=[3]) (ρ:=ρD) (kd:=kdV)
    refine dNx 11111101 ?_
    refine dMw 36 37 38 0 (iti:=14) (mi:=miV hx) (clock:=g.vouches.clk) (since:=g.vouches.clk) (T:=tMv) (ty:=tMv) (es:=mEs BW iG g.vouches) (λseen=>(s0 88 gl (frD hx d (dvE d (eQ g.vouches seen))) (stD hx hl g seen (dvE d (eQ g.vouches seen))) 16 14)) (KsQ g.vouches) aat (λe he=>by obtain⟨x,hx,rfl⟩:=EP.1 he;exact hv.1.lt x hx) rfl (Le.refl _) (λseen=>aH) (λseen=>aH) (λseen=>⟨show 37<88 by decide,show 38<88 by decide⟩) (λB seen k w n hI hme hns c=>?_) (λseen hI hs=>?_)
    .obtain⟨e,he,r⟩:=EP.1 hme
     simp only[FF] at r
     obtain⟨rfl,rfl,rfl⟩:=r
     have hla:=aaF hv.kd hb (Akx hI) (λe he=>AiA he) d
     have c:=c (aaE hI he hns)
     rw[hadd seen e he] at c
     generalize dvE d (eQ g.vouches seen)=a at hla c⊢
     have hge:jr ((14,aac tMv (miV hx) g.vouches.clk (seen++[e.2.2]))::stD hx hl g seen a) (.ref 14 0)=some (.tup [db (BW e.1),iG e.2.1]):=yo (iti:=14) (mi:=miV hx) (since:=g.vouches.clk) (clock:=g.vouches.clk) (T:=tMv) (ty:=tMv) (seen:=seen) aH aH (by rw[HR];exact hv.1.nd) hme
     cases hdv:decide (e.1.device=d) with
     |false=>
      rw[BA (LR hdv),MG] at c
      exact jw [YT 39 hge,hr 45 hdv] (hc (rfl:a.length=a.length)::Agv ρD hR hl++[hc (rZ.imm a)]) c [] ρD kdV
     |true=>
      rw[Bx (DL hdv)] at c
      exact jw [YT 39 hge,hr 45 hdv,Tn 49 rZ 8 a e.2.1 aa] (hc (el (a++[e.2.1]))::Agv ρV hR hl++[hc (rZ.imm (a++[e.2.1]))]) c [] ρV kdV
    .have hp:=Acm hv.1 hI λe he=>hs (BW e.1,iG e.2.1,e.2.2) (EP.2 ⟨e,he,rfl⟩)
     have hpa:(dvE d (eQ g.vouches seen)).Perm (dvE d g.vouches.es):=(hp.filter _).map _
     generalize dvE d (eQ g.vouches seen)=a at hpa⊢
     have hi:=hsr a hpa
     have hsl:srt.length=a.length:=by rw[p1.length_eq,hpa.length_eq]
     have hal:a.length<=6:=by rw[hpa.length_eq];exact h6
     have hlz:decide ((a.length:Int)<g.need)=decide (ah srt<g.need):=by unfold ah;rw[hsl]
     cases c1:decide (ah srt<g.need) with
     |true=>
      have hr:=hr2 0 26
      exact Hj f0 _ hR [tN 51 [15] 16 [(15,Ke a)] [.rsl 15 0 a.length] [(0,Ke srt)] (Pu gl aa hi) ⟨⟨rfl,.inr ⟨rfl,rZ.imm a⟩⟩,trivial⟩ ⟨⟨rfl,.inr ⟨rfl,rZ.imm srt⟩⟩,trivial⟩,Go.Proofs.YtghphhhpagagbaaGreatDoor.hr 59 (hlz.trans c1)] (VA hl hr)
     |false=>
      have hge:g.need<=ah srt:=by have:=LR c1;omega
      have hz0:aS srt 0=some (srt.getD 0 0):=by grind [au]
      have h71:fh prog 22 (.rsl 15 0 a.length) 0=some (.ref 15 (0+(0:Int).toNat*1)):=by rw[<-hsl];exact rZ.ixrZ 15 hz0
      have f:=rZ.p10Z tZ hz0
      have hw1:wI (g.need-1)=((g.need.toNat-1:Nat):Int):=by grind [bM]
      have hz1:aS srt (wI (g.need-1))=some (srt.getD (g.need.toNat-1) 0):=by grind [au]
      have h81:fh prog 22 (.rsl 15 0 a.length) (wI (g.need-1))=some (.ref 15 (0+(wI (g.need-1)).toNat*1)):=by rw[<-hsl];exact rZ.ixrZ 15 hz1
      have i:=rZ.p10Z tZ hz1
      obtain⟨v,gg,gn,s,y,go,q⟩:=g
      dsimp only at*
      cases go with
      |false=>
       have hr:=hr2 (wI (srt.getD (gn.toNat-1) 0+s)) 0
       exact Hj f0 _ hR [tN 51 [15] 16 [(15,Ke a)] [.rsl 15 0 a.length] [(0,Ke srt)] (Pu gl aa hi) ⟨⟨rfl,.inr ⟨rfl,rZ.imm a⟩⟩,trivial⟩ ⟨⟨rfl,.inr ⟨rfl,rZ.imm srt⟩⟩,trivial⟩,Go.Proofs.YtghphhhpagagbaaGreatDoor.hr 59 (hlz.trans c1),AB 81 h81,AB 82 i] (VA hl hr)
      |true=>
       cases c2:decide (srt.getD 0 0<=q) with
       |true=>
        have hr:=hr2 0 28
        exact Hj f0 _ hR [tN 51 [15] 16 [(15,Ke a)] [.rsl 15 0 a.length] [(0,Ke srt)] (Pu gl aa hi) ⟨⟨rfl,.inr ⟨rfl,rZ.imm a⟩⟩,trivial⟩ ⟨⟨rfl,.inr ⟨rfl,rZ.imm srt⟩⟩,trivial⟩,Go.Proofs.YtghphhhpagagbaaGreatDoor.hr 59 (hlz.trans c1),AB 71 h71,AB 72 f,Go.Proofs.YtghphhhpagagbaaGreatDoor.hr 73 c2] (VA hl hr)
       |false=>
        have hr:=hr2 (wI (srt.getD (gn.toNat-1) 0+s)) 0
        exact Hj f0 _ hR [tN 51 [15] 16 [(15,Ke a)] [.rsl 15 0 a.length] [(0,Ke srt)] (Pu gl aa hi) ⟨⟨rfl,.inr ⟨rfl,rZ.imm a⟩⟩,trivial⟩ ⟨⟨rfl,.inr ⟨rfl,rZ.imm srt⟩⟩,trivial⟩,Go.Proofs.YtghphhhpagagbaaGreatDoor.hr 59 (hlz.trans c1),AB 71 h71,AB 72 f,Go.Proofs.YtghphhhpagagbaaGreatDoor.hr 73 c2,AB 81 h81,AB 82 i] (VA hl hr)
def AeV(R:Ad)(o:Bp):Int:=bif o.Guards.any λd=> !OI R d then 17 else 0
def Ac4(R:Ad)(o:Bp):Int:=bif (C7 R o).2≠0 then(C7 R o).2 else bif Dq R o.Device≠(C7 R o).1 then 16 else bif DY R o.Device then 0 else 17
def AiC(R:Ad)(o:Bp)(w:Int):Bool:=bif OI R o.Old then(bif Dq R o.Old≠w then true else bif DY R o.Device then decide (Dq R o.Device≠w)else true)else true
def Ac5(R:Ad)(o:Bp):Int:=bif (C7 R o).2≠0 then(C7 R o).2 else bif AiC R o (C7 R o).1 then 17 else bif (XT R (C7 R o).1 o.Device).2=0 then(bif o.At<(XT R (C7 R o).1 o.Device).1 then 27 else 0)else(XT R (C7 R o).1 o.Device).2
theorem Agw(R:Ad){o:Bp}(hg:o.Guards.length<=1000000)(m:Int):ba prog gl 412 [.ptr (CA R) 0,.agg (aJ o),iG m] (iG (AeV R o)):=XK gl (by grind [US,AaB,Ny,OI,AeV])
theorem Agx(hR:Bj R)(o:Bp)(m:Int):SW prog gl 415 [.ref 0 0,.agg (aJ o),iG m] (BG f0 R) 14 14 (iG (Ac4 R o)) (BG f0 R):=by
 refine dFP func415 ?_;have hg:=Tk gl hR o;unfold Ac4;generalize C7 R o=we at hg⊢;obtain⟨w,e⟩:=we;dsimp only at hg⊢;have hre:bB (iG e):=mN _;have hr16:bB (iG 16):=mN _;have hr17:bB (iG 17):=mN _;have hr0:bB (iG 0):=mN _;cases c1:decide (e≠0) with
 |true=>exact Hj f0 _ hR [hrr 12 f0 15 [.agg (aJ o)] hR hg,hr 17 c1] (Hz R hre)
 |false=>
  cases c2:decide (Dq R o.Device≠w) with
  |true=>exact Hj f0 _ hR [hrr 12 f0 15 [.agg (aJ o)] hR hg,hr 17 c1,hof gl 23 hR o.Device 15,hr 25 c2] (Hz R hr16)
  |false=>
   cases c3:DY R o.Device with
   |true=>exact Hj f0 _ hR [hrr 12 f0 15 [.agg (aJ o)] hR hg,hr 17 c1,hof gl 23 hR o.Device 15,hr 25 c2,hfr gl 30 hR c3 15] (Hz R hr0)
   |false=>exact Hj f0 _ hR [hrr 12 f0 15 [.agg (aJ o)] hR hg,hr 17 c1,hof gl 23 hR o.Device 15,hr 25 c2,hfr gl 30 hR c3 15] (Hz R hr17)
theorem Agy(hR:Bj R)(o:Bp)(m:Int):SW prog gl 416 [.ref 0 0,.agg (aJ o),iG m] (BG f0 R) 14 14 (iG (Ac5 R o)) (BG f0 R):=by
 refine dFP func416 ?_;have hg:=Tk gl hR o;have hin:=Agf R o.Old;unfold Ac5;generalize C7 R o=we at hg⊢;obtain⟨w,e⟩:=we;dsimp only at hg⊢;have hre:bB (iG e):=mN _;have hr17:bB (iG 17):=mN _;have hr27:bB (iG 27):=mN _;have hr0:bB (iG 0):=mN _;cases c1:decide (e≠0) with
 |true=>exact Hj f0 _ hR [hrr 13 f0 15 [.agg (aJ o)] hR hg,hr 18 c1] (Hz R hre)
 |false=>
  unfold AiC;cases c2:OI R o.Old with
  |false=>rw[c2] at hin;exact Hj f0 _ hR [hrr 13 f0 15 [.agg (aJ o)] hR hg,hr 18 c1,KX 27 hin] (Hz R hr17)
  |true=>
   rw[c2] at hin;cases c3:decide (Dq R o.Old≠w) with
   |true=>exact Hj f0 _ hR [hrr 13 f0 15 [.agg (aJ o)] hR hg,hr 18 c1,KX 27 hin,hof gl 33 hR o.Old 15,hr 35 c3] (Hz R hr17)
   |false=>
    cases c4:DY R o.Device with
    |false=>exact Hj f0 _ hR [hrr 13 f0 15 [.agg (aJ o)] hR hg,hr 18 c1,KX 27 hin,hof gl 33 hR o.Old 15,hr 35 c3,hfr gl 40 hR c4 15] (Hz R hr17)
    |true=>
     cases c5:decide (Dq R o.Device≠w) with
     |true=>exact Hj f0 _ hR [hrr 13 f0 15 [.agg (aJ o)] hR hg,hr 18 c1,KX 27 hin,hof gl 33 hR o.Old 15,hr 35 c3,hfr gl 40 hR c4 15,hof gl 46 hR o.Device 15,hr 48 c5] (Hz R hr17)
     |false=>
      have hd:=AiB gl hR w o.Device;generalize XT R w o.Device=de at hd⊢;obtain⟨a,e2⟩:=de;dsimp only[Be,ax] at hd⊢;have hre2:bB (iG e2):=mN _;cases c6:decide (e2=0) with
      |false=>exact Hj f0 _ hR [hrr 13 f0 15 [.agg (aJ o)] hR hg,hr 18 c1,KX 27 hin,hof gl 33 hR o.Old 15,hr 35 c3,hfr gl 40 hR c4 15,hof gl 46 hR o.Device 15,hr 48 c5,hrr 55 f0 15 [iG w,iG o.Device] hR hd,hr 59 c6] (Hz R hre2)
      |true=>
       cases c7:decide (o.At<a) with
       |true=>exact Hj f0 _ hR [hrr 13 f0 15 [.agg (aJ o)] hR hg,hr 18 c1,KX 27 hin,hof gl 33 hR o.Old 15,hr 35 c3,hfr gl 40 hR c4 15,hof gl 46 hR o.Device 15,hr 48 c5,hrr 55 f0 15 [iG w,iG o.Device] hR hd,hr 59 c6,hr 64 c7] (Hz R hr27)
       |false=>have:e2=0:=DL c6;subst this;exact Hj f0 _ hR [hrr 13 f0 15 [.agg (aJ o)] hR hg,hr 18 c1,KX 27 hin,hof gl 33 hR o.Old 15,hr 35 c3,hfr gl 40 hR c4 15,hof gl 46 hR o.Device 15,hr 48 c5,hrr 55 f0 15 [iG w,iG o.Device] hR hd,hr 59 c6,hr 64 c7] (Hz R hr0)
def Aby(R:Ad)(o:Bp)(m:Int):Int:=if o.Kind=2 then AeQ R o m else if o.Kind=3 then Ac3 R o m else if o.Kind=5 then AeR R o m else if o.Kind=6 then AeS R m else if o.Kind=8 then AeT R o m else if o.Kind=9 then AeV R o else if o.Kind=10 then AaG R o m else if o.Kind=11 then Ac4 R o else if o.Kind=12 then AaG R o m else if o.Kind=13 then Ac5 R o else 0
def SD(R:Ad)(o:Bp):Int:=if o.Kind=1 then(bif Dq R o.By=0 then 17 else bif 0<(R.was.es.length:Int)then 5 else 0)else bif OI R o.By then Aby R o (Dq R o.By)else 15
abbrev tAs:Bo:=197
theorem Amo{z:Int}(hz:z=(k:Int))(hk:k<14):fh prog tAs (.ptr IU 0) z=some (.ptr IU k):=by
 subst hz;rcases(by omega:k=0\/k=1\/k=2\/k=3\/k=4\/k=5\/k=6\/k=7\/k=8\/k=9\/k=10\/k=11\/k=12\/k=13) with rfl|rfl|rfl|rfl|rfl|rfl|rfl|rfl|rfl|rfl|rfl|rfl|rfl|rfl
 all_goals kernel_rfl
abbrev Aky(R:Ad)(o:Bp)(i:Ab)(r:Int):Prop:=SW prog fI 71 [.ref 0 0,.agg (aJ o),.agg (aj i)] (BG f0 R) 14 14 (iG r) (BG f0 R)
theorem Amp{o:Bp}{m:Int}:∀x∈[G.agg (aJ o),iG m],bB x:=λx hx=>by
 simp only[EG,KY,or_false] at hx;rcases hx with rfl|rfl
 .exact aG 20 _ aH
 .exact mN _
abbrev hla(d:Nat){R:Ad}(hR:Bj R){f:FuncId}{o:Bp}{m r:Int}(h:ba prog fI f [.ptr (CA R) 0,.agg (aJ o),iG m] (iG r))(hc:aK prog f=true:=by kernel_rfl):HP:=hrl d f0 16 hR h Amp (lR _) (hc:=hc)
theorem AeW(hR:Bj R){o:Bp}{i:Ab}(hg:o.Guards.length<=1000000):Aky R o i (SD R o):=by
 refine dFP func71 ?_;have hi0:∀r:Int,bB (iG r):=λr=>mN _;have hin:=Agf R o.By;unfold SD;split
 .rename_i hk;have a1:decide (o.Kind=1)=true:=CO hk;have hle:decide (0<((mEs JN bG R.was).length:Int))=decide (0<(R.was.es.length:Int)):=by rw[Hl]
  have c:=hi0 17;have h5:=hi0 5;have h0:=hi0 0;cases c1:decide (Dq R o.By=0) with
  |true=>exact Hj f0 _ hR [hr 9 a1,hof fI 14 hR o.By 16,hr 15 c1] (Hz R c)
  |false=>
   cases c2:decide (0<(R.was.es.length:Int)) with
   |true=>exact Hj f0 _ hR [hr 9 a1,hof fI 14 hR o.By 16,hr 15 c1,hr 22 (hle.trans c2)] (Hz R h5)
   |false=>exact Hj f0 _ hR [hr 9 a1,hof fI 14 hR o.By 16,hr 15 c1,hr 22 (hle.trans c2)] (Hz R h0)
 .rename_i hk1;have a1:decide (o.Kind=1)=false:=C6 hk1;cases hb:OI R o.By with
  |false=>rw[hb] at hin;have d:=hi0 15;exact Hj f0 _ hR [hr 9 a1,KX 29 hin] (Hz R d)
  |true=>
   rw[hb] at hin;rw[ax];have h0:=hi0 0;by_cases hlo:o.Kind<0
   .have:Aby R o (Dq R o.By)=0:=by unfold Aby;repeat rw[BA aa]
    rw[this];exact Hj f0 _ hR [hr 9 a1,KX 29 hin,hr 33 (CO hlo)] (Hz R h0)
   by_cases hhi:14<=o.Kind
   .have:Aby R o (Dq R o.By)=0:=by unfold Aby;repeat rw[BA aa]
    rw[this];exact Hj f0 _ hR [hr 9 a1,KX 29 hin,hr 33 (C6 hlo),hr 37 (show decide (14<=o.Kind)=true from CO hhi)] (Hz R h0)
   have a33:decide (o.Kind<0)=false:=C6 hlo;have a37:decide (14<=o.Kind)=false:=C6 hhi;unfold Aby;obtain⟨k,hk,b⟩:∃k:Nat,o.Kind=(k:Int)/\k<14:=⟨o.Kind.toNat,aa,aa⟩;have a:=Amo hk b;rcases(by omega:k=0\/k=1\/k=2\/k=3\/k=4\/k=5\/k=6\/k=7\/k=8\/k=9\/k=10\/k=11\/k=12\/k=13) with rfl|rfl|rfl|rfl|rfl|rfl|rfl|rfl|rfl|rfl|rfl|rfl|rfl|rfl
   .repeat rw[BA aa]
    exact Hj f0 _ hR [hr 9 a1,KX 29 hin,hr 33 a33,hr 37 a37,AB 42 a] (Hz R h0)
   .exact absurd hk hk1
   .rw[Bx aa];have hr0:=hi0 (AeQ R o (Dq R o.By));exact Hj f0 _ hR [hr 9 a1,KX 29 hin,hr 33 a33,hr 37 a37,AB 42 a,AB 48 a,hof fI 55 hR o.By 16,hla 56 hR (Agq fI R o (Dq R o.By))] (Hz R hr0)
   .repeat rw[BA aa]
    rw[Bx aa];have hr0:=hi0 (Ac3 R o (Dq R o.By));exact Hj f0 _ hR [hr 9 a1,KX 29 hin,hr 33 a33,hr 37 a37,AB 42 a,AB 48 a,hof fI 55 hR o.By 16,hla 56 hR (Agr fI R o (Dq R o.By))] (Hz R hr0)
   .repeat rw[BA aa]
    exact Hj f0 _ hR [hr 9 a1,KX 29 hin,hr 33 a33,hr 37 a37,AB 42 a] (Hz R h0)
   .repeat rw[BA aa]
    rw[Bx aa];have hr0:=hi0 (AeR R o (Dq R o.By));exact Hj f0 _ hR [hr 9 a1,KX 29 hin,hr 33 a33,hr 37 a37,AB 42 a,AB 48 a,hof fI 55 hR o.By 16,hla 56 hR (Ags fI R o (Dq R o.By))] (Hz R hr0)
   .repeat rw[BA aa]
    rw[Bx aa];have hr0:=hi0 (AeS R (Dq R o.By));exact Hj f0 _ hR [hr 9 a1,KX 29 hin,hr 33 a33,hr 37 a37,AB 42 a,AB 48 a,hof fI 55 hR o.By 16,hla 56 hR (Agt fI R o (Dq R o.By))] (Hz R hr0)
   .repeat rw[BA aa]
    exact Hj f0 _ hR [hr 9 a1,KX 29 hin,hr 33 a33,hr 37 a37,AB 42 a] (Hz R h0)
   .repeat rw[BA aa]
    rw[Bx aa];have hr0:=hi0 (AeT R o (Dq R o.By));exact Hj f0 _ hR [hr 9 a1,KX 29 hin,hr 33 a33,hr 37 a37,AB 42 a,AB 48 a,hof fI 55 hR o.By 16,hla 56 hR (Agu fI R o (Dq R o.By))] (Hz R hr0)
   .repeat rw[BA aa]
    rw[Bx aa];have hr0:=hi0 (AeV R o);exact Hj f0 _ hR [hr 9 a1,KX 29 hin,hr 33 a33,hr 37 a37,AB 42 a,AB 48 a,hof fI 55 hR o.By 16,hla 56 hR (Agw fI R hg (Dq R o.By))] (Hz R hr0)
   .repeat rw[BA aa]
    rw[Bx aa];have hr0:=hi0 (AaG R o (Dq R o.By));exact Hj f0 _ hR [hr 9 a1,KX 29 hin,hr 33 a33,hr 37 a37,AB 42 a,AB 48 a,hof fI 55 hR o.By 16,hla 56 hR (Acl fI R o (Dq R o.By))] (Hz R hr0)
   .repeat rw[BA aa]
    rw[Bx aa];have hr0:=hi0 (Ac4 R o);exact Hj f0 _ hR [hr 9 a1,KX 29 hin,hr 33 a33,hr 37 a37,AB 42 a,AB 48 a,hof fI 55 hR o.By 16,hrr 56 f0 16 [.agg (aJ o),iG (Dq R o.By)] hR (Agx fI hR o (Dq R o.By))] (Hz R hr0)
   .repeat rw[BA aa]
    rw[Bx aa];have hr0:=hi0 (AaG R o (Dq R o.By));exact Hj f0 _ hR [hr 9 a1,KX 29 hin,hr 33 a33,hr 37 a37,AB 42 a,AB 48 a,hof fI 55 hR o.By 16,hla 56 hR (Acl fI R o (Dq R o.By))] (Hz R hr0)
   .repeat rw[BA aa]
    rw[Bx aa];have hr0:=hi0 (Ac5 R o);exact Hj f0 _ hR [hr 9 a1,KX 29 hin,hr 33 a33,hr 37 a37,AB 42 a,AB 48 a,hof fI 55 hR o.By 16,hrr 56 f0 16 [.agg (aJ o),iG (Dq R o.By)] hR (Agy fI hR o (Dq R o.By))] (Hz R hr0)
structure Gi where
 op:Ab->Option Bp
 bef:Ab->Ab->Bool
 lev:Ab->Int
 cards:LQ
 card:Int->Option DH
def Gi.o(I:Gi)(x:Ab):Bp:=(I.op x).getD ip
def SE:DH:=⟨0,0,0,0,0⟩
structure QL (gl:CB) (gg:Aj) (I:Gi):Prop where
 op:∀x,ba prog gl 25 [.ptr (Ag gg) 0,.agg (aj x)] (.tup [.agg (aJ (I.o x)),bG (I.op x).isSome])
 bef:∀x y,ba prog gl 36 [.ptr (Ag gg) 0,.agg (aj x),.agg (aj y)] (bG (I.bef x y))
 lev:∀x,ba prog gl 132 [.ptr (Ag gg) 0,.agg (aj x)] (iG (I.lev x))
 cards:ba prog gl 81 [.ptr (Ag gg) 0] (aE bv I.cards)
 card:∀d,ba prog gl 34 [.ptr (Ag gg) 0,iG d] (.tup [.agg (bv ((I.card d).getD SE)),bG (I.card d).isSome])
def AaH(I:Gi)(x:Bp)(d:Int):Bool:=bif x.Kind=13 then decide (d=x.Old)else bif x.Device≠0 then decide (d=x.Device)else bif(I.card d).isSome then decide (((I.card d).getD SE).Member=x.Member)else false
def AiD(I:Gi)(a b:Bp):Bool:=bif a.Kind=3 then AaH I a b.By else bif a.Kind=13 then(bif decide (b.Kind=12)&&decide (a.Of=b.Of)then false else AaH I a b.By)else bif a.Kind=12 then(decide (b.Kind=13)&&decide (b.Of=a.Of)&&decide (a.At<=b.At))else false
def Ja(I:Gi)(x y:Ab):Bool:=(I.op x).isSome&&(I.op y).isSome&& !decide (x=y)&& !I.bef y x&& !I.bef x y&&AiD I (I.o x) (I.o y)
section
variable {gl:CB} {gg:Aj} {I:Gi} (h:QL gl gg I)
include h
theorem AeX(x:Bp)(d:Int):ba prog gl 301 [.ptr (Ag gg) 0,.agg (aJ x),iG d] (bG (AaH I x d)):=by
 have hc:=h.card d;unfold AaH;refine Gh func301 ?_;cases b1:decide (x.Kind=13) with
 |true=>exact Ar [hr 11 b1] []
 |false=>
  cases b2:decide (x.Device≠0) with
  |true=>exact Ar [hr 11 b1,hr 18 b2] []
  |false=>
   cases b3:(I.card d).isSome with
   |false=>rw[b3] at hc;exact Ar [hr 11 b1,hr 18 b2,hf 26 hc] []
   |true=>rw[b3] at hc;exact Ar [hr 11 b1,hr 18 b2,hf 26 hc] []
theorem YC(x y:Ab):ba prog gl 245 [.ptr (Ag gg) 0,.agg (aj x),.agg (aj y)] (bG (Ja I x y)):=by
 have h1:=h.op x;have h2:=h.op y;have h3:=h.bef y x;have h4:=h.bef x y;have hg:=AeX h (I.o x) (I.o y).By;unfold Ja;generalize I.o x=a at h1 hg⊢;generalize I.o y=b at h2 hg⊢;refine Gh func245 ?_;cases c1:(I.op x).isSome with
 |false=>rw[c1] at h1;exact Ar [hf 15 h1,hf 21 h2] []
 |true=>
  rw[c1] at h1;cases c2:(I.op y).isSome with
  |false=>rw[c2] at h2;exact Ar [hf 15 h1,hf 21 h2] []
  |true=>
   rw[c2] at h2;cases c3:decide (x=y) with
   |true=>exact Ar [hf 15 h1,hf 21 h2,hV 33 (dU x y c3)] []
   |false=>
    cases c4:I.bef y x with
    |true=>rw[c4] at h3;exact Ar [hf 15 h1,hf 21 h2,hV 33 (dU x y c3),hf 39 h3] []
    |false=>
     rw[c4] at h3;cases c5:I.bef x y with
     |true=>rw[c5] at h4;exact Ar [hf 15 h1,hf 21 h2,hV 33 (dU x y c3),hf 39 h3,hf 45 h4] []
     |false=>
      rw[c5] at h4;unfold AiD;cases k3:decide (a.Kind=3) with
      |true=>
       have k13:decide (a.Kind=13)=false:=by rw[DL k3];rfl
       exact Ar [hf 15 h1,hf 21 h2,hV 33 (dU x y c3),hf 39 h3,hf 45 h4,hr 50 k3,hr 54 k13,hf 74 hg] []
      |false=>
       cases k13:decide (a.Kind=13) with
       |true=>
        cases j12:decide (b.Kind=12) with
        |false=>exact Ar [hf 15 h1,hf 21 h2,hV 33 (dU x y c3),hf 39 h3,hf 45 h4,hr 50 k3,hr 51 k13,hr 54 k13,hr 58 j12,hf 74 hg] []
        |true=>
         cases jo:decide (a.Of=b.Of) with
         |true=>exact Ar [hf 15 h1,hf 21 h2,hV 33 (dU x y c3),hf 39 h3,hf 45 h4,hr 50 k3,hr 51 k13,hr 54 k13,hr 58 j12,hV 65 (dU a.Of b.Of jo)] []
         |false=>exact Ar [hf 15 h1,hf 21 h2,hV 33 (dU x y c3),hf 39 h3,hf 45 h4,hr 50 k3,hr 51 k13,hr 54 k13,hr 58 j12,hV 65 (dU a.Of b.Of jo),hf 74 hg] []
       |false=>
        cases k12:decide (a.Kind=12) with
        |false=>exact Ar [hf 15 h1,hf 21 h2,hV 33 (dU x y c3),hf 39 h3,hf 45 h4,hr 50 k3,hr 51 k13,hr 77 k12] []
        |true=>
         cases j13:decide (b.Kind=13) with
         |false=>exact Ar [hf 15 h1,hf 21 h2,hV 33 (dU x y c3),hf 39 h3,hf 45 h4,hr 50 k3,hr 51 k13,hr 77 k12,hr 80 j13] []
         |true=>
          cases jo:decide (b.Of=a.Of) with
          |false=>exact Ar [hf 15 h1,hf 21 h2,hV 33 (dU x y c3),hf 39 h3,hf 45 h4,hr 50 k3,hr 51 k13,hr 77 k12,hr 80 j13,hV 86 (dU b.Of a.Of jo)] []
          |true=>exact Ar [hf 15 h1,hf 21 h2,hV 33 (dU x y c3),hf 39 h3,hf 45 h4,hr 50 k3,hr 51 k13,hr 77 k12,hr 80 j13,hV 86 (dU b.Of a.Of jo)] []
end
def Px(c k:Nat):Nat:=c+k
theorem Agz(hR:Bj R)(c:Nat):Aag (kO [] [] 0 14 c) (BG f0 R) (BG (Px c) R):=λi o h0=>by
 rw[Hr] at h0;obtain⟨k,hk,e,h⟩:=LB h0;subst e;have hκ:∀k,(∃ob,Bu f0 R k=some ob)->kO [] [] 0 14 c (f0 k)=some (Px c k):=λk ⟨ob,h⟩=>by have:=DV h;show(bif Nat.blt k 0 then _ else bif Nat.blt k (0+14)then some (c+(k-0))else none)=_;rw[show Nat.blt k 0=false from by cases hb:Nat.blt k 0 with|false=>rfl|true=>simp_all,show Nat.blt k (0+14)=true from Qi aa];rfl
 obtain⟨a,h1,h2⟩:=Ps hκ hR k o h;grind [JX]
theorem AeY{κ:Nat->Fp}:InP κ [] [] []:=λk o0 h=>by cases h
def hrn(d c:Nat)(args:Bn){P:Br}{gl:CB}{fid:FuncId}{args0:Bn}{R:Ad}(hR:Bj R)(hM:SW P gl fid args0 [] 0 0 (.ref 0 0) (BG f0 R))(hc:aK P fid=true:=by kernel_rfl)(hgs:args.map (qg (vi []) 20)=args0:=by kernel_rfl):HP:=
 hfm d [] 0 14 c [] args (BG (Px c) R) hM AeY (Agz hR c) hc rfl rfl hgs
def SF(I:Gi)(id:Ab)(R:Ad)(x:Ab):Ad:=bif I.bef x id then Ug R (I.o x) x else R
def VX(I:Gi)(l:Bc)(id:Ab):Ad:=l.foldl (SF I id) (Hf I.cards)
structure AeZ (gl:CB) (l:AQ) (I:Gi):Prop where
 g:QL gl l.g I
 c:Ac2 I.cards
 o:∀x∈l.row,UH (I.o x) x
 n:l.row.length<=1000
theorem AgA{I:Gi}{id:Ab}(hR:Bj R)(hx:UH (I.o x) x):Bj (SF I id R x):=by grind [SF,Q5]
theorem Acn{I:Gi}{id:Ab}:∀{l:Bc} {R:Ad},Bj R->(∀x∈l,UH (I.o x) x)->Bj (l.foldl (SF I id) R)
 |[],R,h,_=>h
 |x::r,R,h,hx=>Acn (l:=r) (AgA h (hx x aC)) (by grind)
theorem Abz{I:Gi}(hc:Ac2 I.cards){l:Bc}(h:∀x∈l,UH (I.o x) x)(id:Ab):Bj (VX I l id):=Acn (Lw hc.r) h
section
variable {gl:CB}
end
abbrev Bw(l:Bc):Option Ob:=some ⟨25,l.flatMap aj,none⟩
def Akz(ρ:DD)(f f':Nat->Nat):Bool:=L0.all λk=>match It ρ (f k) with|some j=>Nat.beq j (f' k)|none=>false
theorem AgB{ρ:DD}{f f':Nat->Nat}(h:Akz ρ f f'=true)(hk:k<14):It ρ (f k)=some (f' k):=by have:=Ge.1 h k (by have:k∈List.range 14:=List.mem_range.2 hk;exact this);grind [bc]
abbrev rlC(ρ:DD)(f f':Nat->Nat){R:Ad}(hR:Bj R)(h:Akz ρ f f'=true:=by kernel_rfl):List HP:=L0.map λk=>hc (Ps (κ:=It ρ) (f:=f) (f':=f') (λk ⟨ob,hk⟩=>AgB h (DV hk)) hR k)
abbrev kd1:List (Nat×Rk):=(0,.row)::L0.map λk=>(k+1,.any)
abbrev stO(l:Bc)(c:Nat)(R:Ad):aQ:=(0,Bw l)::BG (Px c) R
abbrev ρe0:DD:=[(0,0),(1,2),(2,3),(3,4),(4,5),(5,6),(6,7),(7,8),(8,9),(9,10),(10,11),(11,12),(12,13),(13,14),(14,15),(15,1)]
abbrev ρe1:DD:=[(0,0),(1,1),(2,2),(3,3),(4,4),(5,5),(6,6),(7,7),(8,8),(9,9),(10,10),(11,11),(12,12),(13,13),(14,14),(15,15)]
abbrev ρe2:DD:=[(0,0),(1,1),(2,2),(3,3),(4,4),(5,5),(6,18),(7,19),(8,20),(9,21),(10,22),(11,23),(12,24),(13,25),(14,26),(15,15)]
abbrev ρe3:DD:=[(0,0),(1,1),(2,2),(3,3),(4,4),(5,5),(6,6),(7,7),(8,8),(9,9),(10,10),(11,11),(12,12),(13,13),(14,14)]
section
variable {gl:CB}
theorem AgC{gg:Aj}{I:Gi}(h:QL gl gg I)(hc:Ac2 I.cards){al:AQ}(hal:al.g=gg){l:Bc}(hl:∀x∈l,UH (I.o x) x)(hn:l.length<=1000)(id:Ab):SW prog gl 247 [.ptr (BU al) 0,.rsl 0 0 l.length,.agg (aj id)] [(0,Bw l)] 1 1 (.ref 1 0) (stO l 1 (VX I l id)):=by
 subst hal;have hQ:∀k,Bj (VX I (l.take k) id):=λk=>Abz hc (λx hx=>hl x (List.mem_of_mem_take hx)) id;refine dFP func247 ?_;refine pN (λk:Nat=>(s0 46 gl [(0,.ptr (BU al) 0),(5,.ref 15 0),(7,.ref 1 0),(18,.rsl 0 0 l.length),(19,iG (ah l)),(20,iG (k:Int))] (stO l 1 (VX I (l.take k) id)++[(15,Xc id)]) 16 1)) 1110122 (EO (n:=l.length) aa) [hf 16 h.cards,hrn 17 2 [aE bv I.cards] (Lw hc.r) (AeP gl hc)] (Go.Proofs.YtghphhhpagagbaaGreatDoor.hc (el l)::Go.Proofs.YtghphhhpagagbaaGreatDoor.hc (ac.imm l)::rlC ρe0 (Px 2) (Px 1) (hQ 0)) (λB k v hs k5 c=>?_) [] ρe0 kd1;unfold Ko at hs;split at hs
 .rename_i hlt;obtain rfl:=Bf hs;obtain⟨x,hx⟩:∃x,l[k]?=some x:=⟨_,DR hlt⟩;have hz:=Bg hx;have k5:=k5 _ rfl;have hq:=hQ k;have a:=hl x (bO hx);have hb:=h.bef x id;unfold VX at k5 hq⊢;rw[JJ,hx,Option.toList_some,On,List.foldl_cons,List.foldl_nil] at k5;generalize (l.take k).foldl (SF I id) (Hf I.cards)=Q at hq k5⊢;unfold SF at k5;cases c1:I.bef x id with
  |false=>rw[c1] at hb k5;exact jw [hr 21 (Dd hx),AB 22 (ac.ixrZ 0 hz),AB 23 (ac.pt0Z aW hz),hf 30 hb,hbb 44 (Xl (q:=k) aa)] (Go.Proofs.YtghphhhpagagbaaGreatDoor.hc (el l)::Go.Proofs.YtghphhhpagagbaaGreatDoor.hc (ac.imm l)::rlC ρe1 (Px 1) (Px 1) hq) k5 [] ρe1 kd1
  |true=>rw[c1] at hb k5;have b:=Q5 hq a;exact jw [hr 21 (Dd hx),AB 22 (ac.ixrZ 0 hz),AB 23 (ac.pt0Z aW hz),hf 30 hb,hf 37 (h.op x),ZZ 43 (Px 1) 18 [.agg (aJ (I.o x)),.agg (aj x)] hq b (AeO gl hq a),hbb 44 (Xl (q:=k) aa)] (Go.Proofs.YtghphhhpagagbaaGreatDoor.hc (el l)::Go.Proofs.YtghphhhpagagbaaGreatDoor.hc (ac.imm l)::rlC ρe2 (fW (Px 1) 18) (Px 1) b) k5 [] ρe2 kd1
 .split at hs
  .rename_i he;subst he;rw[EQ];exact ZT [hr 21 (DZ (s:=l))] (Go.Proofs.YtghphhhpagagbaaGreatDoor.hc (ac.imm l)::rlC ρe3 (Px 1) (Px 1) (Abz hc hl id)) ρe3 kd1
  .cases hs
def Lq(I:Gi)(vd:FM Ab Bool)(out:Bc)(x:Ab):Bc:=bif Ba (vd.get x)then out else bif SD (VX I out x) (I.o x)=0 then out++[x]else out
def JQ(I:Gi)(al:AQ):Bc:=al.row.foldl (Lq I al.void) []
theorem Ac6{I:Gi}{vd:FM Ab Bool}{out:Bc}{y:Ab}(h:y∈Lq I vd out x):y∈out\/y=x:=by grind [Lq]
theorem Ac7{I:Gi}{vd:FM Ab Bool}{out:Bc}:(Lq I vd out x).length<=out.length+1:=by grind [Lq]
theorem V2{I:Gi}{vd:FM Ab Bool}:∀{l out:Bc},(∀y∈l.foldl (Lq I vd) out,y∈out\/y∈l)/\(l.foldl (Lq I vd) out).length<=out.length+l.length
 |[],out=>(by grind)
 |x::r,out=>by obtain⟨h1,h2⟩:=V2 (I:=I) (vd:=vd) (l:=r) (out:=Lq I vd out x);grind [Ac6,Ac7]
end
theorem Ae0{κ:Nat->Fp}(l:Bc):InP κ [0] [(0,Bw l)] [(0,Bw l)]:=λk o0 h=>by
 rw[A9] at h;split at h
 .rename_i e;subst e;exact⟨0,o0,rfl,by rw[A9,Bx rfl];exact h,by cases h;exact⟨rfl,.inr ⟨rfl,ac.imm l⟩⟩⟩
 .cases h
theorem AgD{c:Nat}(h:Px c a=Px c b):a=b:=Nat.add_left_cancel h
theorem Aco(hR:Bj R)(l:Bc)(c:Nat):Aag (kO [(0,Bw l)] [0] 1 14 c) (stO l 1 R) ((0,Bw l)::BG (Px c) R):=λi o h0=>by
 rw[A9] at h0;split at h0
 .rename_i e;subst e;exact⟨0,o,rfl,by grind,by cases h0;exact⟨rfl,.inr ⟨rfl,ac.imm l⟩⟩⟩
 .rw[Hr] at h0;obtain⟨k,hk,e,h⟩:=LB h0;subst e;have hκ:∀k,(∃ob,Bu (Px 1) R k=some ob)->kO [(0,Bw l)] [0] 1 14 c (Px 1 k)=some (Px c k):=λk ⟨ob,h⟩=>by have:=DV h;unfold kO Px;rw[show Nat.blt (1+k) 1=false from by cases hb:Nat.blt (1+k) 1 with|false=>rfl|true=>simp_all,show Nat.blt (1+k) (1+14)=true from Qi aa,Nat.add_sub_cancel_left];rfl
  obtain⟨d,h1,h2⟩:=Ps hκ hR k o h;refine⟨Px 1 k,d,hκ k ⟨d,h1⟩,?_,h2⟩;show ag ((0,Bw l)::BG (Px 1) R) (Px 1 k)=_;rw[A9,BA (by unfold Px;omega),Hr,LA (λa _ b _ e=>AgD e) hk];exact h1
abbrev oGd(al:AQ)(I:Gi)(k:Nat):Bc:=(al.row.take k).foldl (Lq I al.void) []
abbrev AkA(al:AQ)(l:Bc)(k:Nat):St:=(s0 49 fI [(0,.ptr (BU al) 0),(3,.rsl 0 0 l.length),(11,aE aj al.row),(12,iG (ah al.row)),(13,iG (k:Int))] [(0,Bw l)] 1 0)
theorem Acp{al:AQ}{I:Gi}(h:AeZ fI al I):iV prog fI 154 [.ptr (BU al) 0] 25 (JQ I al).length ((JQ I al).flatMap aj):=by
 have hn:=h.n;refine OW func154 ?_;refine pN (λk:Nat=>AkA al (oGd al I k) k) [1,1,0,1,2,2] (EO (n:=al.row.length) aa) [] [hc (ac.imm [])] (λB k v hs k5 b=>?_) [25] [(0,0)] [(0,.row)];unfold Ko at hs;split at hs
 .rename_i hlt;obtain rfl:=Bf hs;obtain⟨x,hx⟩:∃x,al.row[k]?=some x:=⟨_,DR hlt⟩;have hz:=Bg hx;have k5:=k5 _ rfl;have hsub:=V2 (I:=I) (vd:=al.void) (l:=al.row.take k) (out:=[]);have a:=h.o x (bO hx);have hle:(oGd al I k).length<=1000:=LD hsub.2 (by rw[Nv];simp;omega);have hO:∀y∈oGd al I k,UH (I.o y) y:=λy hy=>by
   rcases hsub.1 y hy with h1|h1
   .cases h1
   .exact h.o y (List.mem_of_mem_take h1)
  unfold oGd at k5 hle hO⊢;rw[JJ,hx,Option.toList_some,On,List.foldl_cons,List.foldl_nil] at k5;generalize (al.row.take k).foldl (Lq I al.void) []=l at k5 hle hO⊢;have hd:=AgC h.g h.c (al:=al) rfl hO hle x;have hq:=Abz h.c hO x;unfold Lq at k5;have hw:=Sd al.void x;cases c1:Ba (al.void.get x) with
  |true=>rw[c1] at k5 hw;exact jw [hr 14 (Dd hx),AB 15 (ac.ixZ hz),AB 16 (ac.ptZ aW hz),hf 23 (h.g.op x),hm 31 hw,hbb 47 (Xl (q:=k) aa)] [hc (el l),hc (ac.imm l)] k5 [] [(0,0)] [(0,.row)]
  |false=>
   rw[c1,Be] at k5;rw[c1] at hw;have hm:=AeW (i:=x) hq a.g;generalize VX I l x=R at hd hq hm k5;cases c2:decide (SD R (I.o x)=0) with
   |false=>rw[c2] at k5;exact jw [hr 14 (Dd hx),AB 15 (ac.ixZ hz),AB 16 (ac.ptZ aW hz),hf 23 (h.g.op x),Go.Proofs.YtghphhhpagagbaaGreatDoor.hm 31 hw,hfm 37 [0] 1 14 3 [(0,Bw l)] [.ptr (BU al) 0,.rsl 0 0 l.length,.agg (aj x)] ((0,Bw l)::BG (Px 3) R) hd (Ae0 l) (Aco hq l 3),hrr 40 (Px 3) 17 [.agg (aJ (I.o x)),.agg (aj x)] hq hm,hr 41 c2,hbb 47 (Xl (q:=k) aa)] [hc (el l),hc (ac.imm l)] k5 [] [(0,0)] [(0,.row)]
   |true=>rw[c2] at k5;exact jw [hr 14 (Dd hx),AB 15 (ac.ixZ hz),AB 16 (ac.ptZ aW hz),hf 23 (h.g.op x),Go.Proofs.YtghphhhpagagbaaGreatDoor.hm 31 hw,hfm 37 [0] 1 14 3 [(0,Bw l)] [.ptr (BU al) 0,.rsl 0 0 l.length,.agg (aj x)] ((0,Bw l)::BG (Px 3) R) hd (Ae0 l) (Aco hq l 3),hrr 40 (Px 3) 17 [.agg (aJ (I.o x)),.agg (aj x)] hq hm,hr 41 c2,Tn 46 ac 24 l x aa,hbb 47 (Xl (q:=k) aa)] [hc (el (l++[x])),hc (ac.imm (l++[x]))] k5 [] [(0,18)] [(0,.row)]
 .split at hs
  .rename_i he;subst he;unfold JQ;show Gp _ _ _ _ _ _ (AkA al ((al.row.take al.row.length).foldl (Lq I al.void) []) _);rw[EQ];generalize al.row.foldl (Lq I al.void) []=l;exact EI [hr 14 (DZ (s:=al.row))] (ac.imm l)
  .cases hs
def Wg(I:Gi)(x y z:Ab):Bool:=bif decide (z=x)||I.bef z x then Ja I y z else false
def DW(I:Gi)(row:Bc)(x y:Ab):Bool:= !decide (x=y)&&row.any (Wg I x y)
section
variable {gl:CB} {al:AQ} {I:Gi} (h:QL gl al.g I)
include h
theorem Ae1(x y z:Ab):ba prog gl 302 [.agg (aj z),.ptr (aj x) 0,.ptr [.ptr (BU al) 0] 0,.ptr (aj y) 0] (bG (Wg I x y z)):=by
 have hb:=h.bef z x;have hk:=YC h y z;unfold Wg;refine Gh func302 ?_;cases c1:decide (z=x) with
 |true=>exact Ar [hV 8 (dU z x c1),hf 25 hk] []
 |false=>
  cases c2:I.bef z x with
  |true=>rw[c2] at hb;exact Ar [hV 8 (dU z x c1),hf 16 hb,hf 25 hk] []
  |false=>rw[c2] at hb;exact Ar [hV 8 (dU z x c1),hf 16 hb] []
theorem AaI(hn:al.row.length<=1000)(x y:Ab):ba prog gl 246 [.ptr (BU al) 0,.agg (aj x),.agg (aj y)] (bG (DW I al.row x y)):=by
 have hv:SP prog gl 302 [] [.ptr (aj x) 0,.ptr [.ptr (BU al) 0] 0,.ptr (aj y) 0] (λz:Ab=>[.agg (aj z)]) (λb:Bool=>bG b) (λz=>some (Wg I x y z)):=⟨aH,bf,eB aH,λz r e=>by cases e;exact Ae1 h x y z⟩;have hc:=kP gl hv (AaB (s:=al.row) (p:=Wg I x y) aa λ_ _=>rfl);unfold DW;refine Gh func246 ?_;refine pO [1,0] (s0 18 gl [(3,.ptr [.ptr (BU al) 0] 0),(4,.ptr (aj x) 0),(5,.ptr (aj y) 0)] [] 0 0) [] [Go.Proofs.YtghphhhpagagbaaGreatDoor.hc (eB (gs:=[.ptr (BU al) 0]) aH),Go.Proofs.YtghphhhpagagbaaGreatDoor.hc (eB (gs:=aj x) aH),Go.Proofs.YtghphhhpagagbaaGreatDoor.hc (eB (gs:=aj y) aH)] ?_ [] [];cases c1:decide (x=y) with
 |true=>exact Ar [hV 9 (dy x y (r:=false) (by rw[c1];rfl))] []
 |false=>exact Ar [hV 9 (dy x y (r:=true) (by rw[c1];rfl)),hf 16 hc] []
end
end
def unS(fn:Func):Func:={fn with body:=some (match ai fn with| .seq a (.scope c)=> .seq a c|c=>c)}
def Ahg:Code->Bool
 | .seq _ (.scope _)=>true
 |_=>false
theorem AdL{Q Q':Exit->St->Prop}{J:St}(hi:Ahg (ai fn)=true)(hQ:∀l s,¬Q (.goto l) s)(b:Q=Q')(h:Gp P (unS fn) Q' [] false [1] J):Gp P fn Q [] false [1] J:=by
 subst b;obtain⟨a,c,hc⟩:∃a c,ai fn= .seq a (.scope c):=by unfold Ahg at hi;grind
 have e:ai (unS fn)= .seq a c:=by grind [unS,ai]
 unfold Gp at h⊢;rw[e] at h;rw[hc];exact Pn (Tr.mono h λe s hx=>by
  cases e with
  |goto l=>obtain⟨s',_,h2⟩:Z1 P Q (.goto l) s:=hx;exact(hQ l s' h2).elim
  |_=>exact⟨rfl,hx⟩)
theorem AcE{r:G}:tH P fn r=tH P (unS fn) r:=by funext e s;unfold tH unS;rfl
section
attribute [local irreducible] Tr dz Gp
def AiE(p:Ab->Bool)(l:Bc)(j:Nat):Option (Nat⊕Bool):=match l[j]? with
 |none=>some (.inr false)
 |some y=>bif p y then some (.inr true)else some (.inl (j+1))
theorem AiF{p:Ab->Bool}{l:Bc}(hn:l.length<=1000):AA (AiE p l) 0=some (l.any p):=T.eq (T.loop (λj=>j<=l.length/\∀y∈l.take j,p y=false) (λj=>l.length-j) ⟨aa,aC⟩ aa λj ⟨hj,hI⟩=>by
 unfold AiE;cases hx:l[j]? with
 |none=>have:l.length<=j:=List.getElem?_eq_none_iff.1 hx;refine .some ?_;show false=l.any p;grind
 |some y=>
  have hlt:=(cr hx).1;dsimp only;cases hp:p y with
  |true=>exact .some (show true=l.any p from(by grind))
  |false=>refine .some ⟨⟨aa,λz hz=>?_⟩,aa⟩;grind [JJ])
def R2(sen:FM Int Int)(d:Int):Int:=(sen.get d).getD 0
def upB(sen:FM Int Int)(l:Bc)(b:Int)(k:Nat)(x:Ab):JL:=bif b<0 then some (k:Int)else(aS l b).bind λy=>bif R2 sen x.By<R2 sen y.By then some (k:Int)else some b
def Ae2(I:Gi)(row l:Bc)(sen:FM Int Int)(s:Nat×Int):Option ((Nat×Int)⊕Int):=match l[s.1]? with
 |none=>bif Nat.beq s.1 l.length then some (.inr s.2)else none
 |some x=>bif l.any (DW I row x)then(upB sen l s.2 s.1 x).bind λb=>some (.inl (s.1+1,b))else some (.inr (s.1:Int))
section
variable {gl:CB} {al:AQ} {I:Gi} (h:QL gl al.g I)
theorem aaH(m:FM Int Int)(k:Int):∀σ,bL prog σ 190 false (FM.g JN iG m) (iG k)=some (iG (R2 m k)):=FM.look1 (et:=3) O6 aH aH m k rfl
abbrev Aht(al:AQ)(l:Bc)(sen:FM Int Int)(k:Nat)(b:Int):Fr:=[(0,.ptr (BU al) 0),(1,aE aj l),(2,FM.g JN iG sen),(7,iG b),(12,aE aj l),(13,iG (ah l)),(14,iG (k:Int))]
include h
theorem Ae3(hn:al.row.length<=1000){l:Bc}(hl:l.length<=1000){sen:FM Int Int}{r:Int}(hr0:AA (Ae2 I al.row l sen) (0,-1)=some r):ba prog gl 243 [.ptr (BU al) 0,aE aj l,FM.g JN iG sen] (iG r):=by
 refine Gh func243 ?_;refine pO [1] (s0 50 gl [(0,.ptr (BU al) 0),(1,aE aj l),(2,FM.g JN iG sen)] [] 0 0) [] [] ?_ [] [];refine AdL (Q':=tH prog (unS Tryz.f243) (iG r)) aH (λl s hx=>by unfold tH at hx;rcases hx.1 with e|e<;>cases e) AcE ?_;refine pN (λs:Nat×Int=>(s0 50 gl (Aht al l sen s.1 s.2) [] 0 0)) 11110122 hr0 [] [] (λB s v hs k5 f=>?_) [] [];obtain⟨k,b⟩:=s;unfold Ae2 at hs;dsimp only at hs;split at hs
 .rename_i hx;cases c0:Nat.beq k l.length with
  |false=>rw[c0] at hs;cases hs
  |true=>rw[c0] at hs;obtain rfl:=Bf hs;obtain rfl:=bc c0;obtain rfl:=f _ rfl;exact Ar [hr 15 (DZ (s:=l))] []
 .rename_i x hx;have hz:=Bg hx;have hw:=λy=>AaI h hn x y;refine pN (λj:Nat=>(s0 50 gl ([(8,iG (k:Int)),(9,.ref 0 0),(19,aE aj l),(20,iG (ah l)),(21,iG (j:Int))]++Aht al l sen k b) [(0,Xc x)] 1 0)) 11110122110210122 (AiF (p:=DW I al.row x) hl) [hr 15 (Dd hx),AB 17 (ac.ixZ hz),AB 18 (ac.ptZ aW hz)] [] (λn j o c m i=>?_) [] [(0,0)];unfold AiE at c;split at c
  .rename_i hy;obtain rfl:=Bf c;have ha:=i _ rfl;rw[<-ha] at hs;obtain rfl:=Bf hs;obtain rfl:=f _ rfl;have hle:l.length<=j:=List.getElem?_eq_none_iff.1 hy;exact Ar [hr 22 (show decide ((j:Int)<ah l)=false from C6 (by unfold ah;omega))] []
  .rename_i y hy;have a:=Bg hy;have hw:=hw y;cases c1:DW I al.row x y with
   |false=>rw[c1] at c hw;obtain rfl:=Bf c;exact jw [hr 22 (Dd hy),AB 23 (ac.ixZ a),AB 24 (ac.ptZ aW a),hf 28 hw,hbb 46 (Xl (q:=j) (by have:=(cr hy).1;omega))] [] (m _ rfl) [] [(0,0)]
   |true=>
    rw[c1] at c hw;obtain rfl:=Bf c;have ha:=i _ rfl;rw[<-ha,ax] at hs;obtain⟨b',hb',hs⟩:=bS hs;obtain rfl:=Bf hs;have k5:=k5 _ rfl;have hkk:k<1000:=by have:=(cr hx).1;omega
    unfold upB at hb';cases c2:decide (b<0) with
    |true=>rw[c2] at hb';obtain rfl:=Bf hb';exact jw [hr 22 (Dd hy),AB 23 (ac.ixZ a),AB 24 (ac.ptZ aW a),hf 28 hw,hr 30 c2,hbb 48 (Xl (q:=k) aa)] [] k5 [] []
    |false=>
     rw[c2,Be] at hb';obtain⟨z,d,hb'⟩:=bS hb';cases c3:decide (R2 sen x.By<R2 sen z.By) with
     |true=>rw[c3] at hb';obtain rfl:=Bf hb';exact jw [hr 22 (Dd hy),AB 23 (ac.ixZ a),AB 24 (ac.ptZ aW a),hf 28 hw,hr 30 c2,hm 35 (aaH sen x.By),AB 39 (ac.ixZ d),AB 41 (ac.fdZ tZ 0 d),hm 42 (aaH sen z.By),hr 43 c3,hbb 48 (Xl (q:=k) aa)] [] k5 [] []
     |false=>rw[c3] at hb';obtain rfl:=Bf hb';exact jw [hr 22 (Dd hy),AB 23 (ac.ixZ a),AB 24 (ac.ptZ aW a),hf 28 hw,hr 30 c2,hm 35 (aaH sen x.By),AB 39 (ac.ixZ d),AB 41 (ac.fdZ tZ 0 d),hm 42 (aaH sen z.By),hr 43 c3,hbb 48 (Xl (q:=k) aa)] [] k5 [] []
end
abbrev oA(s:N4):Option Ob:=some ⟨113,FSq s,none⟩
def Qs(s t:N4):N4:=⟨gM s.a0 t.a0,gM s.a1 t.a1,gM s.a2 t.a2,gM s.a3 t.a3⟩
def wiA(s t:N4):Nat->N4
 |0=>s
 |1=>⟨gM s.a0 t.a0,s.a1,s.a2,s.a3⟩
 |2=>⟨gM s.a0 t.a0,gM s.a1 t.a1,s.a2,s.a3⟩
 |3=>⟨gM s.a0 t.a0,gM s.a1 t.a1,gM s.a2 t.a2,s.a3⟩
 |_=>Qs s t
def Zx(k:Nat):Option (Nat⊕Unit):=if k<4 then some (.inl (k+1))else some (.inr ())
theorem Li:AA Zx 0=some ():=T.eq (T.loop (λ_=>True) (λk=>4-k) trivial BX λk _=>by
 unfold Zx;split
 .exact .some ⟨trivial,aa⟩
 .exact .some rfl)
theorem TX(s t:N4):jg prog gl 155 [.ref 0 0,.agg (FSq t)] [(0,oA s)] 1 (.tup []) [(0,oA (Qs s t))] 1:=by
 refine pP func155 ?_;refine pN (λk:Nat=>(s0 20 gl [(0,.ref 0 0),(3,.ptr (FSq t) 0),(5,iG (k:Int))] [(0,oA (wiA s t k))] 1 1)) 11122 Li [] [hc (eB (gs:=FSq t) aH)] (λB k v hs k5 a=>?_) [] [(0,0)] [];rcases k with _|_|_|_|k
 .cases hs;exact jw [hV 16 (jc (P:=prog) (t:=23) s.a0 t.a0)] [] (k5 _ rfl) [] [(0,0)] []
 .cases hs;exact jw [hV 16 (jc (P:=prog) (t:=23) s.a1 t.a1)] [] (k5 _ rfl) [] [(0,0)] []
 .cases hs;exact jw [hV 16 (jc (P:=prog) (t:=23) s.a2 t.a2)] [] (k5 _ rfl) [] [(0,0)] []
 .cases hs;exact jw [hV 16 (jc (P:=prog) (t:=23) s.a3 t.a3)] [] (k5 _ rfl) [] [(0,0)] []
 .exact mt .normal (s0 20 gl [] [(0,oA (Qs s t))] 1 1) [] [hr 6 (show decide (((k+1+1+1+1:Nat):Int)<4)=false from C6 aa)] []
abbrev OG(x:CY):Option Ob:=some ⟨115,d7 x,none⟩
theorem RE(x:CY)(t:N4):jg prog gl 155 [.ref 0 30,.agg (FSq t)] [(0,OG x)] 1 (.tup []) [(0,OG {x with past:=Qs x.past t})] 1:=by
 refine pP func155 ?_;refine pN (λk:Nat=>(s0 20 gl [(0,.ref 0 30),(3,.ptr (FSq t) 0),(5,iG (k:Int))] [(0,OG {x with past:=wiA x.past t k})] 1 1)) 11122 Li [] [hc (eB (gs:=FSq t) aH)] (λB k v hs k5 a=>?_) [] [(0,0)] [];rcases k with _|_|_|_|k
 .cases hs;exact jw [hV 16 (jc (P:=prog) (t:=23) x.past.a0 t.a0)] [] (k5 _ rfl) [] [(0,0)] []
 .cases hs;exact jw [hV 16 (jc (P:=prog) (t:=23) x.past.a1 t.a1)] [] (k5 _ rfl) [] [(0,0)] []
 .cases hs;exact jw [hV 16 (jc (P:=prog) (t:=23) x.past.a2 t.a2)] [] (k5 _ rfl) [] [(0,0)] []
 .cases hs;exact jw [hV 16 (jc (P:=prog) (t:=23) x.past.a3 t.a3)] [] (k5 _ rfl) [] [(0,0)] []
 .exact mt .normal (s0 20 gl [] [(0,OG {x with past:=Qs x.past t})] 1 1) [] [hr 6 (show decide (((k+1+1+1+1:Nat):Int)<4)=false from C6 aa)] []
def yt(s:N4)(n:Nat):N4:=match n/64 with
 |0=>{s with a0:=gM s.a0 (HU 1 (n%64))}
 |1=>{s with a1:=gM s.a1 (HU 1 (n%64))}
 |2=>{s with a2:=gM s.a2 (HU 1 (n%64))}
 |_=>{s with a3:=gM s.a3 (HU 1 (n%64))}
theorem W0(s:N4)(h:n<256):jg prog gl 191 [.ref 0 0,iG (n:Int)] [(0,oA s)] 1 (.tup []) [(0,oA (yt s n))] 1:=by
 have hm:u9 (n:Int) 64=some ((n%64:Nat):Int):=by grind [u9]
 have hcn:wJ ((n%64:Nat):Int)=some (n%64):=by grind [wJ]
 have hq:∀q:Nat,n/64=q->Gg (n:Int) 64=some (q:Int):=by grind [Gg,Mx]
 refine pP func191 ?_;have h4:n/64=0\/n/64=1\/n/64=2\/n/64=3:=aa;rcases h4 with e|e|e|e
 .rw[show yt s n={s with a0:=gM s.a0 (HU 1 (n%64))} by grind [yt]];exact mt .normal (s0 16 gl [] [(0,oA {s with a0:=gM s.a0 (HU 1 (n%64))})] 1 1) [] [hbb 6 (Tt (hq 0 e)),hbb 11 (KO hm),hV 12 (sM (P:=prog) (t:=23) 1 hcn),hV 13 (jc (P:=prog) (t:=23) s.a0 (HU 1 (n%64)))] []
 .rw[show yt s n={s with a1:=gM s.a1 (HU 1 (n%64))} by grind [yt]];exact mt .normal (s0 16 gl [] [(0,oA {s with a1:=gM s.a1 (HU 1 (n%64))})] 1 1) [] [hbb 6 (Tt (hq 1 e)),hbb 11 (KO hm),hV 12 (sM (P:=prog) (t:=23) 1 hcn),hV 13 (jc (P:=prog) (t:=23) s.a1 (HU 1 (n%64)))] []
 .rw[show yt s n={s with a2:=gM s.a2 (HU 1 (n%64))} by grind [yt]];exact mt .normal (s0 16 gl [] [(0,oA {s with a2:=gM s.a2 (HU 1 (n%64))})] 1 1) [] [hbb 6 (Tt (hq 2 e)),hbb 11 (KO hm),hV 12 (sM (P:=prog) (t:=23) 1 hcn),hV 13 (jc (P:=prog) (t:=23) s.a2 (HU 1 (n%64)))] []
 .rw[show yt s n={s with a3:=gM s.a3 (HU 1 (n%64))} by grind [yt]];exact mt .normal (s0 16 gl [] [(0,oA {s with a3:=gM s.a3 (HU 1 (n%64))})] 1 1) [] [hbb 6 (Tt (hq 3 e)),hbb 11 (KO hm),hV 12 (sM (P:=prog) (t:=23) 1 hcn),hV 13 (jc (P:=prog) (t:=23) s.a3 (HU 1 (n%64)))] []
theorem OH{σ ρ:Type}{step:σ->Option (σ⊕ρ)}{s:σ}{r:ρ}(h:step s=some (.inr r)):AA step s=some r:=by grind [AA,FU,KN]
theorem RF{st:St}{j:Nat}{l:Bn}(h:ag st.σ j=some ⟨t,l,none⟩)(k:Nat):Le P st {st with σ:=(j,some ⟨t,l.take k,none⟩)::st.σ}:=by
 rintro cx a w ⟨β,r⟩;have hs:∀i o,ag ((j,some ⟨t,l.take k,none⟩)::st.σ) i=some o->∃c,ag st.σ i=some c/\((i=j/\o=⟨t,l.take k,none⟩/\c=⟨t,l,none⟩)\/o=c):=by grind
 have hs':∀i o,ag st.σ i=some o->∃c,ag ((j,some ⟨t,l.take k,none⟩)::st.σ) i=some c:=by grind
 have hA:Av cx.S0 β ((j,some ⟨t,l.take k,none⟩)::st.σ)=Av cx.S0 β st.σ:=by grind
 refine⟨β,{size:=r.size,defers:=r.defers,loose:=r.loose,rnd:=r.rnd,fr:=λi=>?_,ob:=λi o hi=>?_,inj:=λi d o c b C D h1 h2 h3 h4=>?_,own:=λi o b C h1 h2=>?_,sep:=λi o b C h1 h2=>?_,fresh:=r.fresh,glob:=λg m hl=>?_,keep:=r.keep,old:=r.old,pin:=r.pin}⟩
 .grind
 .show RO P β (Av cx.S0 β ((j,some ⟨t,l.take k,none⟩)::st.σ)) w i o;rw[hA];obtain⟨c,h1,⟨rfl,rfl,rfl⟩|rfl⟩:=hs i o hi
  .rcases r.ob _ _ h1 with⟨e1,e2,e3⟩|⟨b,x,o,e1,_⟩|⟨b,C,cur,e1,e2,e3,e4,e5,e6,e7⟩
   .grind
   .cases e1
   .have e6:l.length<=cur.size:=e6;have e7:∀(j:Nat) (g:G),l[j]?=some g->∃u,cur[j]?=some u/\u.oneCell'=true/\RV β (Av cx.S0 β st.σ) w g u:=e7;refine .inr (.inr ⟨b,C,cur,e1,e2,e3,e4,e5,?_,λx g hg=>e7 x g ?_⟩);all_goals grind
  .exact r.ob _ _ h1
 .obtain⟨e,h1',_⟩:=hs i o h1;obtain⟨f,h2',_⟩:=hs d c h2;grind
 .grind
 all_goals grind
def hcl(c:Nat){P:Br}{σ:aQ}{t:Bo}{g:G}{i:Nat}{ob:Ob}(h:rF P σ t g=some (i,ob)):HP:=⟨some (.e 999999998 (.tup []) i ob),rF P (Un σ (fR g)) t g=some (i,ob),(AdI Hi).symm.trans h⟩
section
variable {P:Br} [M:Mix P] {st:St} {Q:Exit->St->Prop} {fn:Func} {Bs:List (St->Prop)} {m:Bool} {p:Bq}
theorem dSh(j:Nat){l:Bn}(k:Nat)(h:Gp P fn Q Bs m p {st with σ:=(j,some ⟨t,l.take k,none⟩)::st.σ})(hj:ag st.σ j=some ⟨t,l,none⟩:=by rfl):Gp P fn Q Bs m p st:=by
 unfold Gp LK at h⊢;cases m with
 |true=>exact pQ (RF hj k) _ _ h
 |false=>exact Tr.le h (RF hj k)
end
abbrev Lj(g:Aj):G:= .clo (.func 266) [] [.ptr [.ptr (Ag g) 0] 0]
def Aib{α:Type}(l:List α)(i:Int):Option (Int⊕Unit):=bif i<ah l then(aS l i).bind λ_=>some (.inl (wI (i+1)))else some (.inr ())
theorem W3{l:List α}(h:l.length<1000000000):AA (Aib l) (wI (0+1))=some ():=by refine T.eq (T.loop (λi=>∃k:Nat,i=((k+1:Nat):Int)/\k<=l.length) (λi=>l.length+2-i.toNat) ⟨0,rfl,aa⟩ (by grind) ?_);rintro i ⟨k,rfl,hk⟩;unfold Aib;refine .dec (λhh=>?_) λhh=> .some rfl;unfold ah at hh;have ew:wI (((k+1:Nat):Int)+1)=((k+1+1:Nat):Int):=aq aa;refine .bind (.ix aa (x:=l[k+1]) (by grind) (.some ⟨⟨k+1,ew,aa⟩,?_⟩));grind
def zI:List Value:=[.int .i64 0,.int .i64 0,.int .u64 0]
abbrev W4(l:Bc):Bn:=(l.flatMap aj).take 0++(bN zI (l.length*3)).map .lit++(l.flatMap aj).drop (0+l.length*3)
theorem clr{l:Bc}(h:0<l.length):rF prog [ob 0 25 (l.flatMap aj)] 29 (.rsl 0 (0+(0:Int).toNat*3) (l.length-(0:Int).toNat))=some (0,⟨25,W4 l,none⟩):=by have e1:dp prog 29=some 25:=aH;have e2:jj prog 25=some zI:=aH;have e3:bw prog 25=some 3:=aH;have e4:ag [ob 0 25 (l.flatMap aj)] 0=some ⟨25,l.flatMap aj,none⟩:=rfl;show rF prog _ _ (.rsl 0 0 l.length)=_;unfold rF;rw[e1];simp only[e2,e3,e4];rw[Bx ⟨rfl,h,BX,by grind [AH.len,ac],rfl⟩]
theorem RH(l:Bc):∀g∈W4 l,bB g:=by grind [AH.imm,ac,mN]
theorem W5(h:(g.at_.get x).isSome=true):ba prog gl 266 [.agg (aj x),.ptr [.ptr (Ag g) 0] 0] (bG true):=jk gl (by unfold df;rw[h])
theorem aa4(g:Aj):SP prog gl 266 [] [.ptr [.ptr (Ag g) 0] 0] (λx:Ab=>[.agg (aj x)]) (λx:Bool=>bG x) (λx=>df x g):=⟨aH,bf,aY (aG 20 _ aH) bf,λx r h=>jk gl h⟩
theorem ixL{l:Bc}(h:∀x∈l,(g.at_.get x).isSome=true):Um l (λx=>df x g)=some (if l.length=0 then-1 else 0):=by
 unfold Um;cases l with
 |nil=>rfl
 |cons a r=>
  have e:AA (Hx (a::r) (λx=>df x g)) 0=some (.inr 0):=by grind [OH,Hx,df,ah,aS]
  rw[e];rfl
theorem TY{l:Bc}(h:∀x∈l,(g.at_.get x).isSome=true)(hl:l.length<1000000000):jg prog gl 239 [.rsl 0 0 l.length,Lj g] [ob 0 25 (l.flatMap aj)] 1 (.rsl 0 0 0) [ob 0 25 []] 1:=by
 refine pP func239 ?_;have hi:=gS gl (aa4 gl g) (ixL h);by_cases h0:l.length=0
 .rw[Bx h0] at hi;obtain rfl:=List.length_eq_zero_iff.1 h0;exact mt .ret (s0 42 gl [(4,.rsl 0 0 0)] [ob 0 25 []] 1 1) [.rsl 0 0 0] [hq 10 [aE aj [],Lj g] [hc (ac.al [])] hi] [hc (rfl:0=0),hc (ac.imm [])]
 .rw[BA h0] at hi;refine pN (λj:Int=>(s0 42 gl [(0,.rsl 0 0 l.length),(1,Lj g),(5,iG 0),(6,iG j)] [ob 0 25 (l.flatMap aj)] 1 1)) 11110122 (W3 (l:=l) hl) [hq 10 [aE aj l,Lj g] [hc (ac.al l)] hi] [hc (el l),hc (aG 20 (Lj g) aH),hc (ac.imm l)] (λB j w hs k5 b=>?_) [] [(0,0)] [(0,.row)];unfold Aib at hs;rcases bC hs with⟨b1,hs⟩|⟨b1,hs⟩
  .obtain⟨y,a,hs⟩:=bS hs;obtain rfl:=Bf hs;exact jw [hr 19 b1,AB 24 (ac.ixrZ 0 a),AB 25 (ac.pt0Z aW a),hf 28 (W5 gl (h y (bO (G8 a).2)))] [hc (el l),hc (aG 20 (Lj g) aH),hc (ac.imm l)] (k5 _ rfl) [] [(0,0)] [(0,.row)]
  .obtain rfl:=Bf hs;refine pO 1111110 (J:=(s0 42 gl [(0,.rsl 0 0 l.length),(5,iG 0)] [ob 0 25 (W4 l)] 1 1)) [hr 19 b1,AB 38 (ac.sufZ 0 (l:=l) (i:=0) (y:=l) rfl),hcl 1 (clr (l:=l) (Nat.pos_of_ne_zero h0))] [hc (el l),hc (RH l)] ?_ [] [(0,0)] [(0,.row)];refine dSh 0 0 ?_;exact mt .ret (s0 42 gl [(4,.rsl 0 0 0)] [ob 0 25 []] 1 1) [.rsl 0 0 0] [AB 41 (ac.preZ 0 (l:=l) (i:=0) (y:=[]) rfl)] [hc (rfl:0=0),hc (ac.imm [])]
theorem Zy(l:Bc):∀g∈l.flatMap aj,∃v,g= .lit v:=by grind [aj]
theorem RI{g:Aj}{o:Bp}(h:∀x∈o.Past,(g.at_.get x).isSome=true)(hl:o.Past.length<1000000000):iV prog gl 190 [.ptr (Ag g) 0,.agg (aJ o)] 25 0 []:=by
 have hcl:cU o.Past=some o.Past:=by grind [cU,aT]
 refine OW func190 ?_;refine pO [1,0] (s0 10 gl [(2,.ptr [.ptr (Ag g) 0] 0),(3,.ptr (aJ o) 0)] [] 0 0) [] [hc (eB (gs:=[.ptr (Ag g) 0]) aH),hc (eB (gs:=aJ o) aH)] ?_;exact EI [ho 7 [aE aj o.Past] [] (jY gl hcl) (Zy _),tN 9 [0] 1 [ob 0 25 (o.Past.flatMap aj)] [.rsl 0 0 o.Past.length,Lj g] [ob 0 25 []] (TY gl h hl) ⟨⟨rfl,.inr ⟨rfl,ac.imm _⟩⟩,trivial⟩ ⟨⟨rfl,.inr ⟨rfl,ac.imm []⟩⟩,trivial⟩] (ac.imm [])
def hmu(R:Bq)(c:Nat){P:Br}{σ:aQ}{t:Bo}{gm gk g:G}{i:Nat}{ob:Ob}(h:dZ P σ t gm gk g=some (i,ob)):HP:=⟨some (.e 999999998 (.lit undef) i ob),dZ P (Un σ (fR gm)) t gm gk g=some (i,ob),(ZH Hi).symm.trans h⟩
abbrev mE(m:JI):oE:=m.es.map λe=>(ga e.1,iG e.2.1,e.2.2)
abbrev gMp(m:JI):G:= .mp ((mE m).map (·.1)) ((mE m).map (·.2.1)) ((mE m).map (·.2.2)) m.clk
abbrev oM(m:JI):Option Ob:=some ⟨108,[],some (.map (mE m) m.clk)⟩
abbrev oG(cs:LQ)(n:Nat)(j:Nat):Option Ob:=some ⟨111,[aE bv cs,.mref 1,.rsl j 0 n],none⟩
abbrev zQ(N:JH):Option Ob:=some ⟨115,N.flatMap d7,none⟩
theorem RJ(m:JI):FM.g ga iG m=gMp m:=by unfold FM.g gMp mE;simp only[HR];rfl
theorem lkP{m:JI}{k:Ab}{b:Bool}{v:Int}(h1:(m.get k).getD 0=v)(h2:(m.get k).isSome=b):bL prog [(1,oM m)] 108 true (.mref 1) (.agg (aj k))=some (.tup [iG v,bG b]):=by
 subst h1 h2;have hm:(mE m).map (·.1)=(m.es.map (·.1)).map ga:=by rw[HR,HR];rfl
 have hz:((prog.info? 3).bind (·.zero)).map db=some (iG 0):=aH;obtain⟨z,hz,hv⟩:=DG.1 hz;unfold bL;rw[show pB prog 108=some (25,3) from by kernel_rfl,show cD (.agg (aj k))=some (ga k) from rfl];dsimp only;rw[show Lv [(1,oM m)] (.mref 1)=some (1,108,mE m,m.clk) from rfl];dsimp only;rw[jt.chk,ax,hm,jt.key];grind [FM.get,fz]
theorem Zz{m:JI}{k:Ab}{v:Int}(h1:(m.get k).getD 0=v):bL prog [(1,oM m)] 108 false (.mref 1) (.agg (aj k))=some (iG v):=by
 subst h1;have hm:(mE m).map (·.1)=(m.es.map (·.1)).map ga:=by rw[HR,HR];rfl
 have hz:((prog.info? 3).bind (·.zero)).map db=some (iG 0):=aH;obtain⟨z,hz,hv⟩:=DG.1 hz;unfold bL;rw[show pB prog 108=some (25,3) from by kernel_rfl,show cD (.agg (aj k))=some (ga k) from rfl];dsimp only;rw[show Lv [(1,oM m)] (.mref 1)=some (1,108,mE m,m.clk) from rfl];dsimp only;rw[jt.chk,ax,hm,jt.key];grind [FM.get,fz]
def CW(m:JI)(k:Ab)(n:Int):JI:=⟨m.es++[(k,n,m.clk)],m.clk+1⟩
theorem aa6{m:JI}{k:Ab}(h:m.get k=none)(n:Int):dZ prog [(1,oM m)] 108 (.mref 1) (.agg (aj k)) (iG n)=some (1,⟨108,[],some (.map (mE (CW m k n)) (CW m k n).clk)⟩):=by
 have hm:(mE m).map (·.1)=(m.es.map (·.1)).map ga:=by rw[HR,HR];rfl
 unfold dZ;rw[show pB prog 108=some (25,3) from by kernel_rfl,show cD (.agg (aj k))=some (ga k) from rfl,show Lv [(1,oM m)] (.mref 1)=some (1,108,mE m,m.clk) from rfl];dsimp only;rw[jt.chk,ax,hm,jt.key];grind [fz,CW,FM.get]
def hlk(d:Nat){P:Br}{σ:aQ}{t:Bo}{ok:Bool}{i:Nat}{gk g:G}(h:bL P σ t ok (.mref i) gk=some g):HP:=⟨some (.m d g),bL P σ t ok (.mref i) gk=some g,h⟩
structure AcM (cs:LQ) (m:JI) (N:JH) (o:Bp) (i:Ab) (c:DH) (kk:Nat):Prop where
 chk:Aal o kk
 sm:Bb o
 cl:pG o=some o
 id:Rs o=some i
 fresh:m.get i=none
 room:N.length<200
 card:hY ⟨cs,m,N⟩ o.By=some (c,true)
 by_:o.By=c.Device
 sig:lq c.Sign (qc o) o.Sig=some true
 create:o.Kind=1->N=[]
 nPast:o.Past.length<1000000000
 par:∀x∈o.Past,∃n:Nat,m.get x=some (n:Int)/\n<200
abbrev z4:N4:=⟨0,0,0,0⟩
def Z6(m:JI)(N:JH)(l:Bc)(s:N4×N4×Int×Int×Int):Option ((N4×N4×Int×Int×Int)⊕(N4×N4×Int×Int)):=
 bif s.2.2.2.2<ah l then(aS l s.2.2.2.2).bind λx=>(aS N ((m.get x).getD 0)).bind λy=>some (.inl (yt s.1 ((m.get x).getD 0).toNat,Qs s.2.1 y.past,Fv s.2.2.1 y.o.At,Fv s.2.2.2.1 (wI (y.level+1)),wI (s.2.2.2.2+1)))else some (.inr (s.1,s.2.1,s.2.2.1,s.2.2.2.1))
def ZA(s t:N4):Nat->N4
 |0=>s
 |1=>⟨bD s.a0 t.a0,s.a1,s.a2,s.a3⟩
 |2=>⟨bD s.a0 t.a0,bD s.a1 t.a1,s.a2,s.a3⟩
 |3=>⟨bD s.a0 t.a0,bD s.a1 t.a1,bD s.a2 t.a2,s.a3⟩
 |_=>⟨bD s.a0 t.a0,bD s.a1 t.a1,bD s.a2 t.a2,bD s.a3 t.a3⟩
def Z7(N:JH)(o:Bp)(A:N4)(s:Int×Bool×Int):Option ((Int×Bool×Int)⊕(Int×Bool)):=
 bif s.2.2<ah N then(aS N s.2.2).bind λy=>bif y.o.By=o.By then(iX A s.2.2).bind λh=>bif h then some (.inl (Fv s.1 y.o.Seq,(bif s.2.1 then true else decide (y.o.Seq=wI (o.Seq-1))),wI (s.2.2+1)))else some (.inl (s.1,s.2.1,wI (s.2.2+1)))else some (.inl (s.1,s.2.1,wI (s.2.2+1)))else some (.inr (s.1,s.2.1))
section
variable {cs:LQ} {m:JI} {N:JH} {o:Bp} {i:Ab} {c:DH} {kk:Nat}
abbrev Z8(cs:LQ)(m:JI)(N:JH):G:= .ptr [aE bv cs,gMp m,aE d7 N] 0
theorem AcM.card'(h:AcM cs m N o i c kk):ba prog fI 34 [Z8 cs m N,iG o.By] (.tup [.agg (bv c),bG true]):=by have:=uN fI h.card;grind [Ag,RJ]
theorem AcM.lacks'(h:AcM cs m N o i c kk):iV prog fI 190 [Z8 cs m N,.agg (aJ o)] 25 0 []:=by have:=RI fI (g:=⟨cs,m,N⟩) (o:=o) (λx hx=>by obtain⟨n,hn,_⟩:=h.par x hx;show(m.get x).isSome=true;rw[hn];rfl) h.nPast;grind [Ag,RJ]
theorem cf(m:JI):∀e∈mE m,bB e.2.1:=by grind [mN]
abbrev aa7(o:Bp)(a k:Int):Fr:=[(0,.ref 0 0),(3,.ptr (aJ o) 0),(6,.ref 3 0),(11,.ref 4 0),(12,.ref 5 0),(13,iG a),(80,aE aj o.Past),(81,iG (ah o.Past)),(82,iG k)]
abbrev Z9(cs:LQ)(m:JI)(N:JH)(x:CY)(p b:N4):aQ:=[(0,oG cs N.length 2),(1,oM m),(2,zQ N),(3,OG x),(4,oA p),(5,oA b)]
theorem TZ(x:CY){n:Nat}(hn:n<256){r:Bool}(h:iX x.past (n:Int)=some r):ba prog fI 84 [.ptr (d7 x) 30,iG (n:Int)] (bG r):=by
 have hm:u9 (n:Int) 64=some ((n%64:Nat):Int):=by grind [u9]
 have hcn:wJ ((n%64:Nat):Int)=some (n%64):=by grind [wJ]
 have hq:∀q:Nat,n/64=q->Gg (n:Int) 64=some (q:Int):=by grind [Gg,Mx]
 have hd:wI (Int.tdiv (n:Int) 64)=((n/64:Nat):Int):=by grind [bM]
 have ht:Int.tmod (n:Int) 64=((n%64:Nat):Int):=by rw[Int.tmod_eq_emod_of_nonneg aa];rfl
 unfold iX at h;rw[hd,ht,hcn] at h;refine Gh func84 ?_;have h4:n/64=0\/n/64=1\/n/64=2\/n/64=3:=aa;rcases h4 with e|e|e|e
 .rw[e] at h;obtain rfl:=Bf h;exact Ar [hbb 7 (Tt (hq 0 e)),hbb 12 (KO hm),hV 13 (Am (P:=prog) (t:=23) x.past.a0 hcn),hV 14 (ju (P:=prog) (t:=23) (Jn x.past.a0 (n%64)) 1)] []
 .rw[e] at h;obtain rfl:=Bf h;exact Ar [hbb 7 (Tt (hq 1 e)),hbb 12 (KO hm),hV 13 (Am (P:=prog) (t:=23) x.past.a1 hcn),hV 14 (ju (P:=prog) (t:=23) (Jn x.past.a1 (n%64)) 1)] []
 .rw[e] at h;obtain rfl:=Bf h;exact Ar [hbb 7 (Tt (hq 2 e)),hbb 12 (KO hm),hV 13 (Am (P:=prog) (t:=23) x.past.a2 hcn),hV 14 (ju (P:=prog) (t:=23) (Jn x.past.a2 (n%64)) 1)] []
 .rw[e] at h;obtain rfl:=Bf h;exact Ar [hbb 7 (Tt (hq 3 e)),hbb 12 (KO hm),hV 13 (Am (P:=prog) (t:=23) x.past.a3 hcn),hV 14 (ju (P:=prog) (t:=23) (Jn x.past.a3 (n%64)) 1)] []
theorem W7(h:AcM cs m N o i c kk){p b:N4}{top lev:Int}(h1:AA (Z6 m N o.Past) (z4,z4,0,1,0)=some (p,b,top,lev))(h2:ZA p b 4=z4)(h3:decide (o.At<top)=false){last:Int}{fol:Bool}(h4:AA (Z7 N o (Qs b p)) (0,false,0)=some (last,fol))(h5:decide (o.Seq<=last)=false)(h6:1<o.Seq->fol=true):jg prog fI 101 [.ref 0 0,.agg (aJ o)] [(0,oG cs N.length 2),(1,oM m),(2,zQ N)] 3 (iG 0) [(0,oG cs (N++[(⟨o,i,Qs b p,lev⟩:CY)]).length 3),(1,oM (CW m i N.length)),(3,zQ (N++[⟨o,i,Qs b p,lev⟩]))] 4:=by
 have hro:=h.room;refine pP func101 ?_;refine pO 11111111100 (s0 234 fI [(0,.ref 0 0),(3,.ptr (aJ o) 0),(6,.ref 3 0)] [(0,oG cs N.length 2),(1,oM m),(2,zQ N),(3,OG ⟨o,i,z4,1⟩)] 4 3) [hf 24 (IW h.chk),hf 29 (Ds fI h.cl),hf 31 (TP fI h.sm h.id),hlk 40 (lkP (m:=m) (k:=i) (v:=0) (b:=false) (by rw[h.fresh];rfl) (by rw[h.fresh];rfl)),hr 49 (show decide (200<=(N.length:Int))=false from C6 aa),hq 54 [Z8 cs m N,iG o.By] [hc (cf m),hc (az.al N)] h.card',hf 61 (OD fI h.sm h.by_ h.sig)] [hc (eB (gs:=aJ o) aH),hc (el N),hc (cf m),hc (az.imm N)] ?_ [] [(0,0),(1,1),(2,2),(3,4)] [(2,.row)];refine Ix 1111111110 (s0 234 fI [(0,.ref 0 0),(3,.ptr (aJ o) 0),(6,.ref 3 0)] [(0,oG cs N.length 2),(1,oM m),(2,zQ N),(3,OG ⟨o,i,z4,1⟩)] 4 3) ?_ λd=>?_;rotate_left
 .by_cases hk1:o.Kind=1
  .have e0:decide (0<(N.length:Int))=false:=by rw[h.create hk1];rfl
   exact yl 1111111110 [hr 65 (CO hk1),hr 72 e0] [hc (el N),hc (cf m),hc (az.imm N)] d [] [(0,0),(1,1),(2,2),(3,3)] [(2,.row)]
  .exact yl 1111111110 [hr 65 (C6 hk1)] [hc (el N),hc (cf m),hc (az.imm N)] d [] [(0,0),(1,1),(2,2),(3,3)] [(2,.row)]
 refine Ix 111111111111101 (s0 234 fI [(0,.ref 0 0),(3,.ptr (aJ o) 0),(6,.ref 3 0),(11,.ref 4 0),(12,.ref 5 0),(13,iG top)] (Z9 cs m N ⟨o,i,z4,lev⟩ p b) 6 3) ?_ λd=>?_;rotate_left
 .refine pN (λs:N4×N4×Int×Int×Int=>(s0 234 fI (aa7 o s.2.2.1 s.2.2.2.2) (Z9 cs m N ⟨o,i,z4,s.2.2.2.1⟩ s.1 s.2.1) 6 3)) 11111111111110122 h1 [ho 76 [Z8 cs m N,.agg (aJ o)] [hc (cf m),hc (az.al N)] h.lacks' (λg hg=>by cases hg)] [hc (el N),hc (cf m),hc (az.imm N)] (λB s w hs k5 j=>?_) [] [(0,0),(1,1),(2,2),(3,3),(4,5),(5,6)] [(2,.row)];unfold Z6 at hs;rcases bC hs with⟨c1,hs⟩|⟨c1,hs⟩
  .obtain⟨x,ex,hs⟩:=bS hs;obtain⟨n,l,hn⟩:=h.par x (bO (G8 ex).2);have ej:(m.get x).getD 0=(n:Int):=by rw[l];rfl
   rw[ej] at hs;obtain⟨y,a,hs⟩:=bS hs;obtain rfl:=Bf hs;exact jw [hr 83 c1,AB 84 (ac.ixZ ex),AB 85 (ac.ptZ aW ex),hlk 95 (Zz ej),AB 96 (az.ixrZ 2 a),hlk 102 (Zz ej),tN 103 [4] 7 [(4,oA s.1)] [.ref 4 0,iG (n:Int)] [(0,oA (yt s.1 n))] (W0 fI s.1 aa) ⟨⟨rfl,.inl rfl⟩,trivial⟩ ⟨⟨rfl,.inl rfl⟩,trivial⟩,AB 107 (az.fs0Z aap aaq 30 BX a),tN 108 [5] 7 [(5,oA s.2.1)] [.ref 5 0,.agg (FSq y.past)] [(0,oA (Qs s.2.1 y.past))] (TX fI s.2.1 y.past) ⟨⟨rfl,.inl rfl⟩,trivial⟩ ⟨⟨rfl,.inl rfl⟩,trivial⟩,AB 114 (az.fd0Z tZ 3 a),AB 121 (az.fd0Z tZ 34 a)] [hc (el N),hc (cf m),hc (az.imm N)] (k5 _ rfl) [] [(0,0),(1,1),(2,2),(3,3),(4,4),(5,5)] [(2,.row)]
  .obtain rfl:=Bf hs;have e:=j _ rfl;simp only[FF] at e;obtain⟨rfl,rfl,rfl,rfl⟩:=e;exact yl 111111111111101 [hr 83 c1] [hc (el N),hc (cf m),hc (az.imm N)] d [] [(0,0),(1,1),(2,2),(3,3),(4,4),(5,5)] [(2,.row)]
 refine Ix 11111111111111101 (s0 234 fI [(0,.ref 0 0),(3,.ptr (aJ o) 0),(6,.ref 3 0),(11,.ref 4 0),(12,.ref 5 0),(13,iG top),(17,.ref 6 0)] (Z9 cs m N ⟨o,i,z4,lev⟩ p b++[(6,oA z4)]) 7 3) ?_ λd=>?_;rotate_left
 .refine pN (λk:Nat=>(s0 234 fI [(0,.ref 0 0),(3,.ptr (aJ o) 0),(6,.ref 3 0),(11,.ref 4 0),(12,.ref 5 0),(13,iG top),(17,.ref 6 0),(127,iG (k:Int))] (Z9 cs m N ⟨o,i,z4,lev⟩ p b++[(6,oA (ZA p b k))]) 7 3)) 1111111111111110122 Li [] [hc (el N),hc (cf m),hc (az.imm N)] (λB k v hs k5 j=>?_) [] [(0,0),(1,1),(2,2),(3,3),(4,4),(5,5),(6,6)] [(2,.row)];rcases k with _|_|_|_|k
  .cases hs;exact jw [hV 136 (ju (P:=prog) (t:=23) p.a0 b.a0)] [hc (el N),hc (cf m),hc (az.imm N)] (k5 _ rfl) [] [(0,0),(1,1),(2,2),(3,3),(4,4),(5,5),(6,6)] [(2,.row)]
  .cases hs;exact jw [hV 136 (ju (P:=prog) (t:=23) p.a1 b.a1)] [hc (el N),hc (cf m),hc (az.imm N)] (k5 _ rfl) [] [(0,0),(1,1),(2,2),(3,3),(4,4),(5,5),(6,6)] [(2,.row)]
  .cases hs;exact jw [hV 136 (ju (P:=prog) (t:=23) p.a2 b.a2)] [hc (el N),hc (cf m),hc (az.imm N)] (k5 _ rfl) [] [(0,0),(1,1),(2,2),(3,3),(4,4),(5,5),(6,6)] [(2,.row)]
  .cases hs;exact jw [hV 136 (ju (P:=prog) (t:=23) p.a3 b.a3)] [hc (el N),hc (cf m),hc (az.imm N)] (k5 _ rfl) [] [(0,0),(1,1),(2,2),(3,3),(4,4),(5,5),(6,6)] [(2,.row)]
  .have e:ZA p b (k+1+1+1+1)=z4:=h2;rw[e];exact yl 11111111111111101 [hr 128 (show decide (((k+1+1+1+1:Nat):Int)<4)=false from C6 aa)] [hc (el N),hc (cf m),hc (az.imm N)] d [] [(0,0),(1,1),(2,2),(3,3),(4,4),(5,5),(6,6)] [(2,.row)]
 refine Ix 11111111111111111111101 (s0 234 fI [(0,.ref 0 0),(3,.ptr (aJ o) 0),(6,.ref 3 0),(19,iG last),(20,bG fol)] [(0,oG cs N.length 2),(1,oM m),(2,zQ N),(3,OG ⟨o,i,Qs b p,lev⟩)] 4 3) ?_ λd=>?_;rotate_left
 .refine pN (λs:Int×Bool×Int=>(s0 234 fI [(0,.ref 0 0),(3,.ptr (aJ o) 0),(6,.ref 3 0),(19,iG s.1),(20,bG s.2.1),(157,iG (ah N)),(158,iG s.2.2)] [(0,oG cs N.length 2),(1,oM m),(2,zQ N),(3,OG ⟨o,i,Qs b p,lev⟩)] 4 3)) 1111111111111111111110122 h4 [hr 146 h3,tN 152 [3] 7 [(3,OG ⟨o,i,b,lev⟩)] [.ref 3 30,.agg (FSq p)] [(0,OG ⟨o,i,Qs b p,lev⟩)] (RE fI ⟨o,i,b,lev⟩ p) ⟨⟨rfl,.inl rfl⟩,trivial⟩ ⟨⟨rfl,.inl rfl⟩,trivial⟩] [hc (el N),hc (cf m),hc (az.imm N)] (λB s w hs k5 j=>?_) [] [(0,0),(1,1),(2,2),(3,3)] [(2,.row)];obtain⟨la,q,k⟩:=s;unfold Z7 at hs;dsimp only at hs;rcases bC hs with⟨c1,hs⟩|⟨c1,hs⟩
  .obtain⟨y,a,hs⟩:=bS hs;obtain⟨n,hn⟩:∃n:Nat,k=(n:Int):=⟨k.toNat,by have:=(G8 a).1;omega⟩;rcases bC hs with⟨c2,hs⟩|⟨c2,hs⟩
   .obtain⟨hh,f,hs⟩:=bS hs;rw[hn] at f;have f:=TZ ⟨o,i,Qs b p,lev⟩ (n:=n) (by have:=(cr (G8 a).2).1;omega) f;rw[<-hn] at f;cases hh
    .obtain rfl:=Bf hs;exact jw [hr 159 c1,AB 166 (az.ixrZ 2 a),AB 171 (az.fd0Z tZ 0 a),hr 174 c2,hq 178 [.ptr (d7 ⟨o,i,Qs b p,lev⟩) 30,iG k] [] f] [hc (el N),hc (cf m),hc (az.imm N)] (k5 _ rfl) [] [(0,0),(1,1),(2,2),(3,3)] [(2,.row)]
    .obtain rfl:=Bf hs;cases q
     .exact jw [hr 159 c1,AB 166 (az.ixrZ 2 a),AB 171 (az.fd0Z tZ 0 a),hr 174 c2,hq 178 [.ptr (d7 ⟨o,i,Qs b p,lev⟩) 30,iG k] [] f,AB 185 (az.fd0Z tZ 1 a),AB 193 (az.fd0Z tZ 1 a),hr 197 (rfl:decide (y.o.Seq=wI (o.Seq-1))=decide (y.o.Seq=wI (o.Seq-1)))] [hc (el N),hc (cf m),hc (az.imm N)] (k5 _ rfl) [] [(0,0),(1,1),(2,2),(3,3)] [(2,.row)]
     .exact jw [hr 159 c1,AB 166 (az.ixrZ 2 a),AB 171 (az.fd0Z tZ 0 a),hr 174 c2,hq 178 [.ptr (d7 ⟨o,i,Qs b p,lev⟩) 30,iG k] [] f,AB 185 (az.fd0Z tZ 1 a)] [hc (el N),hc (cf m),hc (az.imm N)] (k5 _ rfl) [] [(0,0),(1,1),(2,2),(3,3)] [(2,.row)]
   .obtain rfl:=Bf hs;exact jw [hr 159 c1,AB 166 (az.ixrZ 2 a),AB 171 (az.fd0Z tZ 0 a),hr 174 c2] [hc (el N),hc (cf m),hc (az.imm N)] (k5 _ rfl) [] [(0,0),(1,1),(2,2),(3,3)] [(2,.row)]
  .obtain rfl:=Bf hs;have e:=j _ rfl;simp only[FF] at e;obtain⟨rfl,rfl⟩:=e;exact yl 11111111111111111111101 [hr 159 c1] [hc (el N),hc (cf m),hc (az.imm N)] d [] [(0,0),(1,1),(2,2),(3,3)] [(2,.row)]
 refine pO 111111111111111111111100 (s0 234 fI [(0,.ref 0 0),(3,.ptr (aJ o) 0),(6,.ref 3 0),(19,iG last),(20,bG fol)] [(0,oG cs N.length 2),(1,oM m),(2,zQ N),(3,OG ⟨o,i,Qs b p,lev⟩)] 4 3) [] [hc (el N),hc (cf m),hc (az.imm N)] ?_ [] [(0,0),(1,1),(2,2),(3,3)] [(2,.row)];refine Ix 11111111111111111111110 (s0 234 fI [(0,.ref 0 0),(3,.ptr (aJ o) 0),(6,.ref 3 0)] [(0,oG cs N.length 2),(1,oM m),(2,zQ N),(3,OG ⟨o,i,Qs b p,lev⟩)] 4 3) ?_ λd=>?_;rotate_left
 .by_cases hs1:1<o.Seq
  .obtain rfl:=h6 hs1;exact yl 11111111111111111111110 [hr 203 h5,hr 207 (CO hs1)] [hc (el N),hc (cf m),hc (az.imm N)] d [] [(0,0),(1,1),(2,2),(3,3)] [(2,.row)]
  .exact yl 11111111111111111111110 [hr 203 h5,hr 207 (C6 hs1)] [hc (el N),hc (cf m),hc (az.imm N)] d [] [(0,0),(1,1),(2,2),(3,3)] [(2,.row)]
 exact mt .ret (s0 234 fI [(4,iG 0)] [(0,oG cs (N++[(⟨o,i,Qs b p,lev⟩:CY)]).length 3),(1,oM (CW m i N.length)),(3,zQ (N++[⟨o,i,Qs b p,lev⟩]))] 4 3) [iG 0] [hmu [1] 4 (aa6 h.fresh N.length),Tn 231 az 392 N ⟨o,i,Qs b p,lev⟩ aa] [hc (el (N++[⟨o,i,Qs b p,lev⟩])),hc (cf (CW m i N.length)),hc (az.imm (N++[⟨o,i,Qs b p,lev⟩]))] (ρ:=rI 3++[(3,5)]) (kd:=[(3,.row)])
end
theorem ZB(l:LQ):∀g∈l.flatMap bv,∃v,g= .lit v:=Gj (λx g hg=>by simp only[bv,EG,KY,or_false] at hg;rcases hg with rfl|rfl|rfl|rfl|rfl<;>exact⟨_,rfl⟩) l
theorem W8{cs:LQ}(h:xf cs):jg prog gl 100 [aE bv cs] [] 0 (.ref 0 0) [(0,oG cs 0 2),(1,oM ⟨[],0⟩),(2,zQ [])] 3:=by
 have hcl:Fi cs=some cs:=by unfold Fi aT;rw[Bx (by have:=h.1;simp;omega)];rfl
 refine pP func100 ?_;exact mt .ret (s0 15 gl [(2,.ref 0 0)] [(0,oG cs 0 2),(1,oM ⟨[],0⟩),(2,zQ [])] 3 0) [.ref 0 0] [ho 5 [aE bv cs] [] (tn gl hcl) (ZB _),hz 13 [0] (wS (i:=0) (c:=3) aH (Lh gl h) (aG 20 _ aH) (bT.imm cs) BX (by rfl) (w5 (zr wZ)))] [hc (bT.al cs),hc (cf ⟨[],0⟩),hc (az.imm [])]
abbrev frG(r:A7):Fr:=[(1,.ptr (aI r) 0),(3,.ref 0 0)]
structure Aam (r:A7) (ms:Nat->JI) (N:JH):Prop where
 srt:xf r.Cards
 sml:r.L.length<=1000
 len:N.length=r.L.length
 m0:ms 0=⟨[],0⟩
 step:∀(k:Nat) (o:Bp),r.L[k]?=some o->jg prog fI 101 [.ref 0 0,.agg (aJ o)] [(0,oG r.Cards k 2),(1,oM (ms k)),(2,zQ (N.take k))] 3 (iG 0) [(0,oG r.Cards (k+1) 3),(1,oM (ms (k+1))),(3,zQ (N.take (k+1)))] 4
def Aic(n k:Nat):Option (Nat⊕Unit):=if k<n then some (.inl (k+1))else if k=n then some (.inr ())else none
theorem CX(h:n<=1000):AA (Aic n) 0=some ():=T.eq (T.loop (λk=>k<=n) (λk=>n-k) aa aa λk hk=>by
 unfold Aic;split
 .exact .some ⟨aa,aa⟩
 .rw[Bx aa];exact .some rfl)
theorem ZC{r:A7}{ms:Nat->JI}{N:JH}(h:Aam r ms N):jg prog fI 43 [.agg (aI r)] [] 0 (.ref 0 0) [(0,oG r.Cards r.L.length 2),(1,oM (ms r.L.length)),(2,zQ (N.take r.L.length))] 3:=by
 have hn:=h.sml;refine pP func43 ?_;refine Ix 111101 (s0 26 fI (frG r) [(0,oG r.Cards r.L.length 2),(1,oM (ms r.L.length)),(2,zQ (N.take r.L.length))] 3 0) ?_ λa=>?_
 .exact mt .ret (s0 26 fI [(2,.ref 0 0)] [(0,oG r.Cards r.L.length 2),(1,oM (ms r.L.length)),(2,zQ (N.take r.L.length))] 3 0) [.ref 0 0] [] [hc (rfl:r.L.length=r.L.length),hc (cf (ms r.L.length)),hc (az.imm (N.take r.L.length))]
 have hw:jg prog fI 100 [aE bv r.Cards] [] 0 (.ref 0 0) [(0,oG r.Cards 0 2),(1,oM (ms 0)),(2,zQ [])] 3:=by rw[h.m0];exact W8 fI h.srt
 refine pN (λk:Nat=>(s0 26 fI [(1,.ptr (aI r) 0),(3,.ref 0 0),(4,iG (k:Int))] [(0,oG r.Cards k 2),(1,oM (ms k)),(2,zQ (N.take k))] 3 0)) 11110122 (CX hn) [tN 7 [] 1 [] [aE bv r.Cards] [ob 0 111 [aE bv r.Cards,.mref 2,.rsl 3 0 0],(1,oM (ms 0)),(2,zQ [])] hw trivial ⟨⟨rfl,.inl rfl⟩,⟨rfl,rfl,rfl,rfl,.inr ⟨rfl,cf _⟩⟩,⟨rfl,.inr ⟨rfl,az.imm []⟩⟩,trivial⟩] [hc (eB (gs:=aI r) aH),hc (rfl:0=0),hc (cf (ms 0)),hc (az.imm [])] (λB k v hs k5 b=>?_) [] [(0,1),(1,2),(2,3)] [(2,.row)];unfold Aic at hs;split at hs
 .rename_i hk;obtain rfl:=Bf hs;obtain⟨o,ho⟩:∃o,r.L[k]?=some o:=⟨_,DR hk⟩;have hz:aS r.L (k:Int)=some o:=by rw[au];exact ho
  exact jw [hr 14 (show decide ((k:Int)<(r.L.length:Int))=true from CO aa),AB 21 (eJ.ixZ hz),AB 22 (eJ.ptZ GN hz),tN 23 [0,1,2] 3 [(0,oG r.Cards k 2),(1,oM (ms k)),(2,zQ (N.take k))] [.ref 0 0,.agg (aJ o)] [(0,oG r.Cards (k+1) 3),(1,oM (ms (k+1))),(2,none),(3,zQ (N.take (k+1)))] (h.step k o ho) ⟨⟨rfl,.inl rfl⟩,⟨rfl,rfl,rfl,rfl,.inr ⟨rfl,cf _⟩⟩,⟨rfl,.inr ⟨rfl,az.imm _⟩⟩,trivial⟩ ⟨⟨rfl,.inl rfl⟩,⟨rfl,rfl,rfl,rfl,.inr ⟨rfl,cf _⟩⟩,⟨rfl,.inr ⟨rfl,az.imm _⟩⟩,trivial⟩,hbb 16 (Xl (q:=k) aa)] [hc (rfl:k+1=k+1),hc (cf (ms (k+1))),hc (az.imm (N.take (k+1)))] (k5 _ rfl) [] [(0,0),(1,1),(2,3)] [(2,.row)]
 .rename_i hk;split at hs
  .rename_i he;subst he;obtain rfl:=Bf hs;exact yl 111101 [hr 14 (show decide ((r.L.length:Int)<(r.L.length:Int))=false from C6 aa)] [hc (rfl:r.L.length=r.L.length),hc (cf (ms r.L.length)),hc (az.imm (N.take r.L.length))] a [] [(0,0),(1,1),(2,2)] [(2,.row)]
  .cases hs
end
end Go.Proofs.YtghphhhpagagbaaGreatDoor
