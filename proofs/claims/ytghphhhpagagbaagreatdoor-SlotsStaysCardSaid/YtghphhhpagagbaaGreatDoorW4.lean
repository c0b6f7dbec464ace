/- Texts. -/
import Derived.LaidHandle
import Derived.LaidMore
import Derived.OpenShut
import Derived.ProofKit
import Derived.Test.YtghphhhpagagbaaGreatDoorRows
import Derived.Test.YtghphhhpagagbaaGreatDoorZR
namespace Go.Proofs.YtghphhhpagagbaaGreatDoor
set_option linter.unusedSectionVars false
set_option linter.unusedVariables false
set_option linter.unusedSimpArgs false
open Go.RowKit Go.Proofs.Tryz Go.ChangeShapes Go.WideShapes Go.ChangeAt
attribute [local irreducible] Tr dz Gp
variable (gl:CB)
variable {α:Type}{base j k n:Nat}{gg:Aj}{I:Gi}{o:Bp}{R:Ad}{a l:Bk}{N:JH}{ids row:Bc}{x y:Ab}{v:Value}{D:C5}{g r:A7}{c:DH}{ss:LE}{W w:World}{t:TypeId}
section
variable {gl:CB}
theorem Af0(s:N4)(hn:n<256):ba prog gl 84 [.ptr (FSq s) 0,iG (n:Int)] (bG (gW s n)):=by
 have h:=Xa (s:=s) hn;generalize gW s n=r at h⊢;have hm:u9 (n:Int) 64=some ((n%64:Nat):Int):=by grind [u9]
 have hcn:wJ ((n%64:Nat):Int)=some (n%64):=by grind [wJ]
 have hq:∀q:Nat,n/64=q->Gg (n:Int) 64=some (q:Int):=by grind [Gg,Mx]
 have hd:wI (Int.tdiv (n:Int) 64)=((n/64:Nat):Int):=by grind [bM]
 have ht:Int.tmod (n:Int) 64=((n%64:Nat):Int):=by grind
 unfold iX at h;rw[hd,ht,hcn] at h;refine Gh func84 ?_;have h4:n/64=0\/n/64=1\/n/64=2\/n/64=3:=aa;rcases h4 with e|e|e|e
 .rw[e] at h;obtain rfl:=Bf h;exact Ar [hbb 7 (Tt (hq 0 e)),hbb 12 (KO hm),hV 13 (Am (P:=prog) (t:=23) s.a0 hcn),hV 14 (ju (P:=prog) (t:=23) (Jn s.a0 (n%64)) 1)] []
 .rw[e] at h;obtain rfl:=Bf h;exact Ar [hbb 7 (Tt (hq 1 e)),hbb 12 (KO hm),hV 13 (Am (P:=prog) (t:=23) s.a1 hcn),hV 14 (ju (P:=prog) (t:=23) (Jn s.a1 (n%64)) 1)] []
 .rw[e] at h;obtain rfl:=Bf h;exact Ar [hbb 7 (Tt (hq 2 e)),hbb 12 (KO hm),hV 13 (Am (P:=prog) (t:=23) s.a2 hcn),hV 14 (ju (P:=prog) (t:=23) (Jn s.a2 (n%64)) 1)] []
 .rw[e] at h;obtain rfl:=Bf h;exact Ar [hbb 7 (Tt (hq 3 e)),hbb 12 (KO hm),hV 13 (Am (P:=prog) (t:=23) s.a3 hcn),hV 14 (ju (P:=prog) (t:=23) (Jn s.a3 (n%64)) 1)] []
theorem Af1(s:N4):NmV gl 84 [.ptr (FSq s) 0] [] (gW s):=⟨aH,aY (aG 20 _ aH) bf,bf,(by grind [Af0])⟩
theorem Ab5(hg:Tz gg)(hn:gg.nodes.length<=14){ids r:Bc}(hi:ids.length<=1000000)(h:Ow GK (UC (gW (Pp gg ids)) gg.nodes)=some r)(hle:r.length=(UC (gW (Pp gg ids)) gg.nodes).length):iV prog gl 31 [.ptr (Ag gg) 0,aE aj ids] 25 r.length (r.flatMap aj):=by refine OW func31 ?_;exact EI [hf 8 (Ad5 (gl:=gl) hg hi),ho 11 [.ptr (Ag gg) 0,.clo (.func 84) [.ptr (FSq (Pp gg ids)) 0] []] [] (Aao (gl:=gl) hn (Af1 _) h hle) (kF r)] (ac.imm r)
theorem Ad6{l:Bc}{x:Ab}{i c:Nat}(hn:l.length<=100000):oJ prog gl 133 [.rsl i 0 l.length,.agg (aj x)] [(i,Bw l)] c (bG (l.any λy=>decide (x=y))) [] c:=
 Pr aH (Jd gl (Sv aa x)) (lR _) rfl λst h j y z h1 h2=>by
  match j with
  |0=>grind [aaW]
  |1=>cases h1;cases h2;exact jB (aG 20 (.agg (aj x)) aH)
  |j+2=>cases h1
def Ll(I:Gi)(p l:Bc):Bc:=l.foldl (λr x=>bif 0<I.lev x then bif r.any λy=>decide (x=y)then r else r++[x]else r) p
theorem Aap{I:Gi}:∀{l p:Bc},(Ll I p l).length<=p.length+l.length
 |[],p=>DC _
 |x::l,p=>by have a:Ll I p (x::l)=Ll I (bif 0<I.lev x then bif p.any λy=>decide (x=y)then p else p++[x]else p) l:=rfl;rw[a];refine LD Aap ?_;grind
theorem Ad7(h:QL gl gg I){p:Bc}(hp:iV prog gl 31 [.ptr (Ag gg) 0,aE aj o.Past] 25 p.length (p.flatMap aj))(hn:p.length+o.Past.length<=100000):iV prog gl 66 [.ptr (Ag gg) 0,.agg (aJ o)] 25 (Ll I p o.Past).length ((Ll I p o.Past).flatMap aj):=by
 refine OW func66 ?_;refine pN (λk:Nat=>(s0 35 gl [(0,.ptr (Ag gg) 0),(5,.rsl 0 0 (Ll I p (o.Past.take k)).length),(13,aE aj o.Past),(14,iG (ah o.Past)),(15,iG (k:Int))] [(0,Bw (Ll I p (o.Past.take k)))] 1 0)) 1110122 (EO (n:=o.Past.length) aa) [ho 11 [.ptr (Ag gg) 0,aE aj o.Past] [] hp (kF p)] [hc (el p),hc (ac.imm p)] (λB k w hs k5 d=>?_) [] [(0,1)] [(0,.row)];unfold Ko at hs;split at hs
 .rename_i hlt;obtain rfl:=Bf hs;obtain⟨x,hx⟩:∃x,o.Past[k]?=some x:=by simp_all
  have hz:=Bg hx;have k5:=k5 _ rfl;have hl:(Ll I p (o.Past.take k)).length<=100000:=by grind [Aap]
  have e:Ll I p (o.Past.take (k+1))=bif 0<I.lev x then bif(Ll I p (o.Past.take k)).any λy=>decide (x=y)then Ll I p (o.Past.take k)else Ll I p (o.Past.take k)++[x]else Ll I p (o.Past.take k):=by grind [Ll,JJ,Option.toList_some]
  rw[e] at k5;generalize Ll I p (o.Past.take k)=l at k5 hl⊢;have b:=h.lev x;cases c1:decide (0<I.lev x) with
  |false=>rw[c1] at k5;exact jw [hr 16 (Dd hx),AB 17 (ac.ixZ hz),AB 18 (ac.ptZ aW hz),hf 21 b,hr 22 c1,hbb 33 (Xl (q:=k) aa)] [hc (el l),hc (ac.imm l)] k5 [] [(0,0)] [(0,.row)]
  |true=>
   rw[c1] at k5;have a:=Ad6 (gl:=gl) (l:=l) (x:=x) (i:=0) (c:=2) hl;cases c2:(l.any λy=>decide (x=y)) with
   |true=>rw[c2] at k5 a;exact jw [hr 16 (Dd hx),AB 17 (ac.ixZ hz),AB 18 (ac.ptZ aW hz),hf 21 b,hr 22 c1,Go.Proofs.YtghphhhpagagbaaGreatDoor.hz 26 [0] a,hbb 33 (Xl (q:=k) aa)] [hc (el l),hc (ac.imm l)] k5 [] [(0,0)] [(0,.row)]
   |false=>rw[c2] at k5 a;exact jw [hr 16 (Dd hx),AB 17 (ac.ixZ hz),AB 18 (ac.ptZ aW hz),hf 21 b,hr 22 c1,Go.Proofs.YtghphhhpagagbaaGreatDoor.hz 26 [0] a,Tn 32 ac 24 l x aa,hbb 33 (Xl (q:=k) aa)] [hc (el (l++[x])),hc (ac.imm (l++[x]))] k5 [] [(0,3)] [(0,.row)]
 .split at hs
  .rename_i he;subst he;rw[EQ];exact EI [hr 16 (DZ (s:=o.Past))] (ac.imm (Ll I p o.Past))
  .cases hs
end
abbrev XN(R:Ad)(sen:Bk):Bk:=sen.filter (OI R)
abbrev Vc(l:Bk)(d:Int):Bool:= !(l.any λy=>decide (d=y))
def XP(fk:Bool)(R:Ad)(o:Bp)(i:Ab)(sen:Bk):Bk:=bif fk then[]else bif SD R o≠0 then[]else XN (Ug R o i) sen++(He (Ug R o i)).filter (Vc (XN (Ug R o i) sen))
theorem Af2(gl:CB)(R:Ad):InV gl 75 [.ptr (CA R) 0] [] (OI R):=⟨aH,aY (aG 20 (.ptr (CA R) 0) aH) bf,bf,λk r e=>by cases e;exact Ur gl rfl⟩
theorem Af3(gl:CB){l:Bk}(hl:l.length<=1000000):InV gl 76 [] [.ptr [aE cZ l] 0] (Vc l):=⟨aH,bf,aY (aG 20 (.ptr [aE cZ l] 0) aH) bf,λk r e=>by cases e;exact Us gl (by grind [Ss,Sv])⟩
theorem Abc{gl:CB}(hR:Bj R){l:Bk}(hl:l.length<=1000000){f:Nat->Nat}{c:Nat}(hnd:(W6 f).Nodup):oJ prog gl 73 [aE cZ l,.clo (.func 75) [.ref (f 0) 0] []] (BG f R) c (.rsl c 0 (XN R l).length) [(c,some ⟨3,(XN R l).flatMap cZ,none⟩)] (c+1):=
 Acr aH (Ab3 (Af2 gl R) hl) (lZ _) rfl λst h i x y h1 h2=>by
  have hs:Rls f R st.σ:=λk ob ho=>h _ _ (by rw[Hr,LA (by grind [Abm]) (List.mem_range.2 (DV ho))];exact ho)
  match i with
  |0=>cases h1;cases h2;exact jB (aG 20 (aE cZ l) aH)
  |1=>cases h1;cases h2;refine SX rfl rfl (λj g d a b=>?_) (by grind);grind [Aei]
  |i+2=>cases h1
section
variable {gg:Aj} {I:Gi} (h:QL fI gg I) {o:Bp} {i:Ab} {s:Bc} (hS:iV prog fI 66 [.ptr (Ag gg) 0,.agg (aJ o)] 25 s.length (s.flatMap aj)) {fr:List Bh} (hF:ba prog fI 68 [.ptr (Ag gg) 0,aE aj s] (aE Bt fr)) {fk:Bool} (hK:Aad fr (λf=>JB f o)=some fk) {R:Ad} (hR:Bj R) (hRl:SW prog fI 30 [.ptr (Ag gg) 0,aE aj s] [] 0 0 (.ref 0 0) (BG f0 R)) (hi:ba prog fI 70 [.agg (aJ o)] (.agg (aj i))) (hg:o.Guards.length<=1000000) (hp:SD R o=0->UH o i) {sen:Bk} (hN:ba prog fI 74 [.ptr (Ag gg) 0,aE aj s] (aE cZ sen)) (hn:sen.length<=1000)
include hS hF hK hR hRl hi hg hp hN hn
theorem Ad8:iV prog fI 27 [.ptr (Ag gg) 0,.agg (aJ o)] 3 (XP fk R o i sen).length ((XP fk R o i sen).flatMap cZ):=by
 have a:=hS.fn ac.sz (ac.len _) (ac.imm _);have b:=LO fI (fi_f:=69) (fa_f:=[]) (fc_f:=[.ptr (aJ o) 0]) ⟨aH,bf,aY (aG 20 (.ptr (aJ o) 0) aH) bf,λf r e=>Uq fI e⟩ hK;refine OW func27 ?_;unfold XP;cases fk with
 |true=>exact EI [hf 11 a,hf 14 hF,hq 16 [aE Bt fr,.clo (.func 69) [] [.ptr (aJ o) 0]] [] b] (rZ.imm [])
 |false=>
 rw[Be];have hM:=AeW hR (o:=o) (i:=i) hg;generalize SD R o=mm at hM hp⊢;cases cm:decide (mm≠0) with
 |true=>exact EI [hf 11 a,hf 14 hF,hq 16 [aE Bt fr,.clo (.func 69) [] [.ptr (aJ o) 0]] [] b,hrn 19 2 [.ptr (Ag gg) 0,aE aj s] hR hRl,hf 21 hi,hrr 25 (Px 2) 16 [.agg (aJ o),.agg (aj i)] hR hM,hr 26 cm] (rZ.imm [])
 |false=>
  rw[Be];have hp:=hp (Decidable.of_not_not (LR cm));have hD:=AeO fI hR hp;have hQ:=Q5 hR hp;generalize Ug R o i=Q at hD hQ⊢;have hdl:(He Q).length<=1000:=by grind [List.Perm.length_eq,Lo,Hl,Bj.len]
  have hv:=RZ fI hQ;have hl:(XN Q sen).length<=1000:=by grind
  have d:=Ab3 (Af3 fI (l:=XN Q sen) aa) (l:=He Q) aa;have hap:aT 8 (XN Q sen) ((He Q).filter (Vc (XN Q sen)))=some (XN Q sen++(He Q).filter (Vc (XN Q sen))):=Bx (by grind);have g:=Abc (gl:=fI) hQ (l:=sen) aa (f:=f0) (c:=14) BX;refine pO 1111110 (s0 43 fI [(0,.ptr (Ag gg) 0),(3,.ptr (aJ o) 0),(5,aE aj s),(6,.ref 0 0),(7,.ref 14 0)] (BG f0 R++[(14,Xc i)]) 15 0) [hf 11 a,hf 14 hF,hq 16 [aE Bt fr,.clo (.func 69) [] [.ptr (aJ o) 0]] [] b,hrn 19 2 [.ptr (Ag gg) 0,aE aj s] hR hRl,hf 21 hi,hrr 25 (Px 2) 16 [.agg (aJ o),.agg (aj i)] hR hM,hr 26 cm] (hc (eB (gs:=aJ o) aH)::rlB (Gf (Px 2)++[(14,1)]) (Px 2) hR) ?_ (ρ:=Gf (Px 2)++[(14,1)]) (kd:=Nh);refine pO 11111110 (s0 43 fI [(0,.ptr (Ag gg) 0),(5,aE aj s),(6,.ref 0 0)] (BG f0 Q) 14 0) [ZZ 30 f0 15 [.agg (aJ o),.agg (aj i)] hR hQ hD] (rlB (Gf (fW f0 15)) (fW f0 15) hQ) ?_ (ρ:=Gf (fW f0 15)) (kd:=Nh);refine pO 111111110 (s0 43 fI [(6,.ref 0 0),(8,.ref 14 0)] (BG f0 Q++[ob 14 22 [.rsl 15 0 (XN Q sen).length],(15,Ke (XN Q sen))]) 16 0) [hf 33 hN,hz 36 (W6 f0) g] (rlB (Gf f0++[(14,15),(15,14)]) f0 hQ++[hc (el (XN Q sen)),hc (rZ.imm (XN Q sen))]) ?_ (ρ:=Gf f0++[(14,15),(15,14)]) (kd:=Nh++[(15,.row)]);exact EI [hrr 39 f0 17 [] hQ hv,ho 41 [aE cZ (He Q),.clo (.func 76) [] [.ptr [aE cZ (XN Q sen)] 0]] [hc (rZ.al (XN Q sen))] d (lZ _),dg 42 rZ hap] (rZ.imm _)
end
section
section
variable {P:Br}
section
variable {ops:Array Oper} {K:St->Prop} {ty:Bo} {pos:String} {af:Array Edge} {rest:HA} {n:Nat} {gl:CB} {fr:Fr} {σ:aQ} {c p d j:Nat} {bars:Bq} {rr:Bool}
theorem Aj5{op:Op}{gq:Option (Nat×Bool)}(hw:ce ⟨n,gl,fr,σ,c,p,rr⟩ ops ⟨some d,op,ty,pos,af,gq⟩=some false)(hd:d<n)(h:D8 P ops K rest ⟨n,gl,(d,.lit undef)::fr,σ,c,p,rr⟩):D8 P ops K (⟨some d,op,ty,pos,af,gq⟩::rest) ⟨n,gl,fr,σ,c,p,rr⟩:=by unfold D8;exact .inr ⟨hw,(by grind),h⟩
end
end
section
variable {P:Br} {ops:Array Oper} {K:St->Prop} {op:Op} {ty:Bo} {pos:String} {af:Array Edge} {rest:HA} {n:Nat} {gl:CB} {fr:Fr} {σ:aQ} {c p d j:Nat} {bars:Bq} {rr:Bool} {gq:Option (Nat×Bool)}
theorem zn(h:D8 P ops K rest ⟨n,gl,(d,.lit undef)::fr,σ,c,p,rr⟩)(hw:ce ⟨n,gl,fr,σ,c,p,rr⟩ ops ⟨some d,op,ty,pos,af,gq⟩=some false:=by kernel_rfl)(hd:d<n:=by decide):D8 P ops K (⟨some d,op,ty,pos,af,gq⟩::rest) ⟨n,gl,fr,σ,c,p,rr⟩:=Aj5 hw hd h
end
end
theorem Al5:bw prog 64=some 27:=aH
theorem Aie(l:LQ):∀g∈l.flatMap bv,∃v,g= .lit v:=by grind [bv]
section
def Iu(g:Aj)(a:Ab):Option (Bp×Bool):=
 bif(!((g.at_.get a).isSome))then(some (⟨0,0,0,0,[],0,0,0,0,[],⟨0,0,0⟩,0,[],[],⟨0,0,0⟩,[],0,0,[],0,[],⟨0,0⟩⟩,false))else((aS g.nodes (FR (g.at_.get a))).bind λb=>(pG b.o).bind λe=>some (e,true))
theorem Nf{g id_}:DF prog gl (Iu g id_) 25 [.ptr (Ag g) 0,.agg (aj id_)] (λr=> .tup [.agg (aJ r.1),bG r.2]):=
 cy func25 λK=>aw [hm 14 (H7 g.at_ id_)]<|aF 18 (rv K)<|B5 25 az.ixZ 27 (az.fsZ GN Al5 0 BX) λa=>BB 28 (Ds gl) λb=>rv K
def JW(g:Aj):Option LQ:=
 (Fi g.cards).bind λa=>some a
theorem Qt{g}:LU prog gl (JW g) 81 [.ptr (Ag g) 0] 78 bv:=
 gc func81 λK=>ak λa e2=>aw [ho 7 [aE bv g.cards] [] (tn gl e2) (Aie a)]<|mr c0 K (bT.imm _)
end
theorem sP(a:Ab):dt a a=false:=by grind [ye]
theorem AcO{a b:Ab}(h1:dt a b=false)(h2:dt b a=false):a=b:=by
 have n1:¬dt a b=true:=by rw[h1];simp
 have n2:¬dt b a=true:=by rw[h2];simp
 rw[ye] at n1 n2;obtain⟨a1,a2,a3⟩:=a;obtain⟨b1,b2,b3⟩:=b;grind
theorem Ad9(hn:gg.cards.length<=1000)(d:Int):hY gg d=some (((gg.cards.find? λc=>decide (c.Device=d)).getD SE),(gg.cards.find? λc=>decide (c.Device=d)).isSome):=by
 unfold hY;refine T.eq (.bind (T.forA gg.cards.length (λk acc=>∀(j:Nat) (c:DH),j<k->gg.cards[j]?=some c->c.Device≠d) aa (by grind) (λk acc hk hj=>?_) λacc hj=>?_))
 .obtain⟨x,hx⟩:∃x,gg.cards[k]?=some x:=⟨_,DR hk⟩;unfold ij;dsimp only;rw[eA hk,ax,au,hx,aL];refine .dec (λe=> .some (.some ?_)) λe=> .some ⟨aq aa,λj c' a b=>?_⟩
  .grind [List.find?_eq_some_iff_getElem]
  grind
 .unfold ij;dsimp only;rw[eF,Be];have hf:gg.cards.find? (λc=>decide (c.Device=d))=none:=by grind [Gu]
  rw[hf];exact .some (.some rfl)
theorem Af4{i:Int}{x:CY}(hx:aS N i=some x)(hn:n<256){r:Bool}(h:iX x.past (n:Int)=some r):ba prog fI 84 [.ptr (N.flatMap d7) (i.toNat*35+30),iG (n:Int)] (bG r):=by
 have hm:u9 (n:Int) 64=some ((n%64:Nat):Int):=by grind [u9]
 have hcn:wJ ((n%64:Nat):Int)=some (n%64):=by grind [wJ]
 have hq:∀q:Nat,n/64=q->Gg (n:Int) 64=some (q:Int):=by grind [Gg,Mx]
 have hd:wI (Int.tdiv (n:Int) 64)=((n/64:Nat):Int):=by grind [bM]
 have ht:Int.tmod (n:Int) 64=((n%64:Nat):Int):=by rw[Int.tmod_eq_emod_of_nonneg aa];rfl
 unfold iX at h;rw[hd,ht,hcn] at h;refine Gh func84 ?_;have h4:n/64=0\/n/64=1\/n/64=2\/n/64=3:=aa;rcases h4 with e|e|e|e
 .rw[e] at h;obtain rfl:=Bf h;exact Ar [hbb 7 (Tt (hq 0 e)),AB 10 (az.fdZ tW 30 hx),hbb 12 (KO hm),hV 13 (Am (P:=prog) (t:=23) x.past.a0 hcn),hV 14 (ju (P:=prog) (t:=23) (Jn x.past.a0 (n%64)) 1)] []
 .rw[e] at h;obtain rfl:=Bf h;exact Ar [hbb 7 (Tt (hq 1 e)),AB 10 (az.fdZ tW 31 hx),hbb 12 (KO hm),hV 13 (Am (P:=prog) (t:=23) x.past.a1 hcn),hV 14 (ju (P:=prog) (t:=23) (Jn x.past.a1 (n%64)) 1)] []
 .rw[e] at h;obtain rfl:=Bf h;exact Ar [hbb 7 (Tt (hq 2 e)),AB 10 (az.fdZ tW 32 hx),hbb 12 (KO hm),hV 13 (Am (P:=prog) (t:=23) x.past.a2 hcn),hV 14 (ju (P:=prog) (t:=23) (Jn x.past.a2 (n%64)) 1)] []
 .rw[e] at h;obtain rfl:=Bf h;exact Ar [hbb 7 (Tt (hq 3 e)),AB 10 (az.fdZ tW 33 hx),hbb 12 (KO hm),hV 13 (Am (P:=prog) (t:=23) x.past.a3 hcn),hV 14 (ju (P:=prog) (t:=23) (Jn x.past.a3 (n%64)) 1)] []
theorem Aaq(h:Tz gg):QL fI gg (PA gg) where
 op x:=by
  cases e:gg.at_.get x with
  |none=>
   have hr:Iu gg x=some ((PA gg).o x,((PA gg).op x).isSome):=by grind [Iu,Gi.o,PA,Wq]
   exact Nf fI hr
  |some n=>
   obtain⟨k,y,rfl,hz,hn,hk,hm⟩:=TB h e;have hr:Iu gg x=some ((PA gg).o x,((PA gg).op x).isSome):=by grind [Iu,Gi.o,PA,FR,Option.isSome_some,Tz.cl]
   exact Nf fI hr
 bef x y:=by
  refine Gh func36 ?_;refine pO [1,0] (s0 44 fI [(0,.ptr (Ag gg) 0),(4,.ref 0 0),(5,.ref 1 0)] [(0,Xc x),(1,Xc y)] 2 0) [] [] ?_ [] [(0,0),(1,1)];show Gp _ _ (tH _ _ (bG (Ae4 gg x y))) _ _ _ _;unfold Ae4;have h1:=H7 gg.at_ x;have h2:=H7 gg.at_ y;unfold FR at h1 h2;cases e1:gg.at_.get x with
  |none=>rw[e1] at h1;exact Ar [hm 17 h1,hm 26 h2] []
  |some n=>
   rw[e1] at h1;cases e2:gg.at_.get y with
   |none=>rw[e2] at h2;rw[Wq e2];exact Ar [hm 17 h1,hm 26 h2] []
   |some q=>rw[e2] at h2;obtain⟨k,b,rfl,hz,hn,hk,hmm⟩:=TB h e2;obtain⟨j,a,rfl,_,_,hj,_⟩:=TB h e1;rw[hn];exact Ar [hm 17 h1,hm 26 h2,AB 39 (az.ixZ hz),hf 42 (Af4 hz hj (Xa hj))] []
 lev x:=by
  refine HB fI ?_;unfold Fa FR;cases e:gg.at_.get x with
  |none=>show _=some (match MY gg x with|some y=>y.level|none=>0);rw[Wq e];rfl
  |some n=>obtain⟨k,y,rfl,hz,hn,hk,hm⟩:=TB h e;show _=some (match MY gg x with|some y=>y.level|none=>0);grind
 cards:=by
  have hr:JW gg=some gg.cards:=by grind [JW,Fi,aT,Tz.nc]
  exact(Qt fI hr).fn aH (bT.len _) (bT.imm _)
 card d:=uN fI (Ad9 h.nc d)
section
section
variable {g:A7} {m:JI} {N:JH}
theorem Vm(w:Fo g)(p:NP g m N):Tz ⟨g.Cards,m,N⟩ where
 pos x n e:=by have e:m.get x=some n:=e;rw[p.get] at e;cases hk:bu x g.IDs<;>grind [AaJ]
 cl y hy:=by grind [NP,Gu,RM,Fo.ops]
 nc:=w.nC
end
end
section
theorem AcP(a:Ab):¬GK a a<0:=by grind [PR,sP]
theorem Vn{a b:Ab}:Ot I a b<0↔I.lev a<I.lev b\/(I.lev a=I.lev b/\dt a b=true):=by grind [Ot,PR,Wx]
theorem Vo(a:Ab):¬Ot I a a<0:=by grind [Vn,sP]
theorem Vp(I:Gi):OrN (Ot I) λ_=>True:=by grind [OrN,Vn,dt,EX]
section
variable {gl:CB}
end
end
theorem Abd(hl:ids.length<=1000000)(d s:Int):z9 ids d s=some (Om ids ⟨d,s⟩:Int):=by
 refine T.eq ?_;unfold z9;refine .bind ((T.forA ids.length (λk n=>n=(Om (ids.take k) ⟨d,s⟩:Int)) aa rfl (λk n hk hn=>?_) λn hn=>?_).mono (Q:=λn:Int=>n=(Om ids ⟨d,s⟩:Int)) λn hn=> .some hn)
 .obtain⟨y,hy,_⟩:=dk hk;unfold uf;simp only[eA hk,ax,au,hy,aL];have h1:=SJ (ids.take k) y ⟨d,s⟩;have h2:=Afp (ids.take k) ⟨d,s⟩;rw[Nv] at h2;rw[<-Rb hy] at h1;simp only[Bh.mk.injEq] at h1;have yes:y.By=d->y.Seq=s->wI (n+1)=(Om (ids.take (k+1)) ⟨d,s⟩:Int):=by grind [bM]
  have no:¬(y.By=d/\y.Seq=s)->n=(Om (ids.take (k+1)) ⟨d,s⟩:Int):=by grind
  by_cases c1:y.By=d
  .by_cases c2:y.Seq=s
   .simp only[c1,c2,decide_true,ax,aL];exact .some ⟨aq aa,yes c1 c2⟩
   .simp only[c1,c2,decide_true,decide_false,ax,Be,aL];exact .some ⟨aq aa,no λc=>c2 c.2⟩
  .simp only[c1,decide_false,Be,aL];exact .some ⟨aq aa,no λc=>c1 c.1⟩
 .unfold uf;dsimp only;rw[eF,Be];refine .some (show n=_ from ?_);rw[hn,EQ]
def FsI(ids p:Bc)(d v:Int):Prop:=(v=0/\∀y∈p,y.By=d->¬2<=Om ids ⟨d,y.Seq⟩)\/(∃y∈p,y.By=d/\y.Seq=v/\2<=Om ids ⟨d,v⟩/\∀z∈p,z.By=d->2<=Om ids ⟨d,z.Seq⟩->v<=z.Seq)
theorem Ud{ids:Bc}(hl:ids.length<=1000000)(hs:∀x∈ids,1<=x.Seq)(d:Int):T (qN ids d) (FsI ids ids d):=by
 unfold qN;refine .bind ((T.forA ids.length (λk v=>FsI ids (ids.take k) d v) aa (.inl ⟨rfl,λy hy=>by cases hy⟩) (λk v hk hv=>?_) λv hv=>?_).mono (Q:=FsI ids ids d) λv hv=> .some hv)
 .obtain⟨y,hy,hm⟩:=dk hk;unfold qM;simp only[eA hk,ax,au,hy,aL,Abd hl];have a:=hs y hm;have keep:(y.By=d->2<=Om ids ⟨d,y.Seq⟩->v≠0/\v<=y.Seq)->FsI ids (ids.take (k+1)) d v:=λh=>by
   rw[Rb hy];rcases hv with⟨h1,h2⟩|⟨z,h1,h2,h3,h4,h5⟩
   .refine .inl ⟨h1,λz hz hb hc=>?_⟩;rcases Jk.1 hz with hz|hz
    .exact h2 z hz hb hc
    .simp at hz;subst hz;exact(h hb hc).1 h1
   .refine .inr ⟨z,by simp[h1],h2,h3,h4,λw hw hb hc=>?_⟩;rcases Jk.1 hw with hw|hw
    .exact h5 w hw hb hc
    .simp at hw;subst hw;exact(h hb hc).2
  have new:y.By=d->2<=Om ids ⟨d,y.Seq⟩->(v=0\/y.Seq<v)->FsI ids (ids.take (k+1)) d y.Seq:=λhb hc h=>by
   rw[Rb hy];refine .inr ⟨y,aC,hb,rfl,hc,λw hw hb' b=>?_⟩;rcases Jk.1 hw with hw|hw
   .rcases hv with⟨h1,h2⟩|⟨z,h1,h2,h3,h4,h5⟩
    all_goals grind
   grind
  by_cases c1:y.By=d
  .by_cases c2:2<=Om ids ⟨d,y.Seq⟩
   .have c2':(1:Int)<(Om ids ⟨d,y.Seq⟩:Int):=aa;by_cases c3:v=0
    .simp only[c1,c2',c3,decide_true,ax,aL];exact .some ⟨aq aa,new c1 c2 (.inl c3)⟩
    .by_cases c4:y.Seq<v
     .simp only[c1,c2',c3,c4,decide_true,decide_false,ax,Be,aL];exact .some ⟨aq aa,new c1 c2 (.inr c4)⟩
     .simp only[c1,c2',c3,c4,decide_true,decide_false,ax,Be,aL];exact .some ⟨aq aa,keep λ_ _=>⟨c3,aa⟩⟩
   .have c2':¬(1:Int)<(Om ids ⟨d,y.Seq⟩:Int):=aa;simp only[c1,c2',decide_true,decide_false,ax,Be,aL];exact .some ⟨aq aa,keep λ_ h=>absurd h c2⟩
  .simp only[c1,decide_false,Be,aL];exact .some ⟨aq aa,keep λh=>absurd h c1⟩
 .unfold qM;dsimp only;rw[eF,Be];rw[EQ] at hv;exact .some hv
theorem AcQ(hs:∀x∈ids,1<=x.Seq){v:Int}(h:FsI ids ids y.By v):voP ids y=(decide (0<v)&&decide (v<=y.Seq)):=by
 rw[Bool.eq_iff_iff];unfold voP;rw[List.any_eq_true];simp only[bA,decide_eq_true_eq];refine⟨λ⟨z,hz,h1,h2,h3⟩=>?_,λ⟨h1,h2⟩=>?_⟩
 .rcases h with⟨_,h5⟩|⟨w,k1,k2,k3,a,k5⟩
  all_goals grind
 .rcases h with⟨h5,_⟩|⟨w,k1,k2,k3,a,k5⟩
  all_goals grind
theorem Abe{ids:Bc}(hl:ids.length<=100000)(hd:ids.Nodup)(hs:∀x∈ids,1<=x.Seq):T (vJ ids) λr=>r.Perm (ids.filter (voP ids))/\r.Pairwise λx y=>GK x y<0:=by
 unfold vJ;refine .bind ((T.forA ids.length (λk acc=>acc=(ids.take k).filter (voP ids)) aa aC (λk acc hk hj=>?_) λacc hj=>?_).mono (Q:=λacc=>acc=ids.filter (voP ids)) λx hx=> .bind ((kg ?_).mono λv hv=> .some ?_))
 .obtain⟨y,hy,hm⟩:=dk hk;unfold un;simp only[eA hk,ax,au,hy,aL];have hla:acc.length<=k:=by grind
  have e:(ids.take (k+1)).filter (voP ids)=acc++(if voP ids y then[y] else[]):=by rw[Rb hy,Qn,<-hj];cases hp:voP ids y<;>simp[hp]
  refine .bind ((Ud aa hs y.By).mono λv hv=>?_);have hq:=AcQ hs hv;by_cases c1:0<v
  .by_cases c2:v<=y.Seq
   .simp only[c1,c2,decide_true,ax,aL];rw[hq,CO c1,CO c2] at e;exact .bind (.app cq (.some ⟨aq aa,by rw[e];rfl⟩))
   .simp only[c1,c2,decide_true,decide_false,ax,Be,aL];rw[hq,CO c1,C6 c2] at e;exact .some ⟨aq aa,by rw[e];simp⟩
  .simp only[c1,decide_false,Be,aL];rw[hq,C6 c1] at e;exact .some ⟨aq aa,by rw[e];simp⟩
 .unfold un;dsimp only;rw[eF,Be];refine .some (show acc=_ from ?_);rw[hj,EQ]
 .grind
 .refine⟨hx▸hv.1,?_⟩;have hn:v.Nodup:=by grind
  refine(hv.2.and hn).imp λ{a b} h=>PR.2 ?_;cases h1:dt a b with
  |true=>rfl
  |false=>exact absurd (AcO h1 h.1) h.2
section
section
variable {g:A7} {m:JI} {N:JH}
theorem Abf(w:Fo g)(p:NP g m N){i:Nat}(h:g.IDs[i]?=some x):∃y,N[i]?=some y/\(C4 g m N).lev x=y.level/\0<=y.level/\y.level<=(i:Int)+1:=by obtain⟨y,h1,h2,h3⟩:=AaJ w p (Mh w h);refine⟨y,h1,?_,(p.nd i y h1).2.2.2⟩;show(match MY ⟨g.Cards,m,N⟩ x with|some y=>y.level|none=>0)=_;rw[TC w p,Mh w h];grind
theorem AcR(w:Fo g)(p:NP g m N):nZ g=some (N.map (·.level)):=by
 have nL:=w.nL;have nU:=w.nU;have pl:=p.len;refine T.eq ?_;unfold nZ;refine .bind (T.mono (Q:=λr=>r=N.map (·.level)) (T.forA g.L.length (λk acc=>acc=(N.take k).map (·.level)) aa aC (λk acc hk hj=>?_) λacc hj=>?_) λx hx=> .some hx)
 .obtain⟨u,hu,_⟩:=dk (l:=g.Up) (k:=k) aa;obtain⟨y,hy,_⟩:=dk (l:=N) (k:=k) aa;obtain⟨u1,e⟩:=w.up k u hu;have b:=p.lv k y u hy hu;unfold pd;dsimp only;rw[eA hk,ax];have hla:acc.length=k:=by grind
  have hin:AA (iP g (acc,(k:Int))) (1,0)=some y.level:=by
   refine T.eq ?_;refine T.loop (λs=>∃j:Nat,j<=u.length/\s.2=(j:Int)/\s.1=lvF N (u.take j)) (λs=>u.length-s.2.toNat) ⟨0,aa,rfl,rfl⟩ cq ?_;rintro⟨a,i⟩ ⟨j,f,rfl,rfl⟩;unfold iP;simp only[au,hu,aL];rcases HE j u.length with hlt|hge
   .obtain⟨z,hz,hm⟩:=dk hlt;obtain⟨h,o⟩:=e z hm;obtain⟨n,rfl⟩:∃n:Nat,z=(n:Int):=⟨z.toNat,aa⟩;obtain⟨v,hv,_⟩:=dk (l:=N) (k:=n) aa;have hb:=(p.nd n v hv).2.2.2;have ha:acc[n]?=some v.level:=by grind
    rw[eA hlt,ax,hz,aL,au,ha,aL,bM aa aa];refine .some ⟨⟨j+1,aa,aq aa,?_⟩,?_⟩
    .rw[Rb hz,Aan];grind [lvN]
    grind [aq]
   .obtain rfl:j=u.length:=aa;rw[eF,Be,EQ];exact .some b.symm
  rw[hin,aL];refine .bind (.app cq (.some ⟨aq aa,?_⟩));rw[Rb hy,List.map_append,hj];rfl
 .unfold pd;dsimp only;rw[eF,Be];refine .some (show acc=_ from ?_);rw[hj,<-pl,EQ]
theorem Sa(w:Fo g)(p:NP g m N){i:Nat}(hx:g.IDs[i]?=some x)(hy:g.IDs[k]?=some y):vI g (N.map (·.level)) (i:Int) (k:Int)=some (decide (Ot (C4 g m N) x y<0)):=by
 obtain⟨a,h1,h2,_⟩:=Abf w p hx;obtain⟨b,h3,h4,_⟩:=Abf w p hy;have e1:(N.map (·.level))[i]?=some a.level:=by rw[MH,h1];rfl
 have e2:(N.map (·.level))[k]?=some b.level:=by rw[MH,h3];rfl
 grind [vI,au,pJ,Vn]
theorem Aig{cmp:α->α->Int}(hO:OrN cmp λ_=>True){l:List α}{x:α}(hp:l.Pairwise λa b=>cmp a b<0)(h1:∀i y,i<j->l[i]?=some y->cmp y x<0)(h2:∀y,l[j]?=some y->¬cmp y x<0)(hx:x∉l):(l.take j++[x]++l.drop j).Pairwise λa b=>cmp a b<0:=by
 have hpj:(l.take j++l.drop j).Pairwise λa b=>cmp a b<0:=by rw[OQ];exact hp
 rw[List.pairwise_append] at hpj;have hlt:∀a∈l.take j,cmp a x<0:=by grind [Gu]
 have hgt:∀b∈l.drop j,cmp x b<0:=by grind [OrN,List.drop_eq_nil_of_le,List.drop_eq_getElem_cons,List.pairwise_cons]
 grind
theorem Ue(w:Fo g)(p:NP g m N)(hl:ids.length<=1000)(hd:ids.Nodup)(hm:∀x∈ids,x∈g.IDs):T (n8 g ids) λr=>r.Perm ids/\r.Pairwise λx y=>Ot (C4 g m N) x y<0:=by
 have nL:=w.nL;have nI:=w.nI;unfold n8;rw[AcR w p,aL];refine .bind (T.mono (Q:=λx:Bk=>EF g x/\(I4 g x).Perm ids/\(I4 g x).Pairwise λx y=>Ot (C4 g m N) x y<0) (T.forA ids.length (λk acc=>EF g acc/\(I4 g acc).Perm (ids.take k)/\(I4 g acc).Pairwise λx y=>Ot (C4 g m N) x y<0) aa ⟨.nil,by simp[I4],.nil⟩ (λk acc hk hj=>?_) λacc hj=>?_) λf h4=>?_)
 .obtain⟨y,hy,l⟩:=dk hk;obtain⟨b,u,o⟩:=hj;obtain⟨i,hi⟩:=Gu (hm y l);have hil:i<g.IDs.length:=(cr hi).1;have hpz:gO g y=(i:Int):=by unfold gO;rw[Mh w hi]
  have hal:acc.length<=k:=by grind [List.Perm.length_eq,Hl,Nv]
  have hny:y∉I4 g acc:=by grind [Gu,Md]
  unfold qU;simp only[eA hk,ax,au,hy,aL,qR,dC (show g.IDs.length<=1000000 by omega),hpz];rw[show decide ((i:Int)<0)=false from C6 aa,Be];refine .bind (T.mono (Q:=λn:Int=>∃j:Nat,n=(j:Int)/\j<=acc.length/\(∀q z,q<j->(I4 g acc)[q]?=some z->Ot (C4 g m N) z y<0)/\∀z,(I4 g acc)[j]?=some z->¬Ot (C4 g m N) z y<0) (T.forI acc.length (λj=>∀q z,q<j->(I4 g acc)[q]?=some z->Ot (C4 g m N) z y<0) aa (λq z h=>aa) (λj hjl hq=>?_) λhq=>?_) λn hn=>?_)
  .obtain⟨z,hz,s⟩:=dk hjl;obtain⟨B,zn,rfl,t,a,hzz⟩:=OO w b hz;unfold qT;simp only[eA hjl,ax,au,hz,aL,Sa w p a hi];refine .dec (λhc=> .some ⟨aq aa,λq C v hz'=>?_⟩) λhc=> .some ⟨j,rfl,aa,hq,λC hz'=>?_⟩;all_goals grind
  .unfold qT;dsimp only;rw[eF,Be,aL,Be];refine .some ⟨acc.length,rfl,DC _,hq,λz hz=>?_⟩;grind
  .obtain⟨j,rfl,hjl,q1,A⟩:=hn;refine .bind (.pre aa aa (.bind (.app cq (.bind (.app cq (.bind (.suf aa aa (.bind (.app cq (.some ⟨aq aa,?_,?_⟩))))))))))
   .intro x hx;have:x∈acc++[(i:Int)]:=by grind
    exact b.snoc aa x this
   .have e:I4 g ([]++acc.take (j:Int).toNat++[(i:Int)]++acc.drop (j:Int).toNat)=(I4 g acc).take j++[y]++(I4 g acc).drop j:=by grind [Fs,List.map_take,List.map_drop]
    rw[e];refine⟨?_,Aig (Vp _) o q1 A hny⟩;grind [Rb,Cy]
 .unfold qU;dsimp only;rw[eF,Be];rw[EQ] at hj;exact .some hj
 .obtain⟨h1,h2,h3⟩:=h4;refine .bind (T.mono (Q:=λr:Bc=>r=I4 g f) (T.forA f.length (λk acc=>acc=(I4 g f).take k) (by grind [List.Perm.length_eq,Hl]) aC (λk acc hk hj=>?_) λacc hj=>?_) (by grind [T.some]))
  .obtain⟨z,hz,s⟩:=dk hk;obtain⟨B,zn,rfl,t,a,hzz⟩:=OO w h1 hz;have hxl:f.length<=1000:=by grind [List.Perm.length_eq]
   have hal:acc.length<=k:=by rw[hj,Nv];omega
   unfold qS;simp only[eA hk,ax,au,hz,a,aL];refine .bind (.app cq (.some ⟨aq aa,?_⟩));rw[Rb hzz,hj]
  .unfold qS;dsimp only;rw[eF,Be];refine .some (show acc=_ from ?_);grind [Hl]
end
end
section
theorem Af5{u:Bk}:1<=lvF N u:=by
 have key:∀(l:Bk) (a:Int),1<=a->1<=l.foldl (λa j=>Fv a (lvN N j+1)) a:=by intro l;induction l<;>grind [Fv]
 exact key u 1 (Int.le_refl _)
theorem Aar{a b:Bc}(h:a.Perm b)(f:Bh):Om a f=Om b f:=(h.filter _).length_eq
theorem Aea{a b:Bc}(h:a.Perm b)(x:Ab):voP a x=voP b x:=by grind [voP,Aar]
section
variable {g:A7} {m:JI} {N:JH} (P:Pg g m N)
include P
end
end
theorem Ab6{gg:Aj}{j:Nat}:∀(l:Bc) (s:N4),gW (l.foldl (λs x=>match MY gg x with|some y=>Qs s y.past|none=>s) s) j=(gW s j||l.any λx=>match MY gg x with|some y=>gW y.past j|none=>false)
 |[],s=>aC
 |x::l,s=>by rw[List.foldl_cons,Ab6 l,List.any_cons];grind [RP]
theorem Ab7{p:Nat->Bool}{N:JH}:x∈UC p N↔∃(k:Nat) (y:CY),N[k]?=some y/\p k=true/\y.id=x:=by unfold UC;simp only[EP,Hk,List.mem_zipIdx_iff_getElem?,Prod.exists];grind
theorem Ab8{p:Nat->Bool}{N:JH}:(UC p N).Sublist (N.map (·.id)):=by
 have h:(N.zipIdx.map (·.1.id))=N.map (·.id):=by rw[show(λq:CY×Nat=>q.1.id)=(λy:CY=>y.id)∘Prod.fst from rfl,<-HR,List.zipIdx_map_fst]
 rw[<-h];exact List.filter_sublist.map _
theorem Ab9{I:Gi}{x:Ab}:∀{l p:Bc},x∈Ll I p l↔x∈p\/x∈l/\0<I.lev x
 |[],p=>by simp[Ll]
 |y::l,p=>by have a:Ll I p (y::l)=Ll I (bif 0<I.lev y then bif p.any λz=>decide (y=z)then p else p++[y]else p) l:=rfl;rw[a,Ab9];grind
theorem Aeb{I:Gi}:∀{l p:Bc},p.Nodup->(Ll I p l).Nodup
 |[],p,h=>h
 |y::l,p,h=>by have a:Ll I p (y::l)=Ll I (bif 0<I.lev y then bif p.any λz=>decide (y=z)then p else p++[y]else p) l:=rfl;rw[a];refine Aeb ?_;grind
section
variable {g:A7} {m:JI} {N:JH} (P:Pg g m N)
include P
theorem Aec:N.map (·.id)=g.IDs:=by
 refine List.ext_getElem? λk=>?_;have pl:=P.p.len;have nI:=P.w.nI;rw[MH];cases hy:N[k]? with
 |none=>grind
 |some y=>rw[(P.p.nd k y hy).2.1];rfl
theorem UD{l:Bc}(hj:j<256):gW (Pp ⟨g.Cards,m,N⟩ l) j=true↔uX g l j:=by
 have z:gW z4 j=false:=by unfold gW z4;split<;>simp
 rw[show gW (Pp ⟨g.Cards,m,N⟩ l) j=_ from Ab6 l z4,z,Bool.false_or,List.any_eq_true];unfold uX;refine⟨λ⟨x,hx,h⟩=>⟨x,hx,?_⟩,λ⟨x,hx,n,h1,h2⟩=>⟨x,hx,?_⟩⟩
 .rw[TC P.w P.p] at h;cases hk:bu x g.IDs with
  |none=>rw[hk] at h;simp at h
  |some n=>
   rw[hk,aL] at h;cases hy:N[n]? with
   |none=>rw[hy] at h;simp at h
   |some y=>rw[hy] at h;exact⟨n,rfl,((P.p.nd n y hy).2.2.1 j hj).symm.trans h⟩
 .have hn:=(cr (gb h1).1).1;have pl:=P.p.len;have nI:=P.w.nI;obtain⟨y,hy⟩:∃y,N[n]?=some y:=⟨_,DR aa⟩;rw[TC P.w P.p,h1,aL,hy];exact((P.p.nd n y hy).2.2.1 j hj).trans h2
theorem Af6:0<(C4 g m N).lev x↔x∈g.IDs:=by
 have pl:=P.p.len;have nI:=P.w.nI;cases hk:bu x g.IDs with
 |none=>
  have:(C4 g m N).lev x=0:=by show(match MY ⟨g.Cards,m,N⟩ x with|some y=>y.level|none=>0)=_;rw[TC P.w P.p,hk];rfl
  grind [jv]
 |some k=>have hid:=(gb hk).1;obtain⟨y,a,c,_⟩:=Abf P.w P.p hid;have hkl:=(cr hid).1;obtain⟨u,hu,_⟩:=dk (l:=g.Up) (k:=k) (by have:=P.w.nU;omega);have b:=P.p.lv k y u a hu;grind [Af5]
theorem Aj6(h14:g.L.length<=14){l:Bc}(hl:l.length<=1000):∃v p,Lu g l=some v/\GJ g v/\v.Nodup/\Ow GK (UC (gW (Pp ⟨g.Cards,m,N⟩ l)) N)=some p/\p.length=(UC (gW (Pp ⟨g.Cards,m,N⟩ l)) N).length/\p.length<=14/\(Ll (C4 g m N) p l).Perm v:=by
 have pl:=P.p.len;have nI:=P.w.nI;obtain⟨v,e,b,a,c,d⟩:=yf P.w (ids:=l) aa;have hs:=Ab8 (p:=gW (Pp ⟨g.Cards,m,N⟩ l)) (N:=N);rw[Aec P] at hs;have hle:=hs.length_le;obtain⟨p,e2,p1,p2⟩:=PC Nn (P.w.nd.sublist hs) aa;have hpl:=p1.length_eq;refine⟨v,p,e,b,a,e2,hpl,aa,(List.perm_ext_iff_of_nodup (Aeb (p1.nodup_iff.2 (P.w.nd.sublist hs))) a).2 λx=>?_⟩;rw[Ab9,c,p1.mem_iff,Ab7,Af6 P];refine or_congr_left ⟨λ⟨k,y,h1,h2,h3⟩=>?_,λ⟨k,h1,h2⟩=>?_⟩
 .have hk:=(cr h1).1;exact⟨k,h3▸(P.p.nd k y h1).2.1,(UD P aa).1 h2⟩
 .have hk:=(cr h1).1;obtain⟨y,hy⟩:∃y,N[k]?=some y:=⟨_,DR aa⟩;have:=(P.p.nd k y hy).2.1;grind [UD]
end
theorem Aih{gl:CB}{gg:Aj}{o:Bp}{s v:Bc}(hn:s.length<=14)(hp:s.Perm v)(hs:∀x∈v,1<=x.Seq):∃fr k w,ba prog gl 68 [.ptr (Ag gg) 0,aE aj s] (aE Bt fr)/\Aad fr (λf=>JB f o)=some k/\qN v o.By=some w/\k=(decide (0<w)&&decide (w<=o.Seq)):=by
 obtain⟨fs,hq,hi⟩:=AhD hn;have hl:=aba (ids:=s) aa;have hI:=Afq s aa;have hfl:fs.length=(TF s).2.es.length:=by rw[hq.length_eq,Hl]
 have hF:=(AaR (gl:=gl) (gg:=gg) (ids:=s) (r:=fs) (n:=fs.length) aa aa hfl.symm hi).fn Bi.sz (Bi.len _) (Bi.imm _);obtain⟨w,e,hw⟩:=Ud (ids:=v) (by have:=hp.length_eq;omega) hs o.By;refine⟨fs,_,w,hF,?_,e,rfl⟩;rw[show(λf=>JB f o)=λf=>some (decide (f.Device=o.By)&&decide (f.Seq<=o.Seq)) from funext λf=>by unfold JB;cases decide (f.Device=o.By)<;>rfl,AaB (p:=λf:Bh=>decide (f.Device=o.By)&&decide (f.Seq<=o.Seq)) aa λ_ _=>rfl];congr 1;rw[Bool.eq_iff_iff,List.any_eq_true];simp only[bA,decide_eq_true_eq];have hm:∀f:Bh,f∈fs↔(TF s).2.get f.Device=some f.Seq:=λf=>by rw[hq.mem_iff,SK]
 have hc:∀f,Om v f=Om s f:=λf=>(Aar hp f).symm;have hex:∀{d q:Int},2<=Om s ⟨d,q⟩->∃y∈v,y.By=d/\y.Seq=q:=λ{d q} h=>by unfold Om at h;obtain⟨y,hy⟩:=List.exists_mem_of_length_pos (l:=s.filter λx=>decide (x.By=d)&&decide (x.Seq=q)) (Nat.lt_of_lt_of_le BX h);rw[Hk] at hy;have:=hy.2;simp only[bA,decide_eq_true_eq] at this;exact⟨y,hp.mem_iff.1 hy.1,this.1,this.2⟩
 unfold FsI at hw;simp only[hc] at hw;refine⟨λ⟨f,hf,h1,h2⟩=>?_,λ⟨h1,h2⟩=>?_⟩
 .rw[hm] at hf;have h3:=hI.a _ _ hf;obtain⟨y,g,c,i⟩:=hex h3;rw[h1] at h3 c;rcases hw with⟨_,h5⟩|⟨z,k1,k2,k3,j,k5⟩
  .exact absurd (i▸h3) (h5 y g c)
  .have a:=k5 y g c (i▸h3);have b:=hs z k1;omega
 .rcases hw with⟨h5,_⟩|⟨z,k1,k2,k3,j,k5⟩
  .omega
  .obtain⟨q,q1,m⟩:=hI.b _ _ j;exact⟨⟨o.By,q⟩,(hm _).2 q1,rfl,by show q<=o.Seq;omega⟩
theorem Aj7{D':C5}{i:Ab}(h:o7 D o i=some D'):D'.In=D.In:=by grind [o7,Gq]
theorem Ahk(h:Rr R D)(hR:Bj R)(d:Int):OI R d=decide (d∈He R):=by
 have hp:=(Lo hR).2.1;have hi:=h.in_ d;unfold OI Hg;rw[Bool.eq_iff_iff,decide_eq_true_iff,hp.mem_iff,EP];by_cases c:d∈D.In
 .grind [G9]
 .rw[BA c] at hi;rw[hi];refine⟨(by grind),λ⟨q,hq,e⟩=>?_⟩;have hg:=IX hR.ci (k:=q.1) (v:=q.2.1) (n:=q.2.2) hq;grind
theorem af0{b:Bk}(h1:a.length<=1000)(h2:b.length<=1000):AA (qn a b) ([],0)=some (b.filter (QF a)):=by
 refine T.eq (T.forA b.length (λk acc=>acc=(b.take k).filter (QF a)) aa aC (λk acc hk hj=>?_) λacc hj=>?_)
 .obtain⟨y,hy,hm⟩:=dk hk;subst hj;have hl:((b.take k).filter (QF a)).length<=1000:=by grind
  unfold qn;simp only[eA hk,ax,au,hy,aL,cX (show a.length<=1000000 by omega)];refine .ite (λc=> .bind (.app cq (.some ⟨aq aa,?_⟩))) λc=> .some ⟨aq aa,?_⟩
  .grind [Rb]
  .rw[Rb hy,Qn];simp[c]
 .unfold qn;dsimp only;rw[eF,Be];subst hj;exact .some (show _=_ by rw[EQ])
theorem af1{b x:Bk}(h0:x.length<=1000)(h1:a.length<=1000)(h2:b.length<=1000):AA (qm a b) (x,0)=some (x++a.filter λd=> !QF b d):=by
 refine T.eq (T.forA a.length (λk acc=>acc=x++(a.take k).filter λd=> !QF b d) aa aC (λk acc hk hj=>?_) λacc hj=>?_)
 .obtain⟨y,hy,hm⟩:=dk hk;subst hj;have hl:((a.take k).filter λd=> !QF b d).length<=1000:=by grind
  unfold qm;simp only[eA hk,ax,au,hy,aL,cX (show b.length<=1000000 by omega)];refine .ite (λc=> .bind (.app cq (.some ⟨aq aa,?_⟩))) λc=> .some ⟨aq aa,?_⟩
  .grind [Rb]
  .rw[Rb hy,Qn];simp[c]
 .unfold qm;dsimp only;rw[eF,Be];subst hj;exact .some (show _=_ by rw[EQ])
section
variable {g:A7} {m:JI} {N:JH} (P:Pg g m N)
include P
theorem Aj8(k:Jo g 1000 D)(h:Rr R D)(hR:Bj R){i:Ab}(so:Bb o)(hp:UH o i):∃D',DM D o i=some D'/\lu D'=some (He (Ug R o i))/\∀d,OI (Ug R o i) d=decide (d∈He (Ug R o i)):=by
 obtain⟨D',e,k',_⟩:=Gc P.w BX k so i;refine⟨D',e,?_⟩;have z:=abn P k BX;have hQ:=Q5 hR hp;have a:=k.dev;have b:=k.nL;by_cases c:o.Kind=9
 .have eD:DM D o i=o7 D o i:=by unfold DM;rw[ofE z.z,aL];obtain⟨f,e3,_⟩:=Xj z.z h (Xi D.Cards o.By);grind
  rw[eD] at e;have ei:=Aj7 e;have eQ:(Ug R o i).in_=R.in_:=by grind [Ug,aaj]
  have e1:He (Ug R o i)=He R:=by grind [He]
  have e2:lu D'=lu D:=by grind [lu]
  refine⟨by grind [AjS,Sy.z],λd=>?_⟩;rw[e1,<-Ahk h hR d];grind [OI]
 .obtain⟨j,e2,h2⟩:=doE z (by grind) h hR (o:=o) (i:=i) (by grind);rw[e] at e2;obtain rfl:=Bf e2;exact⟨AjS ⟨by rw[k'.cards];exact P.w.nC,by grind [Jo],by grind [Jo],by grind [Jo]⟩ h2 hQ,Ahk h2 hQ⟩
end
theorem Abg(hR:Bj R)(h:SD R o=0):1<=o.By/\o.By<=6:=by
 unfold SD at h;split at h
 .grind [Bj,Dq]
 .cases c:OI R o.By with
  |false=>grind
  |true=>
   unfold OI Hg at c;cases hg:R.in_.get o.By with
   |none=>grind
   |some v=>grind [Bj,G9]
section
variable {g:A7} {m:JI} {N:JH} (P:Pg g m N)
include P
theorem Ya(h14:g.L.length<=14)(t:∀(i:Nat) (o:Bp) (x:Ab),g.L[i]?=some o->g.IDs[i]?=some x->x.Seq=o.Seq)(so:Bb o){i:Ab}(hid:pV o=some i)(u:ba prog fI 70 [.agg (aJ o)] (.agg (aj i)))(hp:1<=o.By/\o.By<=6->UH o i):∃(l:Bk) (v:Bc) (R:Ad) (f:Bool) (sen:Bk),(iV prog fI 27 [.ptr (Ag ⟨g.Cards,m,N⟩) 0,.agg (aJ o)] 3 l.length (l.flatMap cZ)/\qo g o=some l/\l.length<=2000/\l.Nodup)/\Lu g o.Past=some v/\l=XP f R o i sen/\Bj R/\(∃D,Rr R D)/\∀s:Bc,s.Perm v->SW prog fI 30 [.ptr (Ag ⟨g.Cards,m,N⟩) 0,aE aj s] [] 0 0 (.ref 0 0) (BG f0 R):=by
 have w:=P.w;have hpl:=so.nPast;have hgl:o.Guards.length<=1000000:=by grind [Bb.nGuards]
 have nI:=w.nI;have pl:=P.p.len;have hG:=Vm w P.p;have hI:=Aaq hG;have opx:∀x∈g.IDs,∃(i:Nat) (o:Bp),g.IDs[i]?=some x/\g.L[i]?=some o/\EZ o:=by grind [Gu,Fo.op]
 have hseq:∀x∈g.IDs,1<=x.Seq/\x.Seq<=2147483647:=λx hx=>by obtain⟨i,o,h1,h2,S⟩:=opx x hx;rw[t i o x h2 h1];exact(T1 S.numbers).seq
 obtain⟨v,p,e1,y,d,e2,pe,F,a⟩:=Aj6 P h14 hpl;have hv14:v.length<=14:=by have:=EC d y.sub;omega
 have hP:=Ab5 (gl:=fI) hG (by show N.length<=14;omega) (ids:=o.Past) aa e2 pe;have hS:=Ad7 hI hP aa;generalize Ll (C4 g m N) p o.Past=s at hS a;have hs14:s.length<=14:=by rw[a.length_eq];exact hv14
 have hsn:s.Nodup:=a.nodup_iff.2 d;have hsm:∀x∈s,x∈g.IDs:=by grind [GJ.sub]
 obtain⟨fr,f,E,f1,f2,H,U⟩:=Aih (gl:=fI) (gg:=⟨g.Cards,m,N⟩) (o:=o) hs14 a (by grind);obtain⟨row,B,A,C⟩:=Ue w P.p aa d y.sub;have hrl:row.length<=14:=by rw[A.length_eq];exact hv14
 have hrn:row.Nodup:=A.nodup_iff.2 d;have hrm:∀x∈row,x∈g.IDs:=by grind
 have hO:∀s:Bc,s.Perm v->ba prog fI 47 [.ptr (Ag ⟨g.Cards,m,N⟩) 0,aE aj s] (aE aj row):=λs a=>by
  have hs14:s.length<=14:=by rw[a.length_eq];exact hv14
  obtain⟨r,e,n,h⟩:=PC (Vp (C4 g m N)) (a.nodup_iff.2 d) hs14;have:r=row:=P2 (Vp (C4 g m N)).tr Vo (n.trans (a.trans A.symm)) h C;grind [WE,List.Perm.length_eq]
 obtain⟨vs,J,V,K⟩:=Abe (ids:=v) aa d (by grind);have hvm:∀x∈vs,x∈g.IDs:=by grind
 have hvl:vs.length<=1000:=by grind [List.Perm.length_eq,Mj]
 have hV:∀s:Bc,s.Perm v->ba prog fI 238 [.ptr (Ag ⟨g.Cards,m,N⟩) 0,aE aj s] (aE aj vs):=λs a=>by
  have hs14:s.length<=14:=by rw[a.length_eq];exact hv14
  obtain⟨r,e,n,h⟩:=Ag2 (gl:=fI) (gg:=⟨g.Cards,m,N⟩) hs14 (a.nodup_iff.2 d) (by grind);have hq:(s.filter (voP s)).Perm (v.filter (voP v)):=by rw[show voP s=voP v from funext (Aea a)];grind
  have:r=vs:=P2 Nn.tr AcP (by grind) h K;exact this▸e
 obtain⟨s1,s2⟩:=Aha P hrm;have hO2:ba prog fI 47 [.ptr (Ag ⟨g.Cards,m,N⟩) 0,aE aj row] (aE aj row):=by obtain⟨r,e,n,h⟩:=PC (Vp (C4 g m N)) hrn hrl;have:r=row:=P2 (Vp (C4 g m N)).tr Vo n h C;grind [WE]
 have j:=Wz hI hO2 aa;have hN:=Wz hI (hO s a) aa;have k:=abq P B aa hrm;obtain⟨D,M,cs,O,W,q,b,d6⟩:=AlJ P (ids:=v) y B hrn aa hrm J hvl hvm;have hod:∀x∈row,UH ((C4 g m N).o x) x:=λx hx=>by obtain⟨i,o,h1,h2,_⟩:=opx x (hrm x hx);rw[(P.op h2 h1).2];grind [Pg.od]
 have hcl:cs.length<=1000:=by grind
 have c:=λ(s:Bc) (a:s.Perm v)=>AgI hI P.cd (Ada (I:=C4 g m N) (ids:=s) (row:=row) (s:=NS (C4 g m N) row) (r:=cs) ⟨hI,P.cd,hod,by show row.length<=1000;omega⟩ (hO s a) (hV s a) hvl j aa O) (by grind) hcl;generalize YD (C4 g m N) cs=R at q b c;generalize NS (C4 g m N) row=sen at s1 s2 hN k;have hA:=Ad8 hS f1 f2 b (c s a) u hgl (by grind [Abg]) hN aa;refine⟨_,v,R,f,sen,⟨hA,?_,?_⟩,e1,rfl,b,⟨D,q⟩,c⟩;all_goals clear hA c hN j hO hV
 .unfold qo XP;rw[e1,aL,H,aL];have hj:(bif 0<E then(some (decide (E<=o.Seq)))else(some false))=some f:=by grind
  rw[hj,aL];cases f with
  |true=>rfl
  |false=>
  rw[Be,Be,M,aL,hid,aL,AjE (abn P d6 aa).z q b hgl i,aL];cases cm:decide (SD R o≠0) with
  |true=>rfl
  |false=>
  have hp:=hp (Abg b (Decidable.of_not_not (LR cm)));obtain⟨D',k1,k2,k3⟩:=Aj8 P d6 q b so hp;have hQ:=Q5 b hp;generalize Ug R o i=Q at k2 k3 hQ;have hdl:(He Q).length<=1000:=by rw[(Lo hQ).2.1.length_eq,Hl];grind [Bj.len]
  rw[Be,Be,k1,aL,k2,aL,k,aL,af0 hdl aa,aL,af1 (by grind) hdl aa,aL];have a1:sen.filter (QF (He Q))=XN Q sen:=by grind [List.filter_congr,Ju]
  rw[a1];congr 2;grind [List.filter_congr,Ju]
 .unfold XP;cases f with
  |true=>simp
  |false=>
  cases cm:decide (SD R o≠0) with
  |true=>simp
  |false=>
  have hQ:=Q5 b (hp (Abg b (Decidable.of_not_not (LR cm))));generalize Ug R o i=Q at hQ;have hdl:(He Q).length<=1000:=by rw[(Lo hQ).2.1.length_eq,Hl];grind [Bj.len]
  have dn:(He Q).Nodup:=(Lo hQ).2.1.nodup_iff.2 hQ.ci.kd;grind
theorem Aee(h14:g.L.length<=14)(a:∀(i:Nat) (o:Bp) (x:Ab),g.L[i]?=some o->g.IDs[i]?=some x->x.Seq=o.Seq)(so:Bb o){i:Ab}(hid:pV o=some i)(b:ba prog fI 70 [.agg (aJ o)] (.agg (aj i)))(hp:1<=o.By/\o.By<=6->UH o i):∃l:Bk,iV prog fI 27 [.ptr (Ag ⟨g.Cards,m,N⟩) 0,.agg (aJ o)] 3 l.length (l.flatMap cZ)/\qo g o=some l/\l.length<=2000/\l.Nodup:=by obtain⟨l,_,_,_,_,h,_⟩:=Ya P h14 a so hid b hp;exact⟨l,h⟩
end
def Pq{α:Type}(x:Option α)(Q:α->Prop):Prop:=∀v,x=some v->Q v
section
variable {α β:Type} {x:Option α} {f:α->Option β} {Q:β->Prop} {R:α->Prop}
theorem Pq.b(h:∀v,Pq (f v) Q):Pq (x.bind f) Q:=λw e=>by obtain⟨v,_,e⟩:=Gq.1 e;exact h v w e
theorem Pq.m(h:Pq x R)(k:∀v,R v->Pq (f v) Q):Pq (x.bind f) Q:=λw e=>by obtain⟨v,e',e⟩:=Gq.1 e;exact k v (h v e') w e
theorem Pq.i{c:Bool}{a b:Option α}(h1:c=true->Pq a R)(h2:c=false->Pq b R):Pq (bif c then a else b) R:=by grind
theorem Pq.s{v:α}(h:R v):Pq (some v) R:=λw e=>(by grind)
end
theorem Pq.of{α:Type}{x:Option α}{Q:α->Prop}(h:T x Q):Pq x Q:=λv e=>by obtain⟨w,e',h⟩:=h;grind
def Kn(o:Bp):Prop:=o.Kind=9->1<=o.Need/\o.Need<=1000000
theorem AcS{n:Int}(h0:0<=n)(h1:n<=1000000):Pq (sc g ids o n) Kn:=by
 unfold sc;refine .b λj=> .b λk=> .b λl=> .i (λc=>?_) λc=>?_
 .refine .b λp=> .b λa=> .m (R:=λq=>0<=q/\q<=1) (λq e=>?_) λd hq=> .b λh=> .s λ_=>?_
  .grind [bM,u9,iI,ah]
  grind [bM]
 .have c':=LR c;refine .b λ_=> .b λ_=> .b λ_=> .b λ_=> .b λ_=> .b λ_=> .i (λ_=> .s λe=>absurd e c') λ_=> .s λe=>absurd e c'
theorem Af7{n m:Int}(hm:c8 m):Pq (sd g n m) Kn:=by
 unfold sd;refine .b λw=> .m (.of (eX hm BX)) λj h3=> .b λy=> .i (λ_=> .s λe=>(by grind)) λ_=> .b λa=> .b λl=> .b λj12=> .b λo=> .b λp=>?_;have hk:0<=wI (j.tdiv 20)/\wI (j.tdiv 20)<=1000000:=by grind [bM]
 have no:∀{k:Int},decide (a.Kind=k)=true->k≠9->∀{q:Int},a.Kind=9->1<=q/\q<=1000000:=by grind
 refine .m (R:=λx:Bp×Bc=>Kn x.1) (.i (λc=> .b λ_=> .s λe=>(by grind)) λ_=> .m (R:=λx:Bp×Bc=>Kn x.1) (.i (λc=> .b λ_=> .s λe=>(by grind)) λ_=> .m (R:=λx:Bp×Bc=>Kn x.1) (.i (λc=> .s λe=>(by grind)) λ_=> .m (R:=λx:Bp×Bc=>Kn x.1) (.i (λc=> .b λ_=> .b λ_=> .b λ_=> .s λe=>(by grind)) λ_=> .m (R:=λx:Bp×Bc=>Kn x.1) (.i (λc=> .s λe=>(by grind)) λ_=> .m (R:=λx:Bp×Bc=>Kn x.1) (.i (λc=> .s λe=>(by grind)) λ_=> .m (R:=λb:Bool=>a.Kind=9->b=true) (by grind [Pq.s]) λr t=> .m (R:=λx:Bp×Bc=>Kn x.1) (.i (λ_=> .m (AcS hk.1 hk.2) λu h=> .b λ_=> .s h) λc=> .s λe=>(by grind)) λ_ h=> .s h) λ_ h=> .s h) λ_ h=> .s h) λ_ h=> .s h) λ_ h=> .s h) λ_ h=> .s h) λv d=>?_;exact .b λ_=> .b λ_=> .b λ_=> .b λ_=> .b λ_=> .s d
def R5(l:LQ):Bool:=decide (l.length<=12)&&(List.range 12).all λk=>match l[k]?,l[k+1]? with
 |some a,some b=>decide (a.Device<=b.Device)&&(decide (0<=a.Device)&&decide (b.Device<=1000000))
 |_,_=>true
theorem OM{l:LQ}(h:R5 l=true):xf l:=by unfold R5 at h;simp only[bA,decide_eq_true_eq] at h;refine⟨h.1,λk a b ha hb=>?_⟩;have hk:=(cr ha).1;have:=Ge.1 h.2 k (List.mem_range.2 aa);rw[ha,hb] at this;simpa using this
theorem Ls:xf u7:=OM aH
structure ZR (r:A7) (ms:Nat->JI) (N:JH):Prop where
 wf:Fo r
 ne:r.L≠[]
 run:Aam r ms N
 pg:NP r (ms r.L.length) N
 gr:KI g0 r
 gC:r.Cards=u7
 n14:r.L.length<=14
abbrev oN3(N:JH)(n:Nat):Option Ob:=zQ (N.take n)
theorem Ui{ms:Nat->JI}(e:vq l 14=some r)(h:ZR r ms N):jg prog fI 10 [aE cZ l] [] 0 (.tup [.ref 0 0,.agg (aI r)]) [(0,oG r.Cards r.L.length 2),(1,oM (ms r.L.length)),(2,oN3 N r.L.length)] 3:=by refine pP func10 ?_;exact mt .ret (s0 10 fI [(2,.ref 0 0),(3,.ptr (aI r) 0)] [(0,oG r.Cards r.L.length 2),(1,oM (ms r.L.length)),(2,oN3 N r.L.length)] 3 0) [.ref 0 0,.agg (aI r)] [hf 6 (Jm fI e),tN 8 [] 2 [] [.agg (aI r)] [ob 0 111 [aE bv r.Cards,.mref 3,.rsl 4 0 r.L.length],(1,oM (ms r.L.length)),(2,oN3 N r.L.length)] (ZC h.run) trivial ⟨⟨rfl,.inl rfl⟩,⟨rfl,rfl,rfl,rfl,.inr ⟨rfl,cf _⟩⟩,⟨rfl,.inr ⟨rfl,az.imm _⟩⟩,trivial⟩] [hc (eB (gs:=aI r) aH),hc (rfl:r.L.length=r.L.length),hc (cf (ms r.L.length)),hc (az.imm (N.take r.L.length))]
theorem neZ(a:Int):decide (a≠a)=false:=aC
theorem ZX{gl:CB}{l:Bk}(hn:l.length<=1000000):ba prog gl 29 [aE cZ l,aE cZ l] (bG true):=by
 refine Gh func29 ?_;refine pN (λk:Nat=>(s0 26 gl [(0,aE cZ l),(1,aE cZ l),(5,iG (k:Int))] [] 0 0)) 1110122 (EO (n:=l.length) aa) [hr 10 (neZ (ah l))] [] (λB k w hs k5 a=>?_);unfold Ko at hs;split at hs
 .rename_i hlt;obtain rfl:=Bf hs;obtain⟨x,hx⟩:∃x,l[k]?=some x:=by simp_all
  have hz:=Bg hx;have k5:=k5 _ rfl;exact jw [hr 14 (Dd hx),AB 19 (rZ.ixZ hz),AB 20 (rZ.p1Z tZ hz),AB 23 (rZ.ixZ hz),AB 24 (rZ.p1Z tZ hz),hr 25 (neZ x),hbb 16 (Xl (q:=k) aa)] [] k5 []
 .split at hs
  .rename_i he;subst he;exact Ar [hr 14 (DZ (s:=l))] []
  .cases hs
theorem KJ{i:Ab}(so:Bb o)(h:pV o=some i):i.By=o.By/\i.Seq=o.Seq:=by obtain⟨j,e,a,b,_⟩:=wN so;grind
theorem Abk{b:A7}(h:KI b g)(hb:b.L=[]):∀(i:Nat) (o:Bp),g.L[i]?=some o->∃c∈g.Cards,c.Device=o.By:=by
 induction h with
 |base=>grind
 | @step g o id up row gr w sm _ e a hid hrow ih=>
  intro i d ho;have ho:(g.L++[o])[i]?=some d:=ho;rcases je ho with⟨_,h⟩|⟨_,rfl⟩
  .exact ih i d h
  .obtain⟨c,hc,_⟩:=a.card;exact⟨c,yd hc⟩
theorem Acb{cs:LQ}(h:cs.all KK=true)(hc:c∈cs):1<=c.Device/\c.Device<=6/\1<=c.Member/\c.Member<=3:=by grind [KK]
theorem Aik:u7.map (·.Device)=[1,2,3,4,5,6]:=aH
section
variable {r:A7} {ms:Nat->JI} {N:JH}
theorem Aeh{b:A7}{m:JI}(w:Fo r)(p:NP r m N)(gr:KI b r)(hb:b.L=[])(hl:r.Cards.length<=1000)(h6:r.Cards.all KK=true)(hn:(r.Cards.map (·.Device)).Nodup):Pg r m N:=by have hcd:=Abk gr hb;refine⟨w,p,λi o x ho hx=>?_,(by grind),⟨hl,λc hc=>Acb h6 hc⟩,hn⟩;grind [Fo.ops,T1,EZ.numbers,Bb.nGuards,UH,KJ,Fo.ids,NN.k9,ah,Acb]
theorem Akd(h:ZR r ms N):Pg r (ms r.L.length) N:=Aeh h.wf h.pg h.gr rfl (by rw[h.gC,KL];decide) (h.gC▸Og) (by rw[h.gC,Aik];decide)
end
theorem Acc{m:JI}(P:Pg g m N)(h14:g.L.length<=14)(so:Bb o)(hk:Kn o):∃l:Bk,iV prog fI 27 [Z8 g.Cards m N,.agg (aJ o)] 3 l.length (l.flatMap cZ)/\qo g o=some l/\l.length<=2000/\l.Nodup:=by
 obtain⟨i,e,hi⟩:=TU so;have hb:=KJ so hi;have hg:o.Guards.length<=1000000:=by grind [Bb.nGuards]
 have:=Aee P h14 (λi o x ho hx=>(KJ (P.w.ops i o ho).1 (P.w.ids i o x ho hx)).2) so hi (TP fI so e) λb=>⟨hb.1,hg,hk,b⟩;grind [Ag,RJ]
theorem Ake{ms:Nat->JI}(h:ZR r ms N)(ho:r.L[k]?=some o):Bb o/\Kn o:=by obtain⟨sm,a,_⟩:=h.wf.ops k o ho;have f:=T1 a.numbers;have:=sm.nGuards;refine⟨sm,λhk=>?_⟩;grind [NN,ah]
theorem Akf{x:Option α}{Q:α->Prop}(h:T x Q):T x λv=>x=some v/\Q v:=by obtain⟨v,e,q⟩:=h;exact⟨v,e,e,q⟩
theorem Iv(h:T (qo g o) λl=>l.length<=3000):T (jm g o) λl=>l.length<=200000:=by unfold jm;refine .bindc (zh _) λa _=> .ite (λ_=> .some aC) λ_=> .bind (h.mono λb h4=>?_);grind [cX,T.some,Od]
theorem Oh(hl:l.length<=9223372036854775807)(hi:∀x∈l,c8 x){most:Int}(hm:most<=14)(hk:k<=1000)(w:Fo g)(gr:KI g0 g)(hg:g.L.length<=k):T (ly l most (g,(k:Int))) (Rd (λs'=>s'.2=((k+1:Nat):Int)/\(k:Int)<most/\Fo s'.1/\KI g0 s'.1/\(g.L≠[]->s'.1.L≠[])/\s'.1.L.length<=g.L.length+1) λv=>v=g/\(k=0->most<=0)):=by
 have e2:wI (2*(k:Int))=((2*k:Nat):Int):=by grind [bM]
 have e3:wI (((2*k:Nat):Int)+1)=((2*k+1:Nat):Int):=aq aa;have at_:∀(n:Nat) {Q:Int->Prop},(∀v,c8 v->Q v)->T (bif (n:Int)<ah l then((aS l (n:Int)).bind λp=>some p)else(some 0)) Q:=λn Q q=>by refine .dec (λhp=>?_) λ_=> .some (q 0 dP);refine .bind (.ixl aa (by unfold ah at hp;omega) λy _ hy=> .some (q y (hi y hy)))
 unfold ly;simp only[e2,e3];refine .bind (T.mono (Q:=λb:Bool=>(b=true->(k:Int)<most)/\(b=false->k=0->most<=0)) (.dec (λhp=>?_) λhp=> .some ⟨λe=>(by cases e),λ_ e=>(by subst e;exact Int.not_lt.1 hp)⟩) λb hb=> .ite (λe=>?_) λe=> .some ⟨rfl,hb.2 e⟩)
 .have:(k:Int)<most:=hp;refine .ite (λ_=> .some ⟨λ_=>this,λe=>(by cases e)⟩) λh4=> .some ⟨λ_=>this,λ_ e=>?_⟩;subst e;exact absurd h4 (λe=>Bool.noConfusion e)
 have hk':=hb.1 e;have hw:wI ((k:Int)+1)=((k+1:Nat):Int):=aq aa;refine .bind (at_ (2*k) λD t=> .bind (at_ (2*k+1) λE f=>?_));obtain⟨ms,N,u,_,_,h4⟩:=OL gr rfl rfl Ls;have P:=Aeh w h4 gr rfl (by rw[u];show u7.length<=1000;rw[KL];decide) (u▸Og) (by rw[u];show(u7.map (·.Device)).Nodup;rw[Aik];decide);refine .bind (T.mono (Akf (N2 w t f)) λo ⟨z,c⟩=> .bind ((Iv (by obtain⟨_,_,e,h⟩:=Acc P aa c.nopath (Af7 f o z);exact⟨_,e,aa⟩)).mono λF H=> .bindc (uW (eX f BX)) λI _=> .bindc (.ite (λ_=> .some trivial) λ_=> .some trivial) λJ _=> .bindc (zh _) λK _=>?_));refine .bind (T.mono (Q:=λx:List Fj=>x.length<=1000/\∀y∈x,I5 y) (T.loop (λs=>∃j:Nat,s.2=(j:Int)/\j<=5/\s.1.length<=j/\∀y∈s.1,I5 y) (λs=>6-s.2.toNat) ⟨0,rfl,aa,aC,aC⟩ aC ?_) λA B=>?_)
 .rintro⟨a,i⟩ ⟨j,rfl,hj,ha,hs⟩;simp only at ha hs;have hwj:wI ((j:Int)+1)=((j+1:Nat):Int):=aq aa;unfold lw;refine .bind (T.mono (Q:=λb:Bool=>b=true->j<5) (.ite (λ_=> .ite (λ_=> .some λe=>?_) λ_=> .some λe=>by cases e) λ_=> .some λe=>by cases e) λb hb=> .ite (λe=>?_) λ_=> .some ⟨by grind,hs⟩)
  .grind
  .have:=hb e;refine .bind (.bind (.app cq (.some (.some ⟨⟨j+1,hwj,aa,by simp;omega,λy hy=>?_⟩,?_⟩))))
   .rcases Jk.1 hy with hy|hy
    .grind
    .simp at hy;subst hy;exact⟨Mp _,aC,aC⟩
   grind
 .have so:Bb {o with Path:=A}:=Hh c.iBy c.iSeq c.iKind c.iAt c.sPast c.iDevice c.iOld c.iMember c.iRole B c.epoch c.iN c.nBody c.sRefs c.of_ c.sGuards c.iNeed c.iWait c.sBoxes c.pub c.sHist;refine .bind ((Io so).mono λM C=>?_);obtain⟨s,rfl,hr,hs⟩:=C;refine .bind ((QG w (so.sig s) hs).mono λm d=> .dec (λh0=> .some ⟨hw,hk',d.1,?_,?_,?_⟩) λ_=> .some ⟨hw,hk',w,gr,λh=>h,Nat.le_succ _⟩)
  .rcases d.2 with⟨h,_⟩|⟨id,up,row,_,a,hid,hrow,hg⟩
   .grind
   .show KI g0 m.1;rw[hg];exact .step gr w (so.sig s) hr hs a hid hrow
  .rcases d.2 with⟨h,_⟩|⟨id,up,row,_,a,hid,hrow,hg⟩
   .grind
   .intro _;show m.1.L≠[];rw[hg];show g.L++[_]≠[];simp
  .rcases d.2 with⟨h,_⟩|⟨id,up,row,_,a,hid,hrow,hg⟩
   .grind
   .show m.1.L.length<=_;rw[hg];show(g.L++[_]).length<=_;simp
theorem Wf(hl:l.length<=9223372036854775807)(hi:∀x∈l,c8 x){most:Int}(h0:0<most)(hm:most<=14):T (vq l most) λg=>Fo g/\KI g0 g/\g.L≠[]/\(g.L.length:Int)<=most:=by
 unfold vq r8;rw[aL,Oe,aL];unfold Jf;rw[aL];refine .bind (T.mono (Q:=λg:A7=>Fo g/\KI g0 g/\g.L≠[]/\(g.L.length:Int)<=most) (T.loop (λs=>∃k:Nat,s.2=(k:Int)/\k<=1000/\Fo s.1/\KI g0 s.1/\(k=0->s.1=g0)/\(k≠0->s.1.L≠[])/\s.1.L.length<=k/\(k:Int)<=most) (λs=>1001-s.2.toNat) ⟨0,rfl,aa,Yu,.base,λ_=>rfl,(by grind),Nat.zero_le _,by grind⟩ aC ?_) λv hv=> .some hv);rintro⟨g,i⟩ ⟨k,rfl,hk,w,gr,hz,a,hlk,b⟩;have hlk:g.L.length<=k:=hlk;obtain⟨r,e,hr⟩:=Oh hl hi hm hk w gr hlk;refine⟨r,e,?_⟩;cases r with
 |inr v=>obtain⟨rfl,h⟩:=hr;constructor<;>grind
 |inl s=>obtain⟨h1,h2,h3,h4,h5⟩:=hr;refine⟨⟨k+1,h1,aa,h3,h4,(by grind),λ_=>?_,by grind,aa⟩,?_⟩;all_goals grind [KM]
theorem Xe(hl:l.length<=9223372036854775807)(hi:∀x∈l,c8 x):∃r ms N,vq l 14=some r/\ZR r ms N:=by obtain⟨r,e,w,g,ne,hn⟩:=Wf hl hi (most:=14) BX BX;obtain⟨ms,N,a,_,h3,h4⟩:=OL g rfl rfl Ls;exact⟨r,ms,N,e,w,ne,h3,h4,g,a,aa⟩
section
variable {gl:CB}
abbrev DnV(gl:CB)(fi:FuncId)(fa fc:Bn)(p:Ab->Bool):Prop:=SP prog gl fi fa fc (λx:Ab=>[.agg (aj x)]) (λx:Bool=>bG x) (λk=>some (p k))
theorem Aas{p:Ab->Bool}{fi:FuncId}{fa fc:Bn}(hv:DnV gl fi fa fc p){l:Bc}(hn:l.length<=1000000):iV prog gl 46 [aE aj l,.clo (.func fi) fa fc] 25 (l.filter p).length ((l.filter p).flatMap aj):=by
 refine OW func46 ?_;refine pN (λk:Nat=>(s0 23 gl [(1,.clo (.func fi) fa fc),(5,.rsl 0 0 ((l.take k).filter p).length),(8,aE aj l),(9,iG (ah l)),(10,iG (k:Int))] [(0,Bw ((l.take k).filter p))] 1 0)) 1110122 (EO (n:=l.length) aa) [] [hc hv.im,hc (ac.imm [])] (λB k w hs k5 a=>?_) [25] [(0,0)] [(0,.row)];unfold Ko at hs;split at hs
 .rename_i hlt;obtain rfl:=Bf hs;obtain⟨x,hx⟩:∃x,l[k]?=some x:=⟨_,DR hlt⟩;have hz:=Bg hx;have k5:=k5 _ rfl;have hl:((l.take k).filter p).length<=k:=LD (Mj _ _) (by rw[Nv];omega);rw[JJ,hx,Option.toList_some,Qn] at k5;generalize (l.take k).filter p=q at k5 hl⊢;have hcs:=hv.cs (c:=2) (x:=x) rfl (aY (aG 20 (.agg (aj x)) aH) bf);cases hp:p x with
  |true=>rw[hp] at hcs;rw[List.filter_cons_of_pos hp,List.filter_nil] at k5;exact jw [hr 11 (Dd hx),AB 12 (ac.ixZ hz),AB 13 (ac.ptZ aW hz),Go.Proofs.YtghphhhpagagbaaGreatDoor.hz 16 [] hcs,Tn 20 ac 24 q x aa,hbb 21 (Xl (q:=k) aa)] [hc hv.im,hc (el (q++[x])),hc (ac.imm (q++[x]))] k5 [] [(0,3)] [(0,.row)]
  |false=>rw[hp] at hcs;rw[List.filter_cons_of_neg (by simp[hp]),List.filter_nil,MG] at k5;exact jw [hr 11 (Dd hx),AB 12 (ac.ixZ hz),AB 13 (ac.ptZ aW hz),Go.Proofs.YtghphhhpagagbaaGreatDoor.hz 16 [] hcs,hbb 21 (Xl (q:=k) aa)] [hc hv.im,hc (el q),hc (ac.imm q)] k5 [] [(0,0)] [(0,.row)]
 .split at hs
  .rename_i he;subst he;rw[EQ];exact EI [hr 11 (DZ (s:=l))] (ac.imm (l.filter p))
  .cases hs
section
variable {gg:Aj}
theorem Aca{l:Bk}{b:Bool}{ss:LE}(hc:ba prog gl 104 [iG o.Kind] (bG b))(hA:b=true->ba prog gl 27 [.ptr (Ag gg) 0,.agg (aJ o)] (aE cZ l))(hP:b=true->ba prog gl 26 [aE cZ l,iG o.By] (aE Jc ss)):ba prog gl 49 [.ptr (Ag gg) 0,.agg (aJ o)] (aE Jc (bif b then ss else[])):=by
 refine Gh func49 ?_;cases b with
 |false=>exact Ar [hf 7 hc] []
 |true=>exact Ar [hf 7 hc,hf 11 (hA rfl),hf 14 (hP rfl)] []
theorem Aef(h:QL gl gg I)(hS:ba prog gl 49 [.ptr (Ag gg) 0,.agg (aJ (I.o x))] (aE Jc ss)):ba prog gl 16 [.ptr (Ag gg) 0,.agg (aj x)] (aE Jc (bif(I.op x).isSome then ss else[])):=by
 have ho:=h.op x;refine Gh func16 ?_;generalize (I.op x).isSome=b at ho⊢;cases b with
 |false=>exact Ar [hf 10 ho] []
 |true=>exact Ar [hf 10 ho,hf 17 hS] []
def Aat(n:Nat)(o:Bp):Bool:=bif (0:Int)<(n:Int)then decide ((n:Int)=ah o.Path)else false
theorem Af8(h:QL gl gg I)(hS:ba prog gl 49 [.ptr (Ag gg) 0,.agg (aJ (I.o x))] (aE Jc ss)):ba prog gl 48 [.agg (aj x),.ptr [.ptr (Ag gg) 0] 0] (bG (Aat ss.length (I.o x))):=by
 have ho:=h.op x;refine Gh func48 ?_;unfold Aat;cases c:decide ((0:Int)<(ss.length:Int)) with
 |false=>exact Ar [hf 10 ho,hf 15 hS,hr 18 c] []
 |true=>exact Ar [hf 10 ho,hf 15 hS,hr 18 c] []
theorem Abh(h:QL gl gg I){ss:Ab->LE}(hS:∀x,ba prog gl 49 [.ptr (Ag gg) 0,.agg (aJ (I.o x))] (aE Jc (ss x)))(hO:ba prog gl 47 [.ptr (Ag gg) 0,aE aj ids] (aE aj row))(hn:row.length<=1000):ba prog gl 13 [.ptr (Ag gg) 0,aE aj ids] (aE aj (row.filter λx=>Aat (ss x).length (I.o x))):=by have hv:DnV gl 48 [] [.ptr [.ptr (Ag gg) 0] 0] (λx=>Aat (ss x).length (I.o x)):=⟨aH,bf,aY (aG 20 (.ptr [.ptr (Ag gg) 0] 0) aH) bf,λx r e=>by cases e;exact Af8 h (hS x)⟩;have hF:=Aas hv (l:=row) aa;refine Gh func13 ?_;exact Ar [hf 7 hO,ho 9 [aE aj row,.clo (.func 48) [] [.ptr [.ptr (Ag gg) 0] 0]] [] hF (kF _)] [hc (ac.al (row.filter λx=>Aat (ss x).length (I.o x)))]
end
end
def AfS(k:Int):Bool:=(E1 k).getD false
theorem AdR{k:Int}(h:0<=k/\k<=13):E1 k=some (AfS k)/\ba prog fI 104 [iG k] (bG (AfS k)):=by
 have:k=0\/k=1\/k=2\/k=3\/k=4\/k=5\/k=6\/k=7\/k=8\/k=9\/k=10\/k=11\/k=12\/k=13:=aa;rcases this with rfl|rfl|rfl|rfl|rfl|rfl|rfl|rfl|rfl|rfl|rfl|rfl|rfl|rfl
 all_goals
  refine⟨aH,Gh func104 ?_⟩
  exact Ar [] []
def ZM(g:A7)(o:Bp):Bk:=(qo g o).getD []
def Td(g:A7)(o:Bp):LE:=bif AfS o.Kind then tpL o.By (ZM g o) else[]
theorem Ab1{m:JI}(P:Pg g m N)(h14:g.L.length<=14){o:Bp}(so:Bb o)(hk:Kn o)(h13:0<=o.Kind/\o.Kind<=13):ba prog fI 49 [.ptr (Ag ⟨g.Cards,m,N⟩) 0,.agg (aJ o)] (aE Jc (Td g o))/\jm g o=some (Td g o)/\UU o.By (Td g o)/\ba prog fI 27 [.ptr (Ag ⟨g.Cards,m,N⟩) 0,.agg (aJ o)] (aE cZ (ZM g o))/\qo g o=some (ZM g o)/\(ZM g o).length<=2000:=by
 obtain⟨l,hA,e,hl,hn⟩:=Acc P h14 so hk;obtain⟨c1,c2⟩:=AdR h13;have hA':ba prog fI 27 [.ptr (Ag ⟨g.Cards,m,N⟩) 0,.agg (aJ o)] (aE cZ l):=by grind [AH.fo,rZ,Ag,RJ]
 grind [ZM,Td,Aca,AdQ,jm,cX,Ju,AdP,tpL,ZL,Ah5]
section
set_option maxHeartbeats 2000000
def Sq(g:A7)(l:Bk)(a:Bc×Int):Option ((Bc×Int)⊕Bc):=
 (bif a.2<ah l then(some (decide (a.2<4)))else(some false)).bind λb=>bif b then((aS l a.2).bind λc=>(iq c (ah g.IDs)).bind λd=>(aS g.IDs d).bind λe=>(aT 24 a.1 [e]).bind λf=>some (.inl (f,wI (a.2+1))))else(some (.inr a.1))
def Te(g:A7)(l:Bk):Option Bc:=
 (bif ah l=0 then(some true)else(some (decide (ah g.L=0)))).bind λb=>bif b then((xt g).bind λc=>some c)else((AA (Sq g l) ([],0)).bind λd=>(Lu g d).bind λa=>some a)
theorem ZN{g l}:LU prog gl (Te g l) 11 [.agg (aI g),aE cZ l] 25 aj:=
 gc func11 λK=>cN 1100 (so [0] [(2,.ref 0 0)] [ob 0 33 (aI g)] 1) []<|cC 1100 (λi=>sf [] [(15,bG i)]) (λi=>eH [15] (ak λp e5=>aw [ho 17 [.agg (aI g)] [] (DK gl e5) (kF p)]<|mr c0 K (ac.imm _))<|rdL 111101 11110122 (λj=>sg [2] [(5,aE aj j)]) (λa=>so [15] [(5,.rsl 1 0 a.1.length),(6,iG a.2)] [ob 1 25 (a.1.flatMap aj)] 2) [hc (ac.imm [])] (vs:=[25]) (ρ:=[(0,0),(1,1)]) (kd:=[(1,.row)]) (λj=>ak λk e16=>aw [ho 45 [.agg (aI g),aE aj j] [] (ua gl e16) (kF k)]<|mr c0 K (ac.imm _)) λa m k9=>cN 1111012200 (sf [] []) [hc (el a.1),hc (ac.imm a.1)] (ρ:=[(0,0),(1,1)]) (kd:=[(1,.row)])<|cC 1111012200 (λb=>sf [] [(25,bG b)]) (λb=>eH [25] (ak λq c=>ak λr n=>ak λs d=>ak λe o=>aw [AB 33 (rZ.ixZ c),AB 34 (rZ.p1Z tZ c),hf 38 (iL gl n),AB 39 (ac.ixZ d),AB 40 (ac.ptZ aW d),dg 42 ac o]<|cj m [hc (el e),hc (ac.imm e)] (ρ:=[(0,0),(1,3)]) (kd:=[(1,.row)]))<|aA c1 k9 [hc (ac.al a.1)]) λb f=>aF 21 (aA c0 f [hc (el a.1),hc (ac.imm a.1)] (ρ:=[(0,0),(1,1)]) (kd:=[(1,.row)]))<|aA c0 f [hc (el a.1),hc (ac.imm a.1)] (ρ:=[(0,0),(1,1)]) (kd:=[(1,.row)])) λi h=>aF 9 (aA c0 h [])<|aA c0 h []
def MT(g:A7)(c:Bc)(s3:Bc×Int):Option ((Bc×Int)⊕Bc):=
 bif s3.2<ah c then((aS c s3.2).bind λd=>(fC g d).bind λa=>bif a<0 then(some (.inl (s3.1,wI (s3.2+1))))else((aS g.L a).bind λe=>(jm g e).bind λb=>(bif 0<ah b then((aS g.L a).bind λf=>some (decide (ah b=ah f.Path)))else(some false)).bind λh=>bif h then((aS c s3.2).bind λi=>(aT 24 s3.1 [i]).bind λj=>some (.inl (j,wI (s3.2+1))))else(some (.inl (s3.1,wI (s3.2+1))))))else(some (.inr s3.1))
def U0(g:A7)(ids:Bc):Option Bc:=
 (n8 g ids).bind λa=>(AA (MT g a) ([],0)).bind λb=>some b
def ZO(g:A7)(commit:Ab):Option LE:=
 (fC g commit).bind λa=>bif a<0 then(some [])else((aS g.L a).bind λb=>(jm g b).bind λc=>some c)
end
theorem AdS(w:Fo g)(hnd:g.IDs.Nodup)(hi:∀x∈l,c8 x):T (Te g l) λv=>GJ g v/\v.Nodup:=by
 have nL:=w.nL;have nI:=w.nI;unfold Te;refine .bind (T.mono (Q:=λb:Bool=>b=false->0<g.L.length) (by grind [T.some,ah]) λb hb=> .ite (λ_=> .bind (by grind [T.mono,Cz,T.some,GJ,List.Perm.length_eq])) λh=>?_);have hp:=hb h;refine .bind (T.mono (T.loop (Q:=λr:Bc=>r.length<=10) (λs=>0<=s.2/\s.2<=4/\(s.1.length:Int)<=s.2) (λs=>(5-s.2).toNat) (by grind) (by grind) ?_) λv hv=> .bind (by grind [T.mono,yf,T.some]));rintro⟨a,i⟩ ⟨c,i1,d⟩;simp only at c i1 d;unfold Sq;refine .bind (T.mono (Q:=λb:Bool=>b=true->i<l.length/\i<4) (.dec (λh1=> .some λe=>⟨h1,DL e⟩) (by grind [T.some])) λb hb=> .ite (λe=>?_) λ_=> .some (show a.length<=10 by omega));obtain⟨b1,b2⟩:=hb e;have hw:wI (i+1)=i+1:=by grind [bM]
 refine .bind (.ixl c b1 λy _ hy=> .bind ((eX (hi y hy) (by unfold ah;omega)).mono λv hv=> .bind (.ixl hv.1 hv.2 λz _ _=> .bind (.app (by grind) (.some ⟨(by grind),?_⟩)))));all_goals grind
section
variable {g:A7} {m:JI} {N:JH} (P:Pg g m N) (h14:g.L.length<=14) (hkn:∀(k:Nat) (o:Bp),g.L[k]?=some o->Kn o)
include P h14 hkn
theorem AdT(x:Ab):ba prog fI 49 [.ptr (Ag ⟨g.Cards,m,N⟩) 0,.agg (aJ ((C4 g m N).o x))] (aE Jc (Td g ((C4 g m N).o x)))/\UU x.By (Td g ((C4 g m N).o x))/\(x∉g.IDs->Td g ((C4 g m N).o x)=[])/\ZO g x=some (Td g ((C4 g m N).o x)):=by
 have w:=P.w;have nI:=w.nI;have nL:=w.nL;by_cases hx:x∈g.IDs
 .obtain⟨i,o,e1,e2,e3,_,so,a⟩:=w.place (lj.2 hx);obtain⟨h1,h2,h3,_⟩:=Ab1 P h14 so (hkn i o e3) (by have:=a.kind;omega);rw[(P.op e3 e2).2];rw[<-(KJ so (w.ids i o x e3 e2)).1] at h3;refine⟨h1,h3,λh=>absurd hx h,?_⟩;unfold ZO;rw[dC aa,aL,e1,show decide ((i:Int)<0)=false from C6 aa,Be,au,e3,aL,h2];rfl
 .have e:(C4 g m N).o x=ip:=by unfold Gi.o;rw[Ae8 w P.p,jv.2 hx];rfl
  have hp:gO g x<0:=Int.not_le.1 λh=>hx (lj.1 h);have e2:Td g ip=[]:=rfl;rw[e,e2];refine⟨Aca (b:=false) (l:=[]) (ss:=[]) (AdR (k:=0) BX).2 (λh=>by cases h) (λh=>by cases h),ZL,λ_=>rfl,?_⟩;unfold ZO;rw[dC aa,aL,CO hp,ax]
theorem Ahh(x:Ab):ba prog fI 16 [.ptr (Ag ⟨g.Cards,m,N⟩) 0,.agg (aj x)] (aE Jc (Td g ((C4 g m N).o x))):=by
 obtain⟨h1,_,h2,_⟩:=AdT P h14 hkn x;have h:=Aef (Aaq (Vm P.w P.p)) h1;by_cases hx:x∈g.IDs
 .obtain⟨i,o,_,e2,e3,_⟩:=P.w.place (lj.2 hx);rw[show((C4 g m N).op x).isSome=true by rw[(P.op e3 e2).1];rfl] at h;exact h
 .rw[show((C4 g m N).op x).isSome=false by rw[Ae8 P.w P.p,jv.2 hx];rfl] at h;rw[h2 hx];exact h
include P h14 hkn
def UB(g:A7)(I:Gi)(x:Ab):Bool:=Aat (Td g (I.o x)).length (I.o x)
theorem U1{v:Bc}(hv:GJ g v)(a:v.Nodup):∃row:Bc,ba prog fI 13 [.ptr (Ag ⟨g.Cards,m,N⟩) 0,aE aj v] (aE aj (row.filter (UB g (C4 g m N))))/\U0 g v=some (row.filter (UB g (C4 g m N)))/\row.Perm v/\(row.Pairwise λx y=>Ot (C4 g m N) x y<0)/\row.length<=14:=by
 have w:=P.w;have nI:=w.nI;have hI:=Aaq (Vm w P.p);have hv14:v.length<=14:=by have:=EC a hv.sub;omega
 obtain⟨row,j,b,f⟩:=Ue w P.p aa a hv.sub;have hrl:row.length<=14:=by rw[b.length_eq];exact hv14
 have hO:ba prog fI 47 [.ptr (Ag ⟨g.Cards,m,N⟩) 0,aE aj v] (aE aj row):=by obtain⟨r,e,l,q⟩:=PC (Vp (C4 g m N)) a hv14;have:r=row:=P2 (Vp (C4 g m N)).tr Vo (l.trans b.symm) q f;grind [WE,Vm,Pg.p,List.Perm.length_eq]
 refine⟨row,Abh hI (by grind [AdT]) hO aa,?_,b,f,hrl⟩;unfold U0;rw[j,aL];refine T.eq (.bind (T.mono (T.forA (Q:=λr:Bc=>r=row.filter (UB g (C4 g m N))) row.length (λk acc=>acc=(row.take k).filter (UB g (C4 g m N))) aa aC (λk acc hk hj=>?_) λacc hj=>?_) λ_ h=> .some h))
 .obtain⟨x,hx⟩:∃x,row[k]?=some x:=by simp_all
  obtain⟨i,o,e1,e2,e3,_,so,s⟩:=w.place (lj.2 (hv.sub x (b.mem_iff.1 (bO hx))));obtain⟨_,hS,hl,_⟩:=Ab1 P h14 so (hkn i o e3) (by grind [EZ]);have hl:=hl.n;have ha:acc.length<=14:=by grind
  unfold MT;dsimp only;rw[eA hk,ax,au,hx,aL,dC aa,aL,e1,show decide ((i:Int)<0)=false from(by simp_all),Be,au,e3,aL,hS,aL];have hc:(bif 0<ah (Td g o)then(((some o:Option Bp)).bind λd=>some (decide (ah (Td g o)=ah d.Path)))else(some false))=some (UB g (C4 g m N) x):=by unfold UB;rw[(P.op e3 e2).2];grind [Aat,ah]
  rw[hc,aL,JJ,hx,Option.toList_some,Qn];cases c:UB g (C4 g m N) x with
  |true=>rw[ax,aL,show List.filter (UB g (C4 g m N)) [x]=[x] by simp[c]];exact .bind (.app (by grind) (.some ⟨aq aa,by rw[hj]⟩))
  |false=>rw[Be,show List.filter (UB g (C4 g m N)) [x]=[] by simp[c],MG];exact .some ⟨aq aa,hj⟩
 .unfold MT;dsimp only;rw[eF,Be];exact .some (show acc=_ by grind)
end
section
variable {gl:CB}
end
structure Aak where
 Set:Bk
 Pub:Nat
 By:Ab
 N:Int
def Hb(x:Aak):Bn:=[aE cZ x.Set,uG x.Pub,iG x.By.By,iG x.By.Seq,uG x.By.Sum,iG x.N]
def Nz:Aak:=⟨[],0,⟨0,0,0⟩,0⟩
def Vb(set:Bk)(d:Int):Bool:=decide (d∈set)
def Uo(cs:Bc)(set:Bk):Bc:=cs.filter λx=>Vb set x.By
def Abb(b a:Bk):Bool:=bif (a.length:Int)=(b.length:Int)then !(a.any λd=> !Vb b d)else false
def AdW(I:Gi)(x y:Ab):Bool:=bif !decide (y=x)then !I.bef y x else false
def AcI(I:Gi)(x:Ab)(n:Nat):Nat:=(((I.o x).Path[n]?).getD ⟨0,[]⟩).Pub
def Rh(I:Gi)(ss:Ab->LE)(cs:Bc)(set:Bk):Option Aak:=match(Uo cs set).getLast? with
 |none=>match set with
  |[d]=>(I.card d).map λc=>⟨[d],c.Lead,⟨0,0,0⟩,0⟩
  |_=>none
 |some x=>if set.length=1 then some ⟨set,AcI I x 0,x,0⟩else if(Uo cs set).any (AdW I x)=true then none else match(ss x).findIdx? (Abb set) with
  |none=>none
  |some n=>some ⟨set,AcI I x n,x,(n:Int)⟩
theorem AlW{s:List α}{f:α->Fl}{p:α->Bool}(hn:s.length<2305843009213693952)(hf:∀x∈s,f x=some (p x)):Um s f=some (match s.findIdx? p with|some j=>(j:Int)|none=> -1):=by
 obtain⟨r,h1,h2⟩:=Agk (s:=s) p hn (step:=Hx s f) (by grind [Hx,Dd,Bg]) (by grind [Hx,DZ]);unfold Um;rw[h1];rcases h2 with⟨rfl,h2⟩|⟨j,rfl,_,h2⟩
 .rw[show s.findIdx? p=none from(by grind)];rfl
 .rw[h2];rfl
section
variable {gl:CB}
theorem Oo:Aac prog gl Jc (λx=>[aE cZ x]) 120:=λs f fi_f fa_f fc_f a=>
 cy func120 λK=>N8 1101 (λg=>sg [] []) (λs1=>sf [] [(7,iG (ah s)),(8,iG s1)]) [hc (a.im)] K (λg=>rv K) λs1 k5 h k6=>aF 9 (B5 14 nH.ixZ 15 (nH.p1Y Vs) λd=>ak λi e=>kV (λb=>aw [hz 16 [] (cS (a.cs (c:=0) e (aY (aG 20 (aE cZ d) aH) (bf))) b)]<|aP c3 k6 []) λb=>aw [hz 16 [] (cS (a.cs (c:=0) e (aY (aG 20 (aE cZ d) aH) (bf))) b)]<|cj k5 [hc (a.im)])<|aA c2 h []
theorem Ahi{set:Bk}(hs:set.length<=1000000)(d:Int):ba prog gl 77 [aE cZ set,iG d] (bG (Vb set d)):=Dk gl (by grind [Sv,Vb])
theorem AdX{b:Bk}(ha:a.length<=1000000)(hb:b.length<=1000000):ba prog gl 122 [aE cZ a,aE cZ b] (bG (Abb b a)):=by
 have h1:∀d,ba prog gl 215 [iG d,.ptr [aE cZ b] 0] (bG (!Vb b d)):=λd=>by refine Gh func215 ?_;exact Ar [hf 6 (Ahi (gl:=gl) hb d)] []
 have h2:=ml gl (fi_f:=215) (fa_f:=[]) (fc_f:=[.ptr [aE cZ b] 0]) (f:=λd=>some (!Vb b d)) ⟨aH,bf,aY (aG 20 (.ptr [aE cZ b] 0) aH) bf,λf r e=>by cases e;exact h1 f⟩ (AaB (s:=a) aa λ_ _=>rfl);refine Gh func122 ?_;unfold Abb;cases c:decide ((a.length:Int)=(b.length:Int)) with
 |false=>exact Ar [hr 9 c] []
 |true=>exact Ar [hr 9 c,hq 13 [aE cZ a,.clo (.func 215) [] [.ptr [aE cZ b] 0]] [] h2] []
section
variable {gg:Aj} {I:Gi} (hI:QL gl gg I) {ss:Ab->LE} (hS:∀x,ba prog gl 16 [.ptr (Ag gg) 0,.agg (aj x)] (aE Jc (ss x))) {cs:Bc} {set:Bk} (hn:cs.length<=1000) (hl:set.length<=1000000) (hp:∀x∈cs,0<(ss x).length/\(ss x).length=(I.o x).Path.length/\(ss x).length<=3000/\∀s∈ss x,s.length<=3000)
include hI hS hn hl hp
theorem Ah6:∃s,ba prog gl 57 [.ptr (Ag gg) 0,aE aj cs,aE cZ set] (.tup [.agg (Hb s),bG (Rh I ss cs set).isSome])/\∀q,Rh I ss cs set=some q->s=q:=by
 have h1:∀x,ba prog gl 116 [.agg (aj x),.ptr [aE cZ set] 0] (bG (Vb set x.By)):=λx=>by refine Gh func116 ?_;exact Ar [hf 7 (Ahi (gl:=gl) hl x.By)] []
 have hF:iV prog gl 46 [aE aj cs,.clo (.func 116) [] [.ptr [aE cZ set] 0]] 25 (Uo cs set).length ((Uo cs set).flatMap aj):=Aas ⟨aH,bf,aY (aG 20 (.ptr [aE cZ set] 0) aH) bf,(by grind)⟩ aa;have hK:∀l:Bk,l.length<=1000000->ba prog gl 117 [aE cZ l] (aE cZ l):=λl hl=>rZ.fo (uK gl (T.eq (.app (by grind) rfl)));have hm:∀x∈Uo cs set,x∈cs/\Vb set x.By=true:=λx hx=>Hk.1 hx;have hol:(Uo cs set).length<=1000:=LD (Mj ..) hn;unfold Rh;generalize Uo cs set=own at hF hm hol⊢;rcases List.eq_nil_or_concat own with rfl|⟨q,x,rfl⟩
 .match set with
  |[]=>exact⟨Nz,Gh func57 (Ar [ho 17 [aE aj cs,.clo (.func 116) [] [.ptr [aE cZ []] 0]] [] hF (kF _)] []),(by grind)⟩
  |[d]=>
   refine⟨⟨[d],((I.card d).getD SE).Lead,⟨0,0,0⟩,0⟩,?_,λq e=>?_⟩
   .have e:((I.card d).map λc=>(⟨[d],c.Lead,⟨0,0,0⟩,0⟩:Aak)).isSome=(I.card d).isSome:=by grind
    show ba _ _ _ _ (.tup [.agg (Hb _),bG ((I.card d).map λc=>(⟨[d],c.Lead,⟨0,0,0⟩,0⟩:Aak)).isSome]);rw[e];refine Gh func57 ?_;exact Ar [ho 17 [aE aj cs,.clo (.func 116) [] [.ptr [aE cZ [d]] 0]] [] hF (kF _),hf 40 (hI.card d),hf 44 (hK [d] aC)] []
   .cases h:I.card d<;>grind
  |a::b::r=>exact⟨Nz,Gh func57 (Ar [ho 17 [aE aj cs,.clo (.func 116) [] [.ptr [aE cZ (a::b::r)] 0]] [] hF (kF _),hr 20 (show decide (((a::b::r).length:Int)=0)=false from C6 cq),hr 24 (show decide ((1:Int)<((a::b::r).length:Int))=true from CO cq)] []),λq e=>by cases e⟩
 .rw[List.concat_eq_append] at*;obtain⟨hx,hi⟩:=hm x aC;obtain⟨p1,p2,g,i⟩:=hp x hx;have hs:0<set.length:=by
   cases set with
   |nil=>exact absurd (DL hi) (KY)
   |cons a r=>simp
  have ex:aS (q++[x]) (q.length:Int)=some x:=Bg aC;have e52:lD .sub (iG (((q++[x]).length:Nat):Int)) (iG 1)=some (iG (q.length:Int)):=by rw[Uh] at hol⊢;grind [dec]
  have ep:∀n,n<(ss x).length->∃y:Fj,aS (I.o x).Path (n:Int)=some y/\AcI I x n=y.Pub:=λn h=>by
   obtain⟨y,hy⟩:∃y,(I.o x).Path[n]?=some y:=by simp_all
   grind [Bg,AcI]
  have st:∀s b,Gp prog Tryz.f57 (tH prog Tryz.f57 (.tup [.agg (Hb s),bG b])) [] false [1,1,1,1,1,0] (s0 87 gl [(3,.ptr [.ptr (Ag gg) 0] 0),(5,.ptr [aE cZ set] 0),(6,.ref 0 0),(8,aE aj (q++[x])),(11,.ptr (aj x) 0)] [ob 0 48 (bF [0] (Hb Nz))] 1 0)->ba prog gl 57 [.ptr (Ag gg) 0,aE aj cs,aE cZ set] (.tup [.agg (Hb s),bG b]):=λs b h=>by
   refine Gh func57 ?_;have hA:=ho 17 [aE aj cs,.clo (.func 116) [] [.ptr [aE cZ set] 0]] [] hF (kF _);have e1:decide ((set.length:Int)=0)=false:=C6 aa;have e2:decide (((q++[x]).length:Int)=0)=false:=by grind
   cases hb:decide ((1:Int)<(set.length:Int))<;>exact pO 1111110 _ [ho 17 [aE aj cs,.clo (.func 116) [] [.ptr [aE cZ set] 0]] [] hF (kF _),hr 20 e1,hr 24 hb,hr 28 e2,hr 34 e2,hbb 52 e52,AB 53 (ac.ixrZ 3 ex),AB 54 (ac.pt0Z aW ex)] [hc (eB (gs:=[.ptr (Ag gg) 0]) aH),hc (eB (gs:=[aE cZ set]) aH),hc (ac.al (q++[x])),hc (eB (gs:=aj x) aH)] h [] [(0,2)]
  have ho:=hI.op x;have h2:∀y,ba prog gl 119 [.agg (aj y),.ptr (aj x) 0,.ptr [.ptr (Ag gg) 0] 0] (bG (AdW I x y)):=λy=>by
   refine Gh func119 ?_;have hb:=hI.bef y x;unfold AdW;cases c:decide (y=x) with
   |false=>exact Ar [hV 7 (dy y x (r:=true) (by rw[c];rfl)),hf 12 hb] []
   |true=>exact Ar [hV 7 (dy y x (r:=false) (by rw[c];rfl))] []
  have h3:=kP gl (fi_f:=119) (fa_f:=[]) (fc_f:=[.ptr (aj x) 0,.ptr [.ptr (Ag gg) 0] 0]) (f:=λy=>some (AdW I x y)) ⟨aH,bf,aY (aG 20 (.ptr (aj x) 0) aH) (aY (aG 20 (.ptr [.ptr (Ag gg) 0] 0) aH) bf),λy r e=>by cases e;exact h2 y⟩ (AaB (s:=q++[x]) aa λ_ _=>rfl);have h4:∀s,s.length<=1000000->ba prog gl 121 [aE cZ s,.ptr [aE cZ set] 0] (bG (Abb set s)):=λs hs=>by refine Gh func121 ?_;exact Ar [hf 6 (AdX (gl:=gl) hs hl)] []
  have h5:=Oo (gl:=gl) (fi_f:=121) (fa_f:=[]) (fc_f:=[.ptr [aE cZ set] 0]) (f:=λs=>if s.length<=1000000 then some (Abb set s)else none) ⟨aH,bf,aY (aG 20 (.ptr [aE cZ set] 0) aH) bf,(by grind)⟩ (AlW (s:=ss x) (p:=Abb set) aa (by grind));have hk:=hK set hl;have hS:=hS x;rw[show(q++[x]).getLast?=some x by simp];dsimp only;by_cases hb:set.length=1
  .rw[Bx hb];obtain⟨y,hy,hp⟩:=ep 0 p1;rw[hp];refine⟨⟨set,y.Pub,x,0⟩,st _ _ ?_,(by grind)⟩;exact Ar [hr 57 (show decide ((1:Int)<(set.length:Int))=false from C6 aa),hf 73 ho,hf 77 hk,AB 81 (bZ.ixZ hy),AB 83 (bZ.fdZ tW 0 hy)] []
  .rw[BA hb];have hb:decide ((1:Int)<(set.length:Int))=true:=CO aa;generalize (q++[x]).any (AdW I x)=t at h3⊢;cases t with
   |true=>rw[Bx rfl];exact⟨Nz,st _ _ (Ar [hr 57 hb,hf 60 h3] []),(by grind)⟩
   |false=>
    rw[BA aC];cases hd:(ss x).findIdx? (Abb set) with
    |none=>rw[hd] at h5;exact⟨Nz,st _ _ (Ar [hr 57 hb,hf 60 h3,hf 64 hS,hf 66 h5] []),(by grind)⟩
    |some n=>rw[hd] at h5;obtain⟨y,hy,hp⟩:=ep n (by grind [List.findIdx?_eq_some_iff_getElem]);dsimp only;rw[hp];refine⟨⟨set,y.Pub,x,(n:Int)⟩,st _ _ ?_,(by grind)⟩;exact Ar [hr 57 hb,hf 60 h3,hf 64 hS,hf 66 h5,hr 68 (show decide ((n:Int)<0)=false from C6 aa),hf 73 ho,hf 77 hk,AB 81 (bZ.ixZ hy),AB 83 (bZ.fdZ tW 0 hy)] []
theorem Ah7(a:ba prog gl 13 [.ptr (Ag gg) 0,aE aj ids] (aE aj cs)):ba prog gl 21 [.ptr (Ag gg) 0,aE aj ids,aE cZ set] (.tup [.agg (Hb ((Rh I ss cs set).getD Nz)),bG (Rh I ss cs set).isSome]):=by
 obtain⟨s,h1,h2⟩:=Ah6 hI hS hn hl hp;refine Gh func21 ?_;cases e:Rh I ss cs set with
 |none=>rw[e] at h1;exact Ar [hf 14 a,hf 16 h1] []
 |some q=>rw[e] at h1;rw[h2 q e] at h1;exact Ar [hf 14 a,hf 16 h1] []
end
end
section
variable {g:A7} {m:JI} {N:JH} (P:Pg g m N)
include P
end
section
variable {g:A7} {m:JI} {N:JH} (P:Pg g m N) (h14:g.L.length<=14) (hkn:∀(k:Nat) (o:Bp),g.L[k]?=some o->Kn o)
include P h14
theorem AdY:∃al,ba prog fI 24 [.ptr (Ag ⟨g.Cards,m,N⟩) 0] (aE aj al)/\al.Perm g.IDs/\GJ g al/\al.Nodup:=by
 have w:=P.w;have nI:=w.nI;have pl:=P.p.len;have e:UC (λ_=>true) N=g.IDs:=by
  refine List.ext_getElem? λi=>?_;unfold UC;rw[List.filter_eq_self.2 aC,MH,List.getElem?_zipIdx];cases h:N[i]? with
  |none=>rw[List.getElem?_eq_none_iff] at h;exact(List.getElem?_eq_none aa).symm
  |some y=>exact(P.p.nd i y h).2.1.symm
 obtain⟨r,h1,h2,_⟩:=PC Nn (l:=g.IDs) w.nd aa;refine⟨r,AfZ (gg:=⟨g.Cards,m,N⟩) (by show N.length<=14;omega) (by show Ow GK (UC _ N)=_;rw[e];exact h1) (by show r.length=(UC _ N).length;rw[e];exact h2.length_eq),h2,⟨λx hx=>h2.mem_iff.1 hx,by rw[h2.length_eq];omega⟩,h2.nodup_iff.2 w.nd⟩
include hkn
theorem AdZ(h:UB g (C4 g m N) x=true):∃(i:Nat) (o:Bp),g.IDs[i]?=some x/\g.L[i]?=some o/\(C4 g m N).o x=o/\(C4 g m N).op x=some o/\0<(Td g o).length/\(Td g o).length=o.Path.length/\UU x.By (Td g o)/\Td g o=tpL o.By (ZM g o)/\x.By=o.By/\Bb o/\EZ o:=by
 obtain⟨_,h2,h3,_⟩:=AdT P h14 hkn x;unfold UB Aat at h;have hp:0<(Td g ((C4 g m N).o x)).length:=by
  cases c:decide ((0:Int)<((Td g ((C4 g m N).o x)).length:Int)) with
  |true=>have:=DL c;omega
  |false=>rw[c] at h;cases h
 have hx:x∈g.IDs:=by
  by_cases hx:x∈g.IDs
  .exact hx
  .rw[h3 hx] at hp;cases hp
 obtain⟨i,o,_,e2,e3,_,so,d⟩:=P.w.place (lj.2 hx);obtain⟨b,a⟩:=P.op e3 e2;rw[a] at h h2 hp;rw[CO aa,ax] at h;refine⟨i,o,e2,e3,a,b,hp,by have:=DL h;unfold ah at this;omega,h2,?_,(KJ so (P.w.ids i o x e3 e2)).1,so,d⟩;unfold Td at hp⊢;cases c:AfS o.Kind with
 |true=>rfl
 |false=>rw[c] at hp;cases hp
theorem ZQ(hr:row.length<=14)(a:ba prog fI 13 [.ptr (Ag ⟨g.Cards,m,N⟩) 0,aE aj ids] (aE aj (row.filter (UB g (C4 g m N))))){set:Bk}(hl:set.length<=1000000):ba prog fI 21 [.ptr (Ag ⟨g.Cards,m,N⟩) 0,aE aj ids,aE cZ set] (.tup [.agg (Hb ((Rh (C4 g m N) (λx=>Td g ((C4 g m N).o x)) (row.filter (UB g (C4 g m N))) set).getD Nz)),bG (Rh (C4 g m N) (λx=>Td g ((C4 g m N).o x)) (row.filter (UB g (C4 g m N))) set).isSome]):=
 Ah7 (Aaq (Vm P.w P.p)) (λx=>Ahh P h14 hkn x) (LD (Mj ..) aa) hl (λx hx=>by obtain⟨i,o,_,_,e,_,h1,h2,h3,_⟩:=AdZ P h14 hkn (Hk.1 hx).2;rw[e];exact⟨h1,h2,h3.n,λs hs=>(h3.m s hs).2.1⟩) a
end
theorem AfV(hl:l.length<=9223372036854775807)(hi:∀x∈l,c8 x):∃(r:A7) (m:JI) (N:JH),Pg r m N/\r.L.length<=14/\(∀(k:Nat) (o:Bp),r.L[k]?=some o->Kn o)/\KI g0 r/\r.Cards=u7/\jg prog fI 10 [aE cZ l] [] 0 (.tup [.ref 0 0,.agg (aI r)]) [(0,oG r.Cards N.length 2),(1,oM m),(2,zQ N)] 3:=by
 obtain⟨r,b,N,c,hM⟩:=Xe hl hi;have a:=Ui c hM;have pl:=hM.pg.len;have eN:oN3 N r.L.length=zQ N:=by grind
 rw[eN,<-pl] at a;exact⟨r,b N.length,N,by rw[pl];exact Akd hM,hM.n14,λk o h=>(Ake hM h).2,hM.gr,hM.gC,a⟩
theorem AdU{l:Bc}:nA l x=decide (x∈l):=by unfold nA;rw[Bool.eq_iff_iff,List.any_eq_true,decide_eq_true_iff];simp
theorem U2{l:Bc}(x:Ab)(hn:l.length<=1000):ba prog fI 18 [aE aj l,.agg (aj x)] (bG (decide (x∈l))):=jM fI (by rw[kf aa,AdU])
def Ahj(g:A7):Prop:=∀(i:Nat) (o:Bp),g.L[i]?=some o->(∀x∈o.Past,x∈g.IDs)/\∀k,O9 g i k=true↔(∃x∈o.Past,g.IDs[k]?=some x)\/uX g o.Past k
theorem Ad0{l:Bc}(h:x∈l):bu x (l++[y])=bu x l:=by
 rw[EV];cases e:bu x l with
 |none=>exact absurd h (jv.1 e)
 |some n=>rfl
theorem AcJ{b:A7}(h:KI b g)(hb:b.L=[]):Ahj g:=by
 induction h with
 |base=>intro i o h;rw[hb] at h;cases h
 | @step g o id up row gr w sm _ p a hid hrow ih=>
  have nI:=w.nI;obtain⟨j,hj,d⟩:=a.id;obtain rfl:j=id:=by rw[hid] at hj;exact(Bf hj).symm
  have hno:j∉g.IDs:=jv.1 d;obtain⟨r,f,q,s⟩:=yc w (up:=up) (by have:=a.upl;have:=sm.nPast;omega) a.upb;obtain rfl:r=row:=by rw[hrow] at f;exact(Bf f).symm
  have e:=λi k=>kU w (o:=o) (id:=j) (up:=up) (r:=r) q i k;have hP:∀(l:Bc) (k:Nat),(∀x∈l,x∈g.IDs)->(uX (pL g o j up r) l k↔uX g l k)/\((∃x∈l,(pL g o j up r).IDs[k]?=some x)↔∃x∈l,g.IDs[k]?=some x):=by
   intro l k hl;refine⟨?_,?_⟩
   .unfold uX;refine exists_congr λx=>and_congr_right λhx=>exists_congr λn=>?_;show bu x (g.IDs++[j])=some n/\_↔_;rw[Ad0 (hl x hx)];refine and_congr_right λhn=>?_;have:=(cr (gb hn).1).1;rw[e];grind
   .refine exists_congr λx=>and_congr_right λhx=>?_;show(g.IDs++[j])[k]?=some x↔_;have:=hl x hx;grind
  intro i c ho;have ho:(g.L++[o])[i]?=some c:=ho;rcases je ho with⟨hi,h⟩|⟨rfl,rfl⟩
  .obtain⟨h1,h2⟩:=ih i c h;refine⟨λx hx=>List.mem_append_left _ (h1 x hx),λk=>?_⟩;rw[(hP _ k h1).1,(hP _ k h1).2,<-h2,e];grind
  .have h1:∀x∈c.Past,x∈g.IDs:=λx hx=>by obtain⟨k,hk⟩:=Gu hx;obtain⟨n,hn,_⟩:=a.par k x hk;exact bO (gb hn).1
   have hu:∀n:Nat,(n:Int)∈up↔∃x∈c.Past,bu x g.IDs=some n:=λn=>by
    constructor
    .intro h;obtain⟨k,hk⟩:=Gu h;have hkl:=(cr hk).1;have:=a.upl;obtain⟨x,hx⟩:∃x,c.Past[k]?=some x:=⟨_,DR aa⟩;obtain⟨m,hm,hm2⟩:=a.par k x hx;rw[hk] at hm2;obtain rfl:n=m:=by have:=Bf hm2;omega
     exact⟨x,bO hx,hm⟩
    .rintro⟨x,hx,hn⟩;obtain⟨k,hk⟩:=Gu hx;obtain⟨m,hm,hm2⟩:=a.par k x hk;rw[hn] at hm;obtain rfl:=Bf hm;exact bO hm2
   refine⟨λx hx=>List.mem_append_left _ (h1 x hx),λk=>?_⟩;rw[(hP _ k h1).1,(hP _ k h1).2,e];have hk:(∃x∈c.Past,g.IDs[k]?=some x)↔(k:Int)∈up:=by rw[hu];refine exists_congr λx=>and_congr_right λ_=>⟨λh=>Mh w h,λh=>(gb h).1⟩
   have hk2:uX g c.Past k↔∃j:Nat,(j:Int)∈up/\O9 g j k=true:=by
    unfold uX;constructor
    .rintro⟨x,hx,n,hn,h⟩;exact⟨n,(hu n).2 ⟨x,hx,hn⟩,h⟩
    .rintro⟨n,hn,h⟩;obtain⟨x,hx,hk⟩:=(hu n).1 hn;exact⟨x,hx,n,hk,h⟩
   rw[hk,hk2];have hb:(∃j:Nat,(j:Int)∈up/\O9 g j k=true)->k<g.L.length:=λ⟨j,_,h⟩=>by have:=w.inlt j k h;omega
   have hb2:(k:Int)∈up->k<g.L.length:=λh=>by have:=a.upb _ h;omega
   by_cases hkl:k<g.L.length
   .have:=s k hkl;unfold Hq at this;rw[<-this];grind
   .have:r[k]?=none:=by rw[List.getElem?_eq_none_iff];omega
    grind
def rsL(l:Bk)(k:Nat):Bk:=((List.range k).map λj=>((j+1:Nat):Int)).filter (QF l)
theorem Ah8{l:Bk}{k:Nat}:(rsL l k).length<=k:=LD (Mj ..) aC
theorem AcL{l:Bk}(hl:l.length<=1000000):ba prog fI 32 [aE cZ l] (aE cZ (rsL l 12)):=by
 refine iV.fn ?_ rZ.sz (rZ.len _) (rZ.imm _);refine OW func32 ?_;refine pN (λk:Nat=>(s0 17 fI [(0,aE cZ l),(3,.rsl 0 0 (rsL l k).length),(4,iG ((k+1:Nat):Int))] [(0,Ke (rsL l k))] 1 0)) 1110122 (EO (n:=12) aa) [] [hc (rZ.imm [])] (λB k w hs k5 a=>?_) [3] [(0,0)] [(0,.row)];unfold Ko at hs;split at hs
 .rename_i hlt;obtain rfl:=Bf hs;have k5:=k5 _ rfl;have e:rsL l (k+1)=rsL l k++(bif QF l ((k+1:Nat):Int) then[((k+1:Nat):Int)] else[]):=by unfold rsL;rw[List.range_succ,List.map_append,Qn];congr 1
  have hq:=Ah8 (l:=l) (k:=k);rw[e] at k5;have h1:=Dx fI (cX hl ((k+1:Nat):Int));generalize rsL l k=q at k5 hq⊢;cases h:QF l ((k+1:Nat):Int) with
  |true=>rw[h] at h1 k5;exact jw [hr 6 (show decide (((k+1:Nat):Int)<=12)=true from CO aa),hf 11 h1,Tn 15 rZ 8 q ((k+1:Nat):Int) aa,hbb 8 (Xl (q:=k+1) aa)] [hc (el (q++[((k+1:Nat):Int)])),hc (rZ.imm (q++[((k+1:Nat):Int)]))] k5 [] [(0,2)] [(0,.row)]
  |false=>rw[h,Be,MG] at k5;rw[h] at h1;exact jw [hr 6 (show decide (((k+1:Nat):Int)<=12)=true from CO aa),hf 11 h1,hbb 8 (Xl (q:=k+1) aa)] [hc (el q),hc (rZ.imm q)] k5 [] [(0,0)] [(0,.row)]
 .split at hs
  .rename_i he;subst he;exact EI [hr 6 (show decide (((12+1:Nat):Int)<=12)=false from C6 aa)] (rZ.imm (rsL l 12))
  .cases hs
theorem Ah9{R:Ad}{D:C5}(hR:Bj R)(h:Rr R D){d:Int}:d∈He R↔OI R d=true:=by
 rw[(Lo hR).2.1.mem_iff];have:=h.in_ d;unfold OI Hg;constructor
 .intro hd;obtain⟨e,he,rfl⟩:=EP.1 hd;have:=IX hR.ci he;grind
 .intro hd;grind [G9]
theorem Aia(hR:Bj R)(h:Rr R D){fk:Bool}{i:Ab}{sen:Bk}(hk:Ug R o i=R)(hn:XP fk R o i sen≠[]):rsL (XP fk R o i sen) 12=He R:=by
 unfold XP at hn⊢;cases fk with
 |true=>exact absurd rfl hn
 |false=>
 cases cm:decide (SD R o≠0) with
 |true=>rw[cm] at hn;exact absurd rfl hn
 |false=>
 rw[Be,Be,hk];have hd:= @Ah9 R D hR h;obtain⟨c,b,_⟩:=Lo hR;have dn:(He R).Nodup:=b.nodup_iff.2 hR.ci.kd;have d6:∀d∈He R,1<=d/\d<=6:=λd hd=>by obtain⟨e,he,rfl⟩:=EP.1 (b.mem_iff.1 hd);exact hR.i6 e he
 have hm:∀d,d∈XN R sen++(He R).filter (Vc (XN R sen))↔d∈He R:=λd=>by
  rw[Jk,Hk,Hk];constructor
  .rintro(⟨_,h⟩|⟨h,_⟩)
   .exact hd.2 h
   .exact h
  .intro h;by_cases hs:d∈sen
   .exact .inl ⟨hs,hd.1 h⟩
   .refine .inr ⟨h,?_⟩;simp[Vc];grind
 generalize XN R sen++(He R).filter (Vc (XN R sen))=a at hm⊢;have p1:(rsL a 12).Pairwise λx y=>Wx x y<0:=by refine List.Pairwise.filter _ (List.pairwise_map.2 (List.pairwise_lt_range.imp λ{x y} h=>JG.2 ?_));omega
 have p2:(He R).Pairwise λx y=>Wx x y<0:=(List.Pairwise.and c dn).imp λ{x y} h=>JG.2 aa;have pn:(rsL a 12).Nodup:=p1.imp λ{x y} h=>by have:=JG.1 h;omega
 refine P2 (cmp:=Wx) (λx y z h k=>JG.2 (by have:=JG.1 h;have:=JG.1 k;omega)) (λx h=>by have:=JG.1 h;omega) ((List.perm_ext_iff_of_nodup pn dn).2 λd=>?_) p1 p2;unfold rsL;rw[Hk,EP];constructor
 .rintro⟨_,h⟩;rw[Ju] at h;exact(hm d).1 (DL h)
 .intro h;have:=d6 d h;refine⟨⟨(d-1).toNat,List.mem_range.2 aa,aa⟩,?_⟩;rw[Ju];exact CO ((hm d).2 h)
section
variable {g:A7} {m:JI} {N:JH} (P:Pg g m N)
include P
theorem AfW(h14:g.L.length<=14)(hA:Ahj g){i:Nat}(ho:g.L[i]?=some o)(hx:g.IDs[i]?=some x)(hk:Kn o):∃(p:Bc) (R:Ad) (D:C5) (f:Bool) (sen:Bk),iV prog fI 31 [.ptr (Ag ⟨g.Cards,m,N⟩) 0,aE aj [x]] 25 p.length (p.flatMap aj)/\SW prog fI 30 [.ptr (Ag ⟨g.Cards,m,N⟩) 0,aE aj p] [] 0 0 (.ref 0 0) (BG f0 R)/\Bj R/\Rr R D/\ZM g o=XP f R o x sen:=by
 have pl:=P.p.len;have nI:=P.w.nI;obtain⟨so,s,_⟩:=P.w.ops i o ho;obtain⟨c,e,hi⟩:=TU so;have hid:=P.w.ids i o x ho hx;obtain rfl:c=x:=by rw[hid] at hi;exact(Bf hi).symm
 have hb:=KJ so hi;have hg:o.Guards.length<=1000000:=by have:=so.nGuards;omega
 obtain⟨l,v,R,f,sen,⟨_,f2,_⟩,v0,n,hR,⟨D,hD⟩,d⟩:=Ya P h14 (λi o x ho hx=>(KJ (P.w.ops i o ho).1 (P.w.ids i o x ho hx)).2) so hi (TP fI so e) λb=>⟨hb.1,hg,hk,b⟩;obtain⟨v',e',_,q,r,_⟩:=yf P.w (ids:=o.Past) (by have:=so.nPast;omega);obtain rfl:v'=v:=by rw[v0] at e';exact(Bf e').symm
 have hs:=Ab8 (p:=gW (Pp ⟨g.Cards,m,N⟩ [c])) (N:=N);rw[Aec P] at hs;have hle:=hs.length_le;obtain⟨p,e2,p1,p2⟩:=PC Nn (P.w.nd.sublist hs) aa;have hpv:p.Perm v':=(List.perm_ext_iff_of_nodup (p1.nodup_iff.2 (P.w.nd.sublist hs)) q).2 λy=>by
  obtain⟨a1,a2⟩:=hA i o ho;rw[r,p1.mem_iff,Ab7];have hin:∀k,uX g [c] k↔O9 g i k=true:=λk=>by unfold uX;have:=Mh P.w hx;grind
  constructor
  .rintro⟨k,a,h1,h2,rfl⟩;have hk:=(cr h1).1;have:=(P.p.nd k a h1).2.1;rcases(a2 k).1 ((hin k).1 ((UD P aa).1 h2)) with⟨z,h,j⟩|h3
   .rw[this] at j;cases j;exact .inr ⟨h,a1 _ h⟩
   .exact .inl ⟨k,this,h3⟩
  .have key:∀k,g.IDs[k]?=some y->((∃x∈o.Past,g.IDs[k]?=some x)\/uX g o.Past k)->∃(k:Nat) (a:CY),N[k]?=some a/\gW (Pp ⟨g.Cards,m,N⟩ [c]) k=true/\a.id=y:=λk h1 h2=>by have hk:=(cr h1).1;obtain⟨a,hy⟩:∃a,N[k]?=some a:=⟨_,DR aa⟩;have:=(P.p.nd k a hy).2.1;rw[h1] at this;exact⟨k,a,hy,(UD P aa).2 ((hin k).2 ((a2 k).2 h2)),(Bf this).symm⟩
   rintro(⟨k,h1,h2⟩|⟨h1,h2⟩)
   .exact key k h1 (.inr h2)
   .obtain⟨k,hk⟩:=Gu h2;exact key k hk (.inl ⟨y,h1,hk⟩)
 refine⟨p,R,D,f,sen,Ab5 (gl:=fI) (Vm P.w P.p) (by show N.length<=14;omega) (ids:=[c]) aC e2 p1.length_eq,d p hpv,hR,hD,?_⟩;unfold ZM;rw[f2,n];rfl
end
section
variable {P:Br} [M:Mix P] {st:St} {Q:Exit->St->Prop} {fn:Func} {Bs:List (St->Prop)} {p:Bq}
theorem RG{ops:Array Oper}{K:St->Prop}{cx:Cx}{R:Exit->Act->World->Prop}(l2:HA)(hK:∀st a w,K st->mh P cx st a w->wpListIn cx.F cx.nn P ops R l2 a w):∀(l:HA) (st:St) (a:Act) (w:World),D8 P ops K l st->mh P cx st a w->wpListIn cx.F cx.nn P ops R (l++l2) a w
 |[],st,a,w,h,r=>hK st a w h r
 |o::rest,st,a,w,h,r=>by
  obtain⟨β,rb⟩:=r;rcases h with⟨hg,c,hs,hr⟩|⟨hg,hd,hr⟩
  .refine wpListIn_step λK' b=>?_;rw[Bx (cT rb hg)];exact hs cx a w K' R ⟨β,rb⟩ λa' w' r'=>b _ _ (RG l2 hK rest c a' w' hr r')
  .refine wpListIn_step λK' b=>?_;rw[BA (by rw[cT rb hg];simp)];exact⟨λf _=>rb.loose.fn f,b _ _ (RG l2 hK rest _ _ w hr ⟨β,rb.put o.dst hd (.imm _ _ (.lit _))⟩)⟩
def cuR(P:Br)(hs a:List Hn)(c:Code)(k:Nat)(J b st:St)(ρ:DD)(kd:List (Nat×Rk)):Option (Prop×Bq×JM×St×Prop×Bq×JM×St):=match c with
 | .region _ ops false=>match qd P ops hs (ops.toList.take k) st with
  |some (C,u,s1)=>match Iw P [] [] [] J s1 with
   |some (L,s2)=>match qd P ops a (ops.toList.drop k) s2 with
    |some (d,e,s3)=>match Iw P [] ρ kd b s3 with
     |some (f,g)=>some (C,u,L,s2,d,e,f,g)
     |none=>none
    |none=>none
   |none=>none
  |none=>none
 |_=>none
def ku1(x:Option (Prop×Bq×JM×St×Prop×Bq×JM×St)):Bq:=match x with|some (_,u,_)=>u|none=>[0]
def ku2(x:Option (Prop×Bq×JM×St×Prop×Bq×JM×St)):Bq:=match x with|some (_,_,_,_,_,u,_)=>u|none=>[0]
section
attribute [local semireducible] Tr dz Gp
theorem dCu(k:Nat)(J b:St)(A c O f:List HP)(kk:Gp P fn Q Bs true p b)(ρ:DD:=[])(kd:List (Nat×Rk):=[])(h1:qe A (ku1 (cuR P (bK A) (bK c) (bq p (ai fn)) k J b st ρ kd))=true:=by kernel_rfl)(h2:qe c (ku2 (cuR P (bK A) (bK c) (bq p (ai fn)) k J b st ρ kd))=true:=by kernel_rfl)(e:cuR P (bK A) (bK c) (bq p (ai fn)) k J b st ρ kd=some (psU A (ku1 (cuR P (bK A) (bK c) (bq p (ai fn)) k J b st ρ kd)),ku1 (cuR P (bK A) (bK c) (bq p (ai fn)) k J b st ρ kd),pR O,J,psU c (ku2 (cuR P (bK A) (bK c) (bq p (ai fn)) k J b st ρ kd)),ku2 (cuR P (bK A) (bK c) (bq p (ai fn)) k J b st ρ kd),pR f,b):=by kernel_rfl):Gp P fn Q Bs false p st:=by
 have c1:=kA h1;have c2:=kA h2;generalize ku1 _=u1 at c1 e;generalize ku2 _=h at c2 e;generalize psU A u1=n at c1 e;generalize psU c h=o at c2 e;show Tr P (bq p (ai fn)) st (dz P (bE p (ai fn) Bs []) Q);unfold cuR at e;split at e;rotate_left
 .cases e
 rename_i id ops hc;split at e;rotate_left
 .cases e
 rename_i s1 i;split at e;rotate_left
 .cases e
 rename_i s2 d;split at e;rotate_left
 .cases e
 rename_i s3 j;split at e;rotate_left
 .cases e
 rename_i t r4;cases e;rw[hc];have q1:=Mz i c1;have l:=Mz j c2;have l1:=sR d (wR O);have l2:=sR r4 (wR f);have ho:ops=(ops.toList.take k++ops.toList.drop k).toArray:=aC;generalize ops.toList.take k=x at*;generalize ops.toList.drop k=y at*;subst ho;exact λcx a w R r m=>wpIn_region_lit (RG y (λs a' w' hs r'=>xK (λst' a2 g q d=>m .normal b a2 g kk (l2 cx a2 g (by rw[<-q];exact d))) y _ a' w' l (l1 cx a' w' (by rw[<-hs];exact r'))) x st a w q1 r)
end
end
def nzs:Nat->G->G->G
 |0,g,_=>g
 |n+1,g,t=>match g,t with
  | .lit (.slice none 0 0),.sl _ _=> .sl [] 0
  | .sl l m,.sl l' _=>bif Nat.beq l.length l'.length then .sl (OX (nzs n) l l') m else g
  | .agg l,.agg l'=>bif Nat.beq l.length l'.length then .agg (OX (nzs n) l l')else g
  |_,_=>g
theorem Abi{S:Fq}{w:World}:∀(n:Nat) (g t:G) (v:Value),IV S w g v->IV S w (nzs n g t) v
 |0,g,t,v,h=>h
 |n+1,g,t,v,h=>by
  unfold nzs;split
  .cases h;exact .sl [] 0 none 0 (λ_=>undef) (DC _) (Nat.zero_le _) aC aC aC
  .rename_i l m d _;cases hb:Nat.beq l.length d.length with
   |false=>exact h
   |true=>
    have hl:=bc hb;cases h with
    |sl _ _ a cap us hn hm ha h1 hr=>refine .sl _ _ a cap us hn hm (by grind [Sh]) (by grind [Sh]) λi e hg=>?_;obtain⟨g,c,b,rfl⟩:=sS _ _ hl i e hg;exact Abi n g c _ (hr i g b)
  .rename_i l d;cases hb:Nat.beq l.length d.length with
   |false=>exact h
   |true=>
    have hl:=bc hb;cases h with
    |agg _ us h2 h1 hr=>refine .agg _ us (by grind [Sh]) h1 λi e u hg hu=>?_;obtain⟨g,c,b,rfl⟩:=sS _ _ hl i e hg;exact Abi n g c u (by grind)
  .exact h
theorem Aij{P:Br}{gl:CB}{f:FuncId}{r:G}{ts:Bn}(gs:Bn)(h:ba P gl f ts r)(hl:gs.length=ts.length:=by rfl)(e:OX (nzs 20) gs ts=ts:=by kernel_rfl):ba P gl f gs r:=λw S vs hS hG hsz a=>by refine h w S vs hS hG aa λi g u hg hu=>?_;grind [sS,Abi]
def ZP(cs:Bc)(d:Int):Bool:=cs.all λx=>decide (x.By≠d)
theorem AdV{ss:Ab->LE}{cs:Bc}{d:Int}(hc:I.card d=some c):(ZP cs d=true/\Rh I ss cs [d]=some ⟨[d],c.Lead,⟨0,0,0⟩,0⟩)\/(ZP cs d=false/\∃x p,Rh I ss cs [d]=some ⟨[d],p,x,0⟩/\x.By=d):=by
 have hm:∀y,y∈Uo cs [d]↔y∈cs/\y.By=d:=λy=>by unfold Uo Vb;simp
 unfold Rh ZP;rcases List.eq_nil_or_concat (Uo cs [d]) with h|⟨l,x,h⟩
 .left;rw[h] at hm⊢;refine⟨Ge.2 λx hx=>CO λe=>?_,?_⟩
  .cases(hm x).2 ⟨hx,e⟩
  .show(I.card d).map _=_;rw[hc];rfl
 .right;rw[List.concat_eq_append] at h;rw[h] at hm⊢;obtain⟨hx,hd⟩:=(hm x).1 aC;rw[show(l++[x]).getLast?=some x by simp];refine⟨?_,x,_,Bx rfl,hd⟩;cases e:cs.all λx=>decide (x.By≠d) with
  |false=>rfl
  |true=>exact absurd hd (DL (Ge.1 e x hx))
theorem AfT(C:ba prog fI 19 [] (bG true)){pt:Bk}(hl:l.length<=9223372036854775807)(hi:∀x∈l,c8 x)(_:pt.length<=9223372036854775807)(hp:∀x∈pt,c8 x):ba prog fI 6 [aE cZ l,aE cZ pt] (bG true):=by
 obtain⟨r,m,N,P,h14,hkn,E,S,hM⟩:=AfV hl hi;have w:=P.w;have nI:=w.nI;obtain⟨v,ev,O,Y⟩:=AdS w w.nd hp;obtain⟨row,c1,_,c2,c3,c4⟩:=U1 P h14 hkn O Y;obtain⟨al,a1,a2,a3,a4⟩:=AdY P h14;obtain⟨f,b1,_,b2,_,b4⟩:=U1 P h14 hkn a3 a4;have hK:=λ(s:Bk) (hs:s.length<=1000000)=>ZQ P h14 hkn c4 c1 (set:=s) hs;have hf1:∀x,x∈row.filter (UB r (C4 r m N))↔x∈v/\UB r (C4 r m N) x=true:=λx=>by rw[Hk,c2.mem_iff]
 have hf2:∀x,x∈f.filter (UB r (C4 r m N))↔x∈r.IDs/\UB r (C4 r m N) x=true:=λx=>by rw[Hk,b2.mem_iff,a2.mem_iff]
 have l1:(row.filter (UB r (C4 r m N))).length<=14:=LD (Mj ..) c4;have l2:(f.filter (UB r (C4 r m N))).length<=14:=LD (Mj ..) b4;have lv:v.length<=14:=by rw[<-c2.length_eq];exact c4
 generalize row.filter (UB r (C4 r m N))=few at*;generalize f.filter (UB r (C4 r m N))=a at*;have hA:=AcJ E rfl;have hI:=Aaq (Vm w P.p);have y:=hI.op;have hcd:=hI.card;have hown:=λ{i:Nat} {o:Bp} {x:Ab} (ho:r.L[i]?=some o) (hx:r.IDs[i]?=some x)=>AfW P h14 hA ho hx (hkn i o ho);have hset:=λ{i:Nat} {o:Bp} (so:Bb o) (co:EZ o) (ho:r.L[i]?=some o)=>Ab1 P h14 so (hkn i o ho) (by have:=co.kind;omega);have e1:=ac.fo (ZN fI ev);simp only[Ag,RJ] at c1 a1 b1 hK y hcd hown hset;have hcard:∀k:Nat,k<6->∃c,(C4 r m N).card ((k+1:Nat):Int)=some c:=λk hk=>by
  have:((k+1:Nat):Int)∈u7.map (·.Device):=by rw[Aik];simp;omega
  obtain⟨c,hc,e⟩:=EP.1 this;show∃c,r.Cards.find? _=some c;rw[S];exact Uk.1 (List.find?_isSome.2 ⟨c,hc,CO e⟩)
 refine Gh func6 ?_;refine pO 11110 (s0 163 fI [(1,aE cZ pt),(5,Z8 r.Cards m N),(6,.ptr (aI r) 0)] [] 0 0) [tN 25 [] 0 [] [aE cZ l] [ob 0 111 [aE bv r.Cards,.mref 1,.rsl 2 0 N.length],(1,oM m),(2,zQ N)] hM trivial ⟨⟨rfl,.inl rfl⟩,⟨rfl,rfl,rfl,rfl,.inr ⟨rfl,cf _⟩⟩,⟨rfl,.inr ⟨rfl,az.imm _⟩⟩,trivial⟩] [hc (cf m),hc (az.al N),hc (eB (gs:=[aE bv r.Cards,gMp m,aE d7 N]) aH),hc (eB (gs:=aI r) aH)] ?_;refine Ix 111111101 (s0 163 fI [(5,Z8 r.Cards m N),(7,aE aj v),(8,aE aj few),(9,aE aj a)] [] 0 0) ?_ λz=>?_;rotate_left
 .refine pN (λk:Nat=>(s0 163 fI [(5,Z8 r.Cards m N),(7,aE aj v),(8,aE aj few),(9,aE aj a),(10,iG (k:Int))] [] 0 0)) 11111110122 (EO (n:=few.length) aa) [hf 32 e1,hf 35 c1,hf 38 a1,hf 39 b1] [] (λB k u hs k5 J=>?_);unfold Ko at hs;split at hs
  .rename_i hlt;obtain rfl:=Bf hs;obtain⟨x,hx⟩:∃x,few[k]?=some x:=⟨_,DR hlt⟩;have hz:=Bg hx;have k5:=k5 _ rfl;obtain⟨q1,A⟩:=(hf1 x).1 (bO hx);have h1:=U2 (l:=a) x aa;rw[CO ((hf2 x).2 ⟨O.sub x q1,A⟩)] at h1;exact jw [hr 43 (Dd hx),AB 49 (ac.ixZ hz),AB 50 (ac.ptZ aW hz),hf 51 h1,hbb 45 (Xl (q:=k) aa)] [] k5 []
  .split at hs
   .rename_i he;subst he;exact yl 111111101 [hr 43 (DZ (s:=few))] [] z
   .cases hs
 refine Ix 1111111101 (s0 163 fI [(5,Z8 r.Cards m N),(7,aE aj v),(8,aE aj few)] [] 0 0) ?_ λz=>?_;rotate_left
 .refine pN (λk:Nat=>(s0 163 fI [(5,Z8 r.Cards m N),(7,aE aj v),(8,aE aj few),(9,aE aj a),(11,iG (k:Int))] [] 0 0)) 111111110122 (EO (n:=a.length) aa) [] [] (λB k u hs k5 J=>?_);unfold Ko at hs;split at hs
  .rename_i hlt;obtain rfl:=Bf hs;obtain⟨x,hx⟩:∃x,a[k]?=some x:=⟨_,DR hlt⟩;have hz:=Bg hx;have k5:=k5 _ rfl;obtain⟨q1,A⟩:=(hf2 x).1 (bO hx);obtain⟨i,o,i1,K,U,V,M,i6,Z,W,i9,F,H⟩:=AdZ P h14 hkn A;obtain⟨b,h1,h2⟩:∃b:Bool,ba prog fI 18 [aE aj v,.agg (aj x)] (bG b)/\ba prog fI 18 [aE aj few,.agg (aj x)] (bG b):=by refine⟨decide (x∈v),U2 x aa,?_⟩;have h:=U2 (l:=few) x aa;rwa [show decide (x∈few)=decide (x∈v) from decide_eq_decide.2 ((hf1 x).trans ⟨λh=>h.1,λh=>⟨h,A⟩⟩)] at h
   have hb:∀p q:Dl,b8 prog .neq 4 p q (bG b) (bG b)=some (bG false):=λp q=>by cases b<;>kernel_rfl
   obtain⟨p,R,D,fk,sen,p1,p2,hR,hD,I⟩:=hown K i1;obtain⟨_,_,_,s1,_,s2⟩:=hset F H K;have hO:=y x;rw[U,V] at hO;refine pO 111111110122102110 (s0 163 fI [(5,Z8 r.Cards m N),(7,aE aj v),(8,aE aj few),(9,aE aj a),(11,iG (k:Int)),(12,.ptr (aJ o) 0)] [] 0 0) [hr 56 (Dd hx),AB 62 (ac.ixZ hz),AB 63 (ac.ptZ aW hz),hf 64 h1,AB 68 (ac.ixZ hz),AB 69 (ac.ptZ aW hz),hf 70 h2,hV 71 hb,AB 76 (ac.ixZ hz),AB 77 (ac.ptZ aW hz),hf 78 hO] [hc (eB (gs:=aJ o) aH)] ?_;refine dCu 8 (s0 163 fI [(5,Z8 r.Cards m N),(7,aE aj v),(8,aE aj few),(9,aE aj a),(11,iG (k:Int)),(12,.ptr (aJ o) 0),(81,Z8 r.Cards m N),(88,aE aj p)] [] 0 0) (s0 163 fI [(5,Z8 r.Cards m N),(7,aE aj v),(8,aE aj few),(9,aE aj a),(11,iG (k:Int)),(12,.ptr (aJ o) 0),(14,.ref 0 0)] (BG f0 R) 14 0) [AB 85 (ac.ixZ hz),AB 86 (ac.ptZ aW hz),ho 88 [Z8 r.Cards m N,aE aj [x]] [hc (ac.al [x])] p1 (kF p)] [hrn 89 0 [Z8 r.Cards m N,aE aj p] hR p2] [hc (ac.al p)] (rlB ρr0 (Px 0) hR) ?_ ρr0 Nh;cases c:decide (o.Kind=4) with
   |false=>exact jw [hf 92 s1,hr 98 c,hbb 58 (Xl (q:=k) aa)] [] k5 []
   |true=>
    have hk:=DL c;have g:=AcL (l:=ZM r o) aa;rw[I,Aia hR hD (by unfold Ug;simp[hk]) (by rw[<-I];intro h;rw[W,h] at M;simp[tpL] at M),<-I] at g
    have hsm:=ZX (gl:=fI) (l:=He R) (by rw[(Lo hR).2.1.length_eq,Hl];have:=hR.len;omega)
    exact jw [hf 92 s1,hr 98 c,hf 101 g,hrr 103 f0 14 [] hR (RZ fI hR),hf 104 hsm,hbb 58 (Xl (q:=k) aa)] [] k5 []
  .split at hs
   .rename_i he;subst he;exact yl 1111111101 [hr 56 (DZ (s:=a))] [] z
   .cases hs
 refine pN (λk:Nat=>(s0 163 fI [(5,Z8 r.Cards m N),(7,aE aj v),(8,aE aj few),(16,iG ((k+1:Nat):Int))] [] 0 0)) 1111111110122 (EO (n:=6) aa) [] [] (λB k u hs k5 J=>?_);unfold Ko at hs;split at hs
 .rename_i hlt;obtain rfl:=Bf hs;have k5:=k5 _ rfl;obtain⟨cd,t⟩:=hcard k hlt;have h1:=hK [((k+1:Nat):Int)] aC;have h2:=hcd ((k+1:Nat):Int);rw[show(PA ⟨r.Cards,m,N⟩).card ((k+1:Nat):Int)=some cd from t] at h2;have hs1:=AdV (ss:=λx=>Td r ((C4 r m N).o x)) (cs:=few) t;refine Ix 1111111110122102101 (s0 163 fI [(5,Z8 r.Cards m N),(7,aE aj v),(8,aE aj few),(16,iG ((k+1:Nat):Int)),(17,bG (ZP few ((k+1:Nat):Int)))] [] 0 0) ?_ λz=>?_;rotate_left
  .refine pN (λj:Nat=>(s0 163 fI [(5,Z8 r.Cards m N),(7,aE aj v),(8,aE aj few),(16,iG ((k+1:Nat):Int)),(17,bG (ZP (few.take j) ((k+1:Nat):Int))),(18,iG (j:Int))] [] 0 0)) 111111111012210210122 (EO (n:=few.length) aa) [hr 109 (show decide (((k+1:Nat):Int)<=6)=true from CO aa)] [] (λB' j u hs' d X=>?_);unfold Ko at hs';split at hs'
   .rename_i hj;obtain rfl:=Bf hs';obtain⟨x,hx⟩:∃x,few[j]?=some x:=⟨_,DR hj⟩;have hz:=Bg hx;have d:=d _ rfl;rw[show ZP (few.take (j+1)) ((k+1:Nat):Int)=(ZP (few.take j) ((k+1:Nat):Int)&&decide (x.By≠((k+1:Nat):Int))) by unfold ZP;rw[JJ,hx,Option.toList_some,List.all_append];simp] at d;cases n:ZP (few.take j) ((k+1:Nat):Int) with
    |false=>rw[n] at d;exact jw [hr 115 (Dd hx),hbb 117 (Xl (q:=j) aa)] [] d []
    |true=>rw[n,Bool.true_and] at d;exact jw [hr 115 (Dd hx),AB 122 (ac.ixZ hz),AB 124 (ac.fdZ tZ 0 hz),hbb 117 (Xl (q:=j) aa)] [] d []
   .split at hs'
    .rename_i he;subst he;rw[EQ];exact yl 1111111110122102101 [hr 115 (DZ (s:=few))] [] z
    .cases hs'
  .rcases hs1 with⟨n,q⟩|⟨n,x,Q,q,hx⟩
   .rw[n];rw[q] at h1;refine pO 1111111110122102110 (s0 163 fI [(5,Z8 r.Cards m N),(7,aE aj v),(8,aE aj few),(16,iG ((k+1:Nat):Int)),(17,bG true)] [] 0 0) [] [] ?_;refine dCu 4 (s0 163 fI [(5,Z8 r.Cards m N),(7,aE aj v),(8,aE aj few),(16,iG ((k+1:Nat):Int)),(17,bG true),(129,Z8 r.Cards m N),(130,aE aj v),(132,aE cZ [((k+1:Nat):Int)])] [] 0 0) (s0 163 fI [(5,Z8 r.Cards m N),(7,aE aj v),(8,aE aj few),(16,iG ((k+1:Nat):Int)),(17,bG true),(19,.ptr (Hb ⟨[((k+1:Nat):Int)],cd.Lead,⟨0,0,0⟩,0⟩) 0),(20,bG true)] [] 0 0) [] [hf 133 h1] [hc (rZ.al [((k+1:Nat):Int)])] [hc (eB (gs:=Hb ⟨[((k+1:Nat):Int)],cd.Lead,⟨0,0,0⟩,0⟩) aH)] ?_;exact jw [hf 139 h2,hV 149 (dU ⟨0,0,0⟩ ⟨0,0,0⟩ (r:=true) aC),hr 159 (neZ (cd.Lead:Int)),hbb 111 (Xl (q:=k+1) aa)] [] k5 []
   .rw[n];rw[q] at h1;refine pO 1111111110122102110 (s0 163 fI [(5,Z8 r.Cards m N),(7,aE aj v),(8,aE aj few),(16,iG ((k+1:Nat):Int)),(17,bG false)] [] 0 0) [] [] ?_;refine dCu 4 (s0 163 fI [(5,Z8 r.Cards m N),(7,aE aj v),(8,aE aj few),(16,iG ((k+1:Nat):Int)),(17,bG false),(129,Z8 r.Cards m N),(130,aE aj v),(132,aE cZ [((k+1:Nat):Int)])] [] 0 0) (s0 163 fI [(5,Z8 r.Cards m N),(7,aE aj v),(8,aE aj few),(16,iG ((k+1:Nat):Int)),(17,bG false),(19,.ptr (Hb ⟨[((k+1:Nat):Int)],Q,x,0⟩) 0),(20,bG true)] [] 0 0) [] [hf 133 h1] [hc (rZ.al [((k+1:Nat):Int)])] [hc (eB (gs:=Hb ⟨[((k+1:Nat):Int)],Q,x,0⟩) aH)] ?_;exact jw [hf 139 h2,hV 149 (dU x ⟨0,0,0⟩ (r:=false) (C6 λe=>by rw[e] at hx;simp at hx;omega)),hbb 111 (Xl (q:=k+1) aa)] [] k5 []
 .split at hs
  .rename_i he;subst he;exact Ar [hr 109 (show decide (((6+1:Nat):Int)<=6)=false from C6 aa),hf 162 C] []
  .cases hs
def HC:LQ:=(ql [1,2]).getD []
theorem AcT:ql [1,2]=some HC:=aH
theorem Yb:HC.all KK=true:=aH
theorem RT:HC.length=2:=aH
theorem Abj:xf HC:=OM aH
theorem Al6:HC.map (·.Device)=[1,2]:=aH
attribute [irreducible] HC
theorem wf0{cs:LQ}(hl:cs.length<=1000)(hc:cs.all KK=true):Fo ⟨cs,[],[],[],[]⟩ where
 nL:=aC
 nI:=rfl
 nU:=rfl
 nN:=rfl
 nC:=hl
 cards:=by grind [KK,c8,fS]
 up:=by grind
 rows:=by grind
 inlt:=by grind [O9]
 ops:=by grind
 ids:=by grind
 nd:=aC
 one:=by grind
 tr:=by grind
 la:=by grind [O9]
def oL:Bp:=⟨1,1,1,0,[],0,0,0,0,[⟨77,[]⟩],⟨0,0,0⟩,0,[],[],⟨0,0,0⟩,[],0,0,[],0,[],⟨0,0⟩⟩
theorem Ahm:Bb oL:=by constructor<;>simp[oL,c8,fS];all_goals grind [I5,fS,JU,c8]
def oX:Bp:=(nR oL).getD oL
theorem Ahn:nR oL=some oX:=aH
def rL:A7×Int:=(AO ⟨HC,[],[],[],[]⟩ oX).getD (⟨[],[],[],[],[]⟩,1)
theorem Aho:AO ⟨HC,[],[],[],[]⟩ oX=some rL:=aH
theorem Aka:rL.2=0:=aH
theorem Akb:qo rL.1 oX=some [1]:=aH
attribute [irreducible] rL oX
theorem Af9:∃(b:Nat->JI) (N:JH) (x:Ab),rL.1.L=[oX]/\rL.1.IDs=[x]/\rL.1.Cards=HC/\pV oX=some x/\Aam rL.1 b N/\Pg rL.1 (b 1) N:=by
 obtain⟨v,e,s,rfl,h1,h2⟩:=Io Ahm;have e:=Bf (Ahn.symm.trans e);have so:Bb oX:=e▸Ahm.sig s;have hs:fS oX.Sig.S:=by grind
 have w0:=wf0 (cs:=HC) (by rw[RT];decide) Yb;obtain⟨v,ev,w,ha⟩:=QG w0 so hs;obtain rfl:=Bf (Aho.symm.trans ev);rcases ha with⟨h,_⟩|⟨x,up,row,_,a,hid,hrow,hg⟩
 .grind [Aka]
 have gr:KI ⟨HC,[],[],[],[]⟩ rL.1:=by grind [KI]
 obtain⟨b,N,c,_,h3,h4⟩:=OL gr rfl rfl Abj;have hL:rL.1.L=[oX]:=by rw[hg];rfl
 rw[hL] at h4;exact⟨b,N,x,hL,by rw[hg];rfl,c,hid,h3,(by grind [Aeh,RT,Yb,Al6])⟩
abbrev oR1:aQ:=[ob 0 3 [iG 1],ob 1 22 [.rsl 0 0 1]]
theorem Aeg:jg prog fI 15 [aE Jc [[1]],.rsl 1 0 1] oR1 2 (bG true) oR1 2:=by
 refine pP func15 ?_;refine pN (λk:Nat=>(s0 27 fI [(0,aE Jc [[1]]),(1,.rsl 1 0 1),(5,iG (k:Int))] oR1 2 2)) 1110122 (EO (n:=1) BX) [] [hc (rfl:1=1),hc (rfl:1=1)] (λB k w hs k5 a=>?_) [] [(0,0),(1,1)] [(9,.row)];unfold Ko at hs;split at hs
 .rename_i hlt;obtain rfl:k=0:=aa;obtain rfl:=Bf hs;exact jw [hq 25 [aE cZ [1],aE cZ [1]] [hc (rZ.al [1])] (ZX (gl:=fI) (l:=[1]) BX)] [hc (rfl:1=1),hc (rfl:1=1)] (k5 _ rfl) [] [(0,0),(1,1)] [(9,.row)]
 .split at hs
  .rename_i he;subst he;exact mt .ret (s0 27 fI [(4,bG true)] oR1 2 2) [bG true] [] [hc (rfl:1=1)] (ρ:=[(0,0),(1,1)]) (kd:=[(9,.row)])
  .cases hs
abbrev frL(x:Ab)(g:G)(r:Fr):St:=(s0 97 fI ([(1,.ptr (aI rL.1) 0),(2,.ptr (aJ oX) 0),(4,g),(5,.ptr (aj x) 0)]++r) [] 0 0)
abbrev oG2:aQ:=[ob 0 33 (aI ⟨HC,[],[],[],[]⟩)]
theorem O8:ba prog fI 19 [] (bG true):=by
 obtain⟨a,N,x,hL,d,g,hid,hR,P⟩:=Af9;have w:=P.w;have hof:=ZC hR;have hnl:=P.p.len;rw[hL] at hof hnl;have hnl:N.length=1:=hnl;obtain⟨y,rfl⟩:∃y,N=[y]:=List.length_eq_one_iff.1 hnl;have hy:=(P.p.nd 0 y rfl).2.1;rw[d] at hy;obtain rfl:x=y.id:=by grind
 have so:=(w.ops 0 oX (by rw[hL];rfl)).1;have hb:=KJ so hid;have hk:oX.Kind=1:=aH;have hBy:oX.By=1:=aH;have h14:rL.1.L.length<=14:=by grind
 have k1:Kn oX:=λh=>by grind
 have hkn:∀(k:Nat) (o:Bp),rL.1.L[k]?=some o->Kn o:=by grind
 obtain⟨_,_,_,b,e,_⟩:=Ab1 P h14 so k1 (by grind);rw[Akb] at e;obtain⟨j,f⟩:=P.op (i:=0) (o:=oX) (x:=y.id) (by rw[hL];rfl) (by rw[d];rfl);have es:Td rL.1 oX=[[1]]:=by unfold Td;rw[<-Bf e,hk,hBy];kernel_rfl
 rw[<-Bf e] at b;obtain⟨al,hA,hp,hi,hd⟩:=AdY P h14;rw[d] at hp;obtain rfl:=List.perm_singleton.1 hp;obtain⟨row,c1,_,c2,_,c3⟩:=U1 P h14 hkn hi hd;obtain rfl:=List.perm_singleton.1 c2;have hcm:UB rL.1 (C4 rL.1 (a 1) [y]) y.id=true:=by unfold UB;rw[f,es];kernel_rfl
 have h1:=ZQ P h14 hkn c3 c1 (set:=[1]) BX;have h2:=ZQ P h14 hkn c3 c1 (set:=[2]) BX;have h3:=Ahh P h14 hkn y.id;rw[f,es] at h3;obtain⟨c,c4⟩:∃c,HC[1]?=some c:=⟨_,DR (by rw[RT];decide)⟩;have hB1:y.id.By=1:=hb.1.trans hBy;have kc:(C4 rL.1 (a 1) [y]).card 2=some c:=by show rL.1.Cards.find? _=_;rw[g];exact(show HC.find? (λc=>decide (c.Device=2))=HC[1]? by kernel_rfl).trans c4
 have kp:AcI (C4 rL.1 (a 1) [y]) y.id 0=77:=by unfold AcI;rw[f];kernel_rfl
 rw[List.filter_cons_of_pos hcm,List.filter_nil,show Rh (C4 rL.1 (a 1) [y]) (λx=>Td rL.1 ((C4 rL.1 (a 1) [y]).o x)) [y.id] [1]=some ⟨[1],77,y.id,0⟩ by simp[Rh,Uo,Vb,hB1,kp]] at h1;rw[List.filter_cons_of_pos hcm,List.filter_nil,show Rh (C4 rL.1 (a 1) [y]) (λx=>Td rL.1 ((C4 rL.1 (a 1) [y]).o x)) [y.id] [2]=some ⟨[2],c.Lead,⟨0,0,0⟩,0⟩ by simp[Rh,Uo,Vb,hB1,kc]] at h2;simp only[Ag,RJ] at hA b h1 h2 h3;change jg _ _ _ _ _ _ _ [(0,oG rL.1.Cards 1 2),(1,oM (a 1)),(2,zQ [y])] 3 at hof;have c5:aS rL.1.Cards 1=some c:=by rw[g];exact c4
 generalize a 1=m at*;refine Gh func19 ?_;refine pO [1,0] (s0 97 fI [] [] 0 0) [] [] ?_;refine dCu 1 (s0 97 fI [(11,aE cZ [1,2])] [] 0 0) (s0 97 fI [(1,.ref 0 0)] oG2 1 0) [] [hf 12 (bT.fo (GQ fI AcT)),hf 13 (M8 fI (cards:=HC) rfl)] [hc (rZ.al [1,2])] [] ?_;refine pO 1110 (s0 97 fI [(1,.ref 0 0)] oG2 1 0) [] [] ?_;refine dCu 2 (s0 97 fI [(1,.ref 0 0),(15,.sl [uG 77,Iy] 1)] oG2 1 0) (s0 97 fI [(1,.ref 0 0),(2,.ptr (aJ oX) 0)] oG2 1 0) [] [hf 17 (Aij [.agg ((bF [4,14,15,19,22,24] (aJ oL)).set 9 (.sl [uG 77,Iy] 1))] (E8 fI Ahn))] [hc (p:=[uG 77,Iy].length=1*2/\(∀x∈[uG 77,Iy],bB x)/\1=1) ⟨rfl,eB aH,rfl⟩] [hc (eB (gs:=aJ oX) aH)] ?_;refine pO 11111100 (s0 97 fI [(1,.ptr (aI rL.1) 0),(2,.ptr (aJ oX) 0),(3,iG rL.2),(4,Z8 rL.1.Cards m [y])] [] 0 0) [hf 21 (M9 fI Aho),tN 25 [] 1 [] [.agg (aI rL.1)] [ob 0 111 [aE bv rL.1.Cards,.mref 2,.rsl 3 0 1],(1,oM m),(2,zQ [y])] hof trivial ⟨⟨rfl,.inl rfl⟩,⟨rfl,rfl,rfl,rfl,.inr ⟨rfl,cf _⟩⟩,⟨rfl,.inr ⟨rfl,az.imm _⟩⟩,trivial⟩] [hc (eB (gs:=aI rL.1) aH),hc (cf m),hc (az.al [y]),hc (eB (gs:=[aE bv rL.1.Cards,gMp m,aE d7 [y]]) aH)] ?_;refine pO 111111110 (frL y.id (Z8 rL.1.Cards m [y]) []) [hr 30 (show decide (rL.2≠0)=false by rw[Aka];rfl),hf 33 (AI fI hid)] [hc (eB (gs:=aj y.id) aH)] ?_;refine dCu 4 (frL y.id (Z8 rL.1.Cards m [y]) [(35,Z8 rL.1.Cards m [y]),(37,aE aj [y.id]),(38,aE cZ [1])]) (frL y.id (Z8 rL.1.Cards m [y]) [(6,.ptr (Hb ⟨[1],77,y.id,0⟩) 0),(7,bG true)]) [hf 37 hA] [hf 39 h1] [hc (rZ.al [1])] [hc (eB (gs:=Hb ⟨[1],77,y.id,0⟩) aH)] ?_;refine pO 1111111110 (frL y.id (Z8 rL.1.Cards m [y]) [(6,.ptr (Hb ⟨[1],77,y.id,0⟩) 0),(7,bG true)]) [] [] ?_;refine dCu 4 (frL y.id (Z8 rL.1.Cards m [y]) [(6,.ptr (Hb ⟨[1],77,y.id,0⟩) 0),(7,bG true),(43,Z8 rL.1.Cards m [y]),(45,aE aj [y.id]),(46,aE cZ [2])]) (frL y.id (Z8 rL.1.Cards m [y]) [(6,.ptr (Hb ⟨[1],77,y.id,0⟩) 0),(7,bG true),(8,.ptr (Hb ⟨[2],c.Lead,⟨0,0,0⟩,0⟩) 0),(9,bG true)]) [hf 45 hA] [hf 47 h2] [hc (rZ.al [2])] [hc (eB (gs:=Hb ⟨[2],c.Lead,⟨0,0,0⟩,0⟩) aH)] ?_;exact Ar [hf 52 h3,hV 66 (dU (r:=true) y.id y.id aC),AB 73 (bT.ixZ c5),AB 75 (bT.fdZ tW 2 c5),hr 76 (show decide ((c.Lead:Int)=(c.Lead:Int))=true by simp),hV 82 (dU (r:=true) ⟨0,0,0⟩ ⟨0,0,0⟩ aC),hmc 88 [0,1] 3 oR1 [aE Jc [[1]],.rsl 1 0 1] [(0,⟨3,[iG 1],none⟩),(1,⟨22,[.rsl 0 0 1],none⟩)] Aeg ⟨⟨rfl,.inl rfl⟩,⟨rfl,.inl rfl⟩,trivial⟩ ⟨⟨rfl,.inl rfl⟩,⟨rfl,.inl rfl⟩,trivial⟩,hf 93 b,hq 95 [aE cZ [1],aE cZ [1]] [hc (rZ.al [1])] (ZX (gl:=fI) (l:=[1]) BX)] []
abbrev Ub:List (String×DataW Unit):=[("huddle/roll.asks",Rows.laid_huddle_roll_asks),("huddle/op.kinds",Rows.laid_huddle_op_kinds)]
theorem Y8:Tryz.prog.globalNamed "huddle/roll.asks" =some 0:=aH
theorem WB:Tryz.prog.globalNamed "huddle/op.kinds" =some 1:=aH
theorem Y9:(Tryz.prog.globals[0]?).map (·.type)=some 197:=aH
theorem WC:(Tryz.prog.globals[1]?).map (·.type)=some 253:=aH
theorem AcH{l:List α}{i:Nat}{v:α}(h:l[i]?=some v):(l.drop (i*1)).take 1=[v]:=by rw[Nat.mul_one];obtain⟨hi,rfl⟩:=cr h;rw[List.drop_eq_getElem_cons hi];rfl
theorem IL{P:Program}{sp:Nat->Bool}{fuel:Nat}{ps rs:Array TypeId}{va:Bool}{q:List MemPlace}(ht:P.underlying t=some (.func ps rs va))
  (h:DataW.trod (funcToken P) P w base sp true fuel t [v]=some (.nil,q)):v= .nilFunc:=by
 cases fuel with
 |zero=>simp[DataW.trod] at h
 |succ n=>cases v<;>simp[DataW.trod,ht] at h;rfl
theorem zo{H:Type}{enc:TypeId×Value->H}{P:Program}{sp:Nat->Bool}{a:Bool}{fuel n:Nat}{e:TypeId}{cs:Array Value}{ds:List (DataW H)}{p:List MemPlace}{nm:String}{g:Nat}(ht:P.underlying t=some (.array n e))(hc:P.cellsOf e=1)(hn:P.cellsOf t=n)
  (hg:P.globalNamed nm=some g) (hv:w.var? P nm=some cs) (h:DataW.trod enc P w base sp a fuel t cs.toList=some (.agg ds,p)):∀i,i<n->∃v d m q,w.cell? ⟨g,i,none⟩=some v/\ds[i]?=some d/\DataW.trod enc P w base sp a m e [v]=some (d,q):=by
 obtain⟨xs,m,_,hx,hl,hlen,b⟩:=DataW.trod_array ht h
 simp only[FF,DataW.agg.injEq] at hx
 intro i hi
 have hsz:cs.size=n:=by rw[<-hn,<-hl];simp
 have hcell:=World.var?_cell hg hv i
 have hci:cs[i]?=some (cs[i]'aa):=Array.getElem?_eq_getElem aa
 have hli:cs.toList[i]?=some (cs[i]'aa):=by rw[Array.getElem?_toList];exact hci
 have:=b i hi
 rw[hc,AcH hli] at this
 have hxi:xs[i]?=some (xs[i]'aa):=DR aa
 rw[hxi] at this
 refine⟨_,(xs[i]'aa).1,m,(xs[i]'aa).2,hcell.trans hci,?_,this⟩
 rw[hx.1,MH,hxi]
 rfl
theorem ML{g i:Nat}(h:W.cell? ⟨g,i,none⟩=some v):g<W.heap.size:=by
 rcases HE g W.heap.size with h'|h'
 .exact h'
 .unfold World.cell? at h;simp[Array.getElem?_eq_none h'] at h
def IM:G->Value
 | .lit v=>v
 | .clo fn _ _=> .func fn #[] #[]
 |_=> .nilFunc
theorem WD{S:Nat->Prop}{g:G}(h:(∃v,g= .lit v)\/∃n,g= .clo (.func n) [] []):IV S W g (IM g):=by
 rcases h with⟨v,rfl⟩|⟨n,rfl⟩
 .exact .lit v
 .exact .clo _ [] [] #[] #[] rfl rfl aC aC
theorem MM{g:Nat}{l:List G}(h0:g<W.heap.size)(hc:∀i x,l[i]?=some x->W.cell? ⟨g,i,none⟩=some (IM x))(hg:∀x∈l,((∃k z,x= .lit (.int k z))\/x= .lit .nilFunc)\/∃n,x= .clo (.func n) [] []):IV (λ_=>False) W (.ptr l 0) (.pointer (some ⟨g,0,none⟩)):=by
 have e:(⟨g,0,none⟩:Addr)=⟨g,0+0,none⟩:=rfl;refine .ptr l 0 g 0 (λi=>IM (l.getD i .junk)) (λh=>h) h0 (λi hi=>?_) (λi hi=>?_) (λi x hx=>?_)
 .rw[Nat.zero_add];refine hc i _ ?_;rw[List.getD_eq_getElem?_getD,DR hi];rfl
 .have hx:l[i]?=some (l[i]'hi):=DR hi;rw[List.getD_eq_getElem?_getD,hx];rcases hg _ (bO hx) with(⟨k,z,h⟩|h)|⟨n,h⟩<;>(simp only[M2];rw[h];rfl)
 .rw[List.getD_eq_getElem?_getD,hx];simp only[M2];refine WD ?_;rcases hg _ (bO hx) with(⟨k,z,h⟩|h)|⟨n,h⟩
  .exact .inl ⟨_,h⟩
  .exact .inl ⟨_,h⟩
  .exact .inr ⟨n,h⟩
theorem Ov(h:laidMetH Tryz.prog Ub W):IV (λ_=>False) W (.ptr (nG.flatMap cZ) 0) (.pointer (some ⟨1,0,none⟩)):=by
 have hm:laidMet Tryz.prog [("huddle/op.kinds",Rows.laid_huddle_op_kinds)] W:=h.1;obtain⟨ps,⟨g1,e,c,f1,p1,q1,a,b,hv1,hd1,_,_⟩,_,_⟩:=hm;obtain rfl:=Bf (WB.symm.trans a);obtain rfl:=Bf (WC.symm.trans b);have hcells:=zo (n:=14) Tryz.underlying253 aH aH a hv1 hd1;have key:∀i x,(nG.flatMap cZ)[i]?=some x->W.cell? ⟨1,i,none⟩=some (IM x):=by
  intro i x hx;have hi:i<14:=(cr hx).1;obtain⟨v,d,m,q,hc,hd,hr⟩:=hcells i hi;obtain⟨k,e1,e2,_⟩:=DataW.trod_int Tryz.underlying3 hr;simp only[FF] at e2;rw[hc];simp only[List.cons.injEq,and_true] at e1;rw[e1];rw[e2.1] at hd;match i,hi with
  |0,_|1,_|2,_|3,_|4,_|5,_|6,_|7,_|8,_|9,_|10,_|11,_|12,_|13,_=>cases hd;cases hx;rfl
 refine MM (ML (key 0 _ rfl)) key λx hx=> .inl (.inl ?_);obtain⟨z,_,hz⟩:=List.mem_flatMap.1 hx;cases List.mem_singleton.1 hz;exact⟨_,_,rfl⟩
noncomputable abbrev fby(l:List UInt8):List Nat:=(List.range Tryz.prog.funcs.size).filter λf=>(Tryz.prog.funcs[f]?).any (·.name.toUTF8.data.toList==l)
theorem aaJ:fby [104,117,100,100,108,101,47,114,111,108,108,46,97,115,107,115,36,49]=[406]:=aH
theorem aaK:fby [104,117,100,100,108,101,47,114,111,108,108,46,97,115,107,115,36,50]=[408]:=aH
theorem aaL:fby [104,117,100,100,108,101,47,114,111,108,108,46,97,115,107,115,36,51]=[409]:=aH
theorem aaM:fby [104,117,100,100,108,101,47,114,111,108,108,46,97,115,107,115,36,52]=[410]:=aH
theorem aaN:fby [104,117,100,100,108,101,47,114,111,108,108,46,97,115,107,115,36,53]=[411]:=aH
theorem aaO:fby [104,117,100,100,108,101,47,114,111,108,108,46,97,115,107,115,36,54]=[412]:=aH
theorem aaP:fby [40,42,104,117,100,100,108,101,47,114,111,108,108,46,82,111,108,108,41,46,111,119,110]=[414]:=aH
theorem aaQ:fby [104,117,100,100,108,101,47,114,111,108,108,46,97,115,107,115,36,55]=[415]:=aH
theorem aaR:fby [104,117,100,100,108,101,47,114,111,108,108,46,97,115,107,115,36,56]=[416]:=aH
theorem Rc(h:laidMetH Tryz.prog Ub W):IV (λ_=>False) W (.ptr IU 0) (.pointer (some ⟨0,0,none⟩)):=by
 obtain⟨g,t,cs,fuel,p,hg,ht,hv,a⟩:=h.funcs (List.mem_cons_self ..);obtain rfl:=Bf (Y8.symm.trans hg);obtain rfl:=Bf (Y9.symm.trans ht);have hd1:DataW.trod (funcToken Tryz.prog) Tryz.prog W 0 (λ_=>true) true fuel 197 cs.toList=some (.agg [.nil,.nil,.held [104,117,100,100,108,101,47,114,111,108,108,46,97,115,107,115,36,49],.held [104,117,100,100,108,101,47,114,111,108,108,46,97,115,107,115,36,50],.nil,.held [104,117,100,100,108,101,47,114,111,108,108,46,97,115,107,115,36,51],.held [104,117,100,100,108,101,47,114,111,108,108,46,97,115,107,115,36,52],.nil,.held [104,117,100,100,108,101,47,114,111,108,108,46,97,115,107,115,36,53],.held [104,117,100,100,108,101,47,114,111,108,108,46,97,115,107,115,36,54],.held [40,42,104,117,100,100,108,101,47,114,111,108,108,46,82,111,108,108,41,46,111,119,110],.held [104,117,100,100,108,101,47,114,111,108,108,46,97,115,107,115,36,55],.held [40,42,104,117,100,100,108,101,47,114,111,108,108,46,82,111,108,108,41,46,111,119,110],.held [104,117,100,100,108,101,47,114,111,108,108,46,97,115,107,115,36,56]],p):=a;have hcells:=zo (n:=14) Tryz.underlying197 aH aH hg hv hd1;have key:∀i x,IU[i]?=some x->W.cell? ⟨0,i,none⟩=some (IM x):=by
  intro i x hx;have hi:i<14:=(cr hx).1;obtain⟨v,d,m,q,hc,hd,hr⟩:=hcells i hi;match i,hi with
  |0,_|1,_|2,_|3,_|4,_|5,_|6,_|7,_|8,_|9,_|10,_|11,_|12,_|13,_=>
   cases hd;cases hx;rw[hc];first
    |(rw[IL Tryz.underlying196 hr];rfl)
    |(rw[func_of_trod (f0:=406) Tryz.underlying196 aaJ hr];rfl)
    |(rw[func_of_trod (f0:=408) Tryz.underlying196 aaK hr];rfl)
    |(rw[func_of_trod (f0:=409) Tryz.underlying196 aaL hr];rfl)
    |(rw[func_of_trod (f0:=410) Tryz.underlying196 aaM hr];rfl)
    |(rw[func_of_trod (f0:=411) Tryz.underlying196 aaN hr];rfl)
    |(rw[func_of_trod (f0:=412) Tryz.underlying196 aaO hr];rfl)
    |(rw[func_of_trod (f0:=414) Tryz.underlying196 aaP hr];rfl)
    |(rw[func_of_trod (f0:=415) Tryz.underlying196 aaQ hr];rfl)
    |(rw[func_of_trod (f0:=416) Tryz.underlying196 aaR hr];rfl)
 refine MM (ML (key 0 _ rfl)) key λx hx=>?_;simp only[IU,EG,KY,or_false] at hx;rcases hx with rfl|rfl|rfl|rfl|rfl|rfl|rfl|rfl|rfl|rfl|rfl|rfl|rfl|rfl<;>first|exact .inl (.inr rfl)|exact .inr ⟨_,rfl⟩
theorem TK(h:laidMetH Tryz.prog Ub W):Gls fI (λ_=>False) W:=by
 intro g l hl;simp only[fI,List.lookup_cons] at hl;split at hl
 .rename_i e;cases hl;obtain rfl:=eq_of_beq e;exact Ov h
 .split at hl
  .rename_i e;cases hl;obtain rfl:=eq_of_beq e;exact Rc h
  .cases hl
end Go.Proofs.YtghphhhpagagbaaGreatDoor
