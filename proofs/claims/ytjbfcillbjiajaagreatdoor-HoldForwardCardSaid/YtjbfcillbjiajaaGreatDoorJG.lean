/- Texts. -/
import Derived.Shelf.SlSortCmp.NoneTotal
import Derived.Test.YtjbfcillbjiajaaGreatDoorZR
namespace Go.Proofs.YtjbfcillbjiajaaGreatDoor
set_option linter.unusedSectionVars false
set_option linter.unusedVariables false
set_option linter.unusedSimpArgs false
open Go.RowKit Tryz Go.Sort Go.Shelf
attribute [local irreducible] Tr dz Gp
variable (gl:CC)
variable {α:Type}{ids row v:Ba}{l r srt:List Aj}{R:Ad}{D:DE}{fi:FuncId}{fa fc:Bk}{N:I4}{j k n:Nat}{gg:Az}{I:Gi}{o:Bo}{op:Op}{x y:Ab}{a:Code}{d:Int}{ex:Exit}{fr:Fr}{ps:Array Tmp}{g:Bc}{ss:K4}
section
variable {g:Bc} {m:Jb} {N:I4} (P:Pg g m N)
include P
theorem AiE(hrm:∀x∈row,x∈g.IDs):(N3 (Dd g m N) row).Nodup/\(N3 (Dd g m N) row).length<=12:=by have h1:(N3 (Dd g m N) row).Nodup:=AcV .nil;refine⟨h1,Alx h1 ?_⟩;refine AaX (Q:=λd=>1<=d/\d<=12) (λx hx d hd=>?_) (by grind);obtain⟨i,hi⟩:=Gu (hrm x hx);have:=(cr hi).1;obtain⟨o,ho,so,a⟩:=P.w.op (i:=i) (by have:=P.w.nI;omega);rw[(P.op ho hi).2] at hd;exact AaW a hd
theorem AeQ{vs:Ba}(hi:Fm g ids)(ho:n8 g ids=some row)(hrn:row.Nodup)(hr:row.length<=1000)(hrm:∀x∈row,x∈g.IDs)(hv:vJ ids=some vs)(b:vs.length<=1000)(hvm:∀x∈vs,x∈g.IDs):T (oR g ids) λc=>∃v,Agy (Dd g m N) (Vm ⟨g.Cards,m,N⟩ row vs) (O8 g.Cards (N3 (Dd g m N) row))=some v/\Lr g c (wV (Vm ⟨g.Cards,m,N⟩ row vs) v):=by
 unfold oR;refine .bind ((Alz P hi ho hrn hr hrm hv b hvm).mono λv1 ⟨hL,hD⟩=>?_);rw[AaY P ho hr hrm,aL];obtain⟨s1,s2⟩:=AiE P hrm;have hR:RDb g (Dd g m N) v1 (Vm ⟨g.Cards,m,N⟩ row vs) (row.filter (λx=> !!JN ((Dd g m N).o x).Kind),(Vm ⟨g.Cards,m,N⟩ row vs).void) v1.Void v1.Decided:=⟨hL,List.filter_sublist,(by grind),λp x hp hx hk _=>by have hpl:=(cr hp).1;have hm:x∈row.filter (λx=> !!JN ((Dd g m N).o x).Kind):=Hl.2 ⟨hx,by rw[hk];rfl⟩;grind [Lr]⟩
 obtain⟨nx,e3,_⟩:=nxE P s1 s2 hR;rw[show vL g v1 (N3 (Dd g m N) row)=some nx from e3,aL];obtain⟨v,r,h1,h2,h3⟩:=AaZ (s1:=Agx (Dd g m N) (Vm ⟨g.Cards,m,N⟩ row vs) (O8 g.Cards (N3 (Dd g m N) row))) (s2:=tw g v1 (N3 (Dd g m N) row)) (RDc g (Dd g m N) v1 (Vm ⟨g.Cards,m,N⟩ row vs) (N3 (Dd g m N) row)) (λ(v:FM Ab Bool) (r:List Bool×List Bool)=>Lr g {v1 with Void:=r.1,Decided:=r.2} (wV (Vm ⟨g.Cards,m,N⟩ row vs) v)) (λa=>a.1.length) (by grind [AlC]) FU _ (v1.Void,v1.Decided,nx) (by grind [FU]) ⟨hR,e3⟩;rw[show AH (tw g v1 (N3 (Dd g m N) row)) (v1.Void,v1.Decided,nx)=some r from h2,aL];exact .some ⟨v,h1,h3⟩
theorem AlD{l:Bn}(hi:EF g l)(hl:l.length<=1000)(hnd:(I9 g l).Nodup):T (AH (tQ g l) (⟨g.Cards,[],[],[],0,[]⟩,0)) λD=>Rr (aaF (Dd g m N) (I9 g l)) D/\Bi (aaF (Dd g m N) (I9 g l))/\RkS g 1000 D:=by
 have w:=P.w;have nI:=w.nI;obtain⟨b,e0,c⟩:=Alw (P.new);have hD0:b=⟨g.Cards,[],[],[],0,[]⟩:=(Bp e0).symm;subst hD0;refine T.forA l.length (λj D=>(Rr (((I9 g l).take j).foldl (NS (Dd g m N)) (Hf g.Cards)) D/\Bi (((I9 g l).take j).foldl (NS (Dd g m N)) (Hf g.Cards))/\Gs (((I9 g l).take j).foldl (NS (Dd g m N)) (Hf g.Cards)) ((I9 g l).take j))/\RkS g j D) aa ⟨⟨c,LT P.cd.r,λq z g h=>by cases h⟩,Mv g⟩ (λj D hj hr=>?_) λD hr=>?_
 .obtain⟨y,hy,hm⟩:=Hm hj;obtain⟨i,x,rfl,hil,hx,a⟩:=Ps w hi hy;obtain⟨o,ho,so,k⟩:=w.op hil;obtain⟨⟨h1,h2,h3⟩,h4⟩:=hr;have hod:=P.od i o x ho hx;have d:=(P.op ho hx).2;have et:((I9 g l).take (j+1)).foldl (NS (Dd g m N)) (Hf g.Cards)=Wq (((I9 g l).take j).foldl (NS (Dd g m N)) (Hf g.Cards)) o x:=by rw[Rb a,Om,List.foldl_cons,List.foldl_nil];grind [NS]
  have hxS:x∉(I9 g l).take j:=by grind [Gu,Nf]
  rw[et,Rb a];generalize ((I9 g l).take j).foldl (NS (Dd g m N)) (Hf g.Cards)=R at h1 h2 h3⊢;unfold tQ;simp only[eA hj,ax,au,hy,ho,hx,aL];have z:=ZZ P h4 aa h1 h2;exact .bind ((doE z h1 h2 λ_ q z f k1 k2 e=>by have:=h3 q z f k1 k2;grind).mono λv hv=> .some (by constructor<;>grind [aq,Sb,AiA,RkS,Gv]))
 .unfold tQ;dsimp only;rw[eF,Bf];have hl2:(I9 g l).length=l.length:=Gq ..;rw[<-hl2,EZ] at hr;exact .some ⟨hr.1.1,hr.1.2.1,hr.2.up aa⟩
theorem AnS{ids row vs:Ba}(hi:Fm g ids)(ho:n8 g ids=some row)(hrn:row.Nodup)(hr:row.length<=1000)(hrm:∀x∈row,x∈g.IDs)(hv:vJ ids=some vs)(a:vs.length<=1000)(hvm:∀x∈vs,x∈g.IDs):T (zY g ids) λD=>∃cs,Aes (Dd g m N) (Vm ⟨g.Cards,m,N⟩ row vs) (N3 (Dd g m N) row)=some cs/\cs.Sublist row/\Rr (aaF (Dd g m N) cs) D/\Bi (aaF (Dd g m N) cs)/\RkS g 1000 D:=by
 unfold zY AV;rw[aL];refine .bind ((AeQ P hi ho hrn hr hrm hv a hvm).mono λe hdl=>?_);obtain⟨v,h1,h2⟩:=hdl;refine .bind ((AiB P h2).mono λr b=>?_);obtain⟨g1,g2,d,c⟩:=b;have hcs:Aes (Dd g m N) (Vm ⟨g.Cards,m,N⟩ row vs) (N3 (Dd g m N) row)=some (I9 g r):=by unfold Aes;rw[show(Dd g m N).cards=g.Cards from rfl,h1,d];rfl
 refine .bind ((AlD P g1 g2 (hrn.sublist c)).mono λD hD=> .some ⟨I9 g r,hcs,c,hD⟩)
end
theorem Ajk(z:Sz D)(h:Rr R D)(hR:Bi R):lu D=some (Hx R):=by
 obtain⟨a,b,_⟩:=OJ hR;unfold lu;refine T.eq (.bind ((AeF z.i).mono λv hv=> .some ?_));refine AaV (hv.1.trans (List.Perm.trans ?_ b.symm)) hv.2 a;refine(List.perm_ext_iff_of_nodup (List.nodup_append.1 h.nd).1 hR.ci.kd).2 λe=>?_;have hi:=h.in_ e;constructor
 .grind [GK]
 .intro he;obtain⟨q,hq,rfl⟩:=EO.1 he;have hg:=IX hR.ci (k:=q.1) (v:=q.2.1) (n:=q.2.2) hq;grind
theorem UF:fg prog 97=some true:=aH
theorem Ny:Aca prog gl Bv (λx=>[.agg (Bv x)]) 205:=λs f fi_f fa_f fc_f a=>
 cy func205 λK=>O7 1101 (λg=>sg [] []) (λs1=>sf [] [(7,iG (ah s)),(8,iG s1)]) [hc (a.im)] K (λg=>rv K) λs1 k5 h k6=>aF 9 (CD 14 Bh.ixZ 15 (Bh.ptZ Hp) λd=>ak λi e=>kV (λb=>aw [hz 16 [] (cS (a.cs (c:=0) e (aY (aG 20 (.agg (Bv d)) aH) (bf))) b)]<|aP c3 k6 []) λb=>aw [hz 16 [] (cS (a.cs (c:=0) e (aY (aG 20 (.agg (Bv d)) aH) (bf))) b)]<|cj k5 [hc (a.im)])<|aA c2 h []
theorem MJ:Acb prog gl Bv (λx=>[.agg (Bv x)]) 119:=λs f fi_f fa_f fc_f a=>
 cy func119 λK=>ak λv1 e2=>aw [hz 7 [] (jf (c:=0) aH (Ny gl (a) e2) (aY (aG 20 (aE Bv s) aH) (aY (a.im) (bf))))]<|rv K
def JL(f:Bg)(a1:Bo):Fo:=
 (bif f.Device=a1.By then(some (decide (f.Seq<=a1.Seq)))else(some false)).bind λa=>some a
theorem UU{f a1}:DL prog gl (JL f a1) 121 [.agg (Bv f),.ptr (aJ a1) 0] bG:=
 cy func121 λK=>cN [1,0] (so [0] [(2,.ref 0 0)] [ob 0 199 (Bv f)] 1) []<|cC [1,0] (λa=>sk [] [(3,bG a)] [] 0) (λa=>rv K) λa k3=>aF 8 (rx k3)<|rx k3
def Aaf(a:Ad)(device:Int):Fo:=
 some (EY (a.in_.get device))
theorem U0{r_ device}:DL prog gl (Aaf r_ device) 125 [.ptr (CO r_) 0,iG device] bG:=
 cy func125 λK=>aw [hm 10 (Q2 r_.in_ device)]<|rv K
def S9(d:Int)(a1:Bn):Fo:=
 (Acc a1 d).bind λv1=>some (!v1)
theorem U1{d a1}:DL prog gl (S9 d a1) 126 [iG d,.ptr [aE cZ a1] 0] bG:=
 cy func126 λK=>BG 6 (DF gl) λv1=>rv K
section
variable {gl:CC}
abbrev InV(gl:CC)(fi:FuncId)(fa fc:Bk)(p:Int->Bool):Prop:=Uk prog gl fi fa fc (λx:Int=>[iG x]) (λx:Bool=>bG x) (λk=>some (p k))
theorem Adj{p:Int->Bool}(hv:InV gl fi fa fc p){l:Bn}(hn:l.length<=1000000):iV prog gl 123 [aE cZ l,.clo (.func fi) fa fc] 3 (l.filter p).length ((l.filter p).flatMap cZ):=by
 refine OW func123 ?_;refine pN (λk:Nat=>(s0 23 gl [(1,.clo (.func fi) fa fc),(5,.rsl 0 0 ((l.take k).filter p).length),(8,aE cZ l),(9,iG (ah l)),(10,iG (k:Int))] [(0,KY ((l.take k).filter p))] 1 0)) 1110122 (XT (n:=l.length) aa) [] [hc hv.im,hc (rZ.imm [])] (λB k w hs k5 a=>?_) [3] [(0,0)] [(0,.row)];unfold AcD at hs;split at hs
 .rename_i hlt;obtain rfl:=Bp hs;obtain⟨x,hx⟩:∃x,l[k]?=some x:=⟨_,EA hlt⟩;have hz:=Bt hx;have k5:=k5 _ rfl;have hl:((l.take k).filter p).length<=k:=Nj (Oa _ _) (by rw[Lv];omega);rw[JD,hx,Option.toList_some,Se] at k5;generalize (l.take k).filter p=q at k5 hl⊢;have hcs:=hv.cs (c:=1) (x:=x) rfl (aY (aG 20 (iG x) aH) bf);cases hp:p x with
  |true=>rw[hp] at hcs;rw[List.filter_cons_of_pos hp,List.filter_nil] at k5;exact jw [hr 11 (CB hx),AB 12 (rZ.ixZ hz),AB 13 (rZ.p1Z tZ hz),Go.Proofs.YtjbfcillbjiajaaGreatDoor.hz 16 [] hcs,Tn 20 rZ 8 q x aa,hbb 21 (Xl (q:=k) aa)] [hc hv.im,hc (el (q++[x])),hc (rZ.imm (q++[x]))] k5 [] [(0,2)] [(0,.row)]
  |false=>rw[hp] at hcs;rw[List.filter_cons_of_neg (by simp[hp]),List.filter_nil,LP] at k5;exact jw [hr 11 (CB hx),AB 12 (rZ.ixZ hz),AB 13 (rZ.p1Z tZ hz),Go.Proofs.YtjbfcillbjiajaaGreatDoor.hz 16 [] hcs,hbb 21 (Xl (q:=k) aa)] [hc hv.im,hc (el q),hc (rZ.imm q)] k5 [] [(0,0)] [(0,.row)]
 .split at hs
  .rename_i he;subst he;rw[EZ];exact EI [hr 11 (DS (s:=l))] (rZ.imm (l.filter p))
  .cases hs
end
def VC(p:Nat->Bool)(N:I4):Ba:=(N.zipIdx.filter λq=>p q.2).map (·.1.id)
theorem Afw{p:Nat->Bool}{x:C5}(h:N[k]?=some x):VC p (N.take (k+1))=VC p (N.take k)++bif p k then[x.id] else[]:=by grind [VC,JD]
theorem Adk{p:Nat->Bool}:(VC p N).length<=N.length:=by grind [VC,List.length_zipIdx]
section
variable {gl:CC}
theorem Ahr(a b:Ab):ba prog gl 62 [.agg (aj a),.agg (aj b)] (iG (GL a b)):=by
 have h1:=TH (gl:=gl) a b;have h2:=TH (gl:=gl) b a;unfold GL;refine Gh func62 ?_;cases c1:dt a b with
 |true=>rw[c1] at h1;exact Ar [hf 8 h1] []
 |false=>
  rw[c1] at h1;cases c2:dt b a with
  |true=>rw[c2] at h2;exact Ar [hf 8 h1,hf 12 h2] []
  |false=>rw[c2] at h2;exact Ar [hf 8 h1,hf 12 h2] []
theorem AjW:CmV gl 62 [] [] GL:=⟨aH,bf,bf,(by grind [Ahr])⟩
abbrev NmV(gl:CC)(fi:FuncId)(fa fc:Bk)(p:Nat->Bool):Prop:=Uk prog gl fi fa fc (λx:Nat=>[iG (x:Int)]) (λx:Bool=>bG x) (λk=>bif k<200 then some (p k)else none)
theorem Abg(hn:gg.nodes.length<=15){p:Nat->Bool}{fi:FuncId}{fa fc:Bk}(hv:NmV gl fi fa fc p){r:Ba}(h:Pa GL (VC p gg.nodes)=some r)(hle:r.length=(VC p gg.nodes).length):iV prog gl 26 [.ptr (Ag gg) 0,.clo (.func fi) fa fc] 41 r.length (r.flatMap aj):=by
 rw[hle];refine OW func26 ?_;refine XU (l:=gg.nodes) aa (λk:Nat=>(s0 30 gl [(1,.clo (.func fi) fa fc),(5,.rsl 0 0 (VC p (gg.nodes.take k)).length),(11,aE d7 gg.nodes),(12,iG (ah gg.nodes)),(13,iG (k:Int))] [(0,BA (VC p (gg.nodes.take k)))] 1 0)) 1110122 [] [hc hv.im,hc (ac.imm [])] (λB k x hx hz k5=>?_) (λB=>?_)
 .have hlt:=(cr hx).1;have hl:(VC p (gg.nodes.take k)).length<=k:=by grind [Adk]
  rw[Afw hx] at k5;generalize VC p (gg.nodes.take k)=l at k5 hl⊢;have hcs:=hv.cs (c:=2) (x:=k) (by rw[C6 (by grind)];rfl) (aY (aG 20 (iG (k:Int)) aH) bf);cases hp:p k with
  |true=>rw[hp] at k5 hcs;exact jw [hr 14 (CB hx),AB 16 (az.ixZ hz),AB 17 (az.ptZ UF hz),Go.Proofs.YtjbfcillbjiajaaGreatDoor.hz 20 [] hcs,Tn 25 ac 24 l x.id aa,hbb 26 (Xl (q:=k) aa)] [hc hv.im,hc (el (l++[x.id])),hc (ac.imm (l++[x.id]))] k5
  |false=>rw[hp] at k5 hcs;rw[Bf,LP] at k5;exact jw [hr 14 (CB hx),AB 16 (az.ixZ hz),AB 17 (az.ptZ UF hz),Go.Proofs.YtjbfcillbjiajaaGreatDoor.hz 20 [] hcs,hbb 26 (Xl (q:=k) aa)] [hc hv.im,hc (el l),hc (ac.imm l)] k5
 .rw[EZ];exact EI [hr 14 (DS (s:=gg.nodes)),hso (gl:=gl) 28 1 AjW (Nj Adk hn) h] (ac.imm r)
theorem Ahs(k:Nat):ba prog gl 27 [iG (k:Int)] (bG true):=by refine Gh func27 ?_;exact Ar [] []
theorem Aht{gg:Az}(hn:gg.nodes.length<=15){r:Ba}(h:Pa GL (VC (λ_=>true) gg.nodes)=some r)(hle:r.length=(VC (λ_=>true) gg.nodes).length):ba prog gl 8 [.ptr (Ag gg) 0] (aE aj r):=by have hN:=(Abg (gl:=gl) hn (fi:=27) (fa:=[]) (fc:=[]) ⟨aH,bf,bf,(by grind [Ahs])⟩ h hle).fn ac.sz (ac.len _) (ac.imm _);refine Gh func8 ?_;exact Ar [hf 4 hN] []
def Sm(gg:Az)(l:Ba):OP:=l.foldl (λs x=>match M2 gg x with|some y=>RX s y.past|none=>s) z4
theorem Afx(hg:Uv gg)(hn:ids.length<=1000000):ba prog gl 302 [.ptr (Ag gg) 0,aE aj ids] (.agg (FSq (Sm gg ids))):=by
 refine Gh func302 ?_;refine XU (l:=ids) aa (λk:Nat=>(s0 37 gl [(0,.ptr (Ag gg) 0),(4,.ref 0 0),(5,.ref 1 0),(10,aE aj ids),(11,iG (ah ids)),(12,iG (k:Int))] [(0,oA z4),(1,oA (Sm gg (ids.take k)))] 2 0)) 1110122 [] [] (λB k x hx hz k5=>?_) (λB=>?_) [] [(0,0),(1,1)] []
 .have hlt:=(cr hx).1;have e:Sm gg (ids.take (k+1))=match M2 gg x with|some y=>RX (Sm gg (ids.take k)) y.past|none=>Sm gg (ids.take k):=by unfold Sm;rw[JD,hx,Option.toList_some,Om];rfl
  rw[e] at k5;generalize Sm gg (ids.take k)=s at k5⊢;have hk:=H7 gg.at_ x;cases em:gg.at_.get x with
  |none=>rw[em] at hk;rw[X5 em] at k5;exact jw [hr 13 (CB hx),AB 14 (ac.ixZ hz),AB 15 (ac.ptZ aW hz),hm 22 hk,hbb 35 (Xl (q:=k) aa)] [] k5 [] [(0,0),(1,1)] []
  |some n=>rw[em] at hk;obtain⟨j,y,rfl,hy,e2,_⟩:=Uw hg em;rw[e2] at k5;exact jw [hr 13 (CB hx),AB 14 (ac.ixZ hz),AB 15 (ac.ptZ aW hz),hm 22 hk,AB 31 (az.ixZ hy),AB 33 (az.fsZ aap aaq 30 BU hy),tN 34 [1] 3 [(1,oA s)] [.ref 1 0,.agg (FSq y.past)] [(0,oA (RX s y.past))] (TX gl s y.past) ⟨⟨rfl,.inl rfl⟩,trivial⟩ ⟨⟨rfl,.inl rfl⟩,trivial⟩,hbb 35 (Xl (q:=k) aa)] [] k5 [] [(0,0),(1,1)] []
 .rw[EZ];exact Ar [hr 13 (DS (s:=ids))] []
theorem Ahu(s:OP)(hn:n<256):ba prog gl 40 [.ptr (FSq s) 0,iG (n:Int)] (bG (gW s n)):=by
 have h:=Xa (s:=s) hn;generalize gW s n=r at h⊢;have hm:u9 (n:Int) 64=some ((n%64:Nat):Int):=by grind [u9]
 have hcn:wJ ((n%64:Nat):Int)=some (n%64):=by grind [wJ]
 have hq:∀q:Nat,n/64=q->Gg (n:Int) 64=some (q:Int):=by grind [Gg,Mx]
 have hd:wI (Int.tdiv (n:Int) 64)=((n/64:Nat):Int):=by grind [bM]
 have ht:Int.tmod (n:Int) 64=((n%64:Nat):Int):=by grind
 unfold iX at h;rw[hd,ht,hcn] at h;refine Gh func40 ?_;have h4:n/64=0\/n/64=1\/n/64=2\/n/64=3:=aa;rcases h4 with e|e|e|e
 .rw[e] at h;obtain rfl:=Bp h;exact Ar [hbb 7 (Tt (hq 0 e)),hbb 12 (KO hm),hV 13 (Am (P:=prog) (t:=36) s.a0 hcn),hV 14 (ju (P:=prog) (t:=36) (JH s.a0 (n%64)) 1)] []
 .rw[e] at h;obtain rfl:=Bp h;exact Ar [hbb 7 (Tt (hq 1 e)),hbb 12 (KO hm),hV 13 (Am (P:=prog) (t:=36) s.a1 hcn),hV 14 (ju (P:=prog) (t:=36) (JH s.a1 (n%64)) 1)] []
 .rw[e] at h;obtain rfl:=Bp h;exact Ar [hbb 7 (Tt (hq 2 e)),hbb 12 (KO hm),hV 13 (Am (P:=prog) (t:=36) s.a2 hcn),hV 14 (ju (P:=prog) (t:=36) (JH s.a2 (n%64)) 1)] []
 .rw[e] at h;obtain rfl:=Bp h;exact Ar [hbb 7 (Tt (hq 3 e)),hbb 12 (KO hm),hV 13 (Am (P:=prog) (t:=36) s.a3 hcn),hV 14 (ju (P:=prog) (t:=36) (JH s.a3 (n%64)) 1)] []
theorem Ahv(s:OP):NmV gl 40 [.ptr (FSq s) 0] [] (gW s):=⟨aH,aY (aG 20 _ aH) bf,bf,(by grind [Ahu])⟩
theorem Ahw(hg:Uv gg)(hn:gg.nodes.length<=15){ids r:Ba}(hi:ids.length<=1000000)(h:Pa GL (VC (gW (Sm gg ids)) gg.nodes)=some r)(hle:r.length=(VC (gW (Sm gg ids)) gg.nodes).length):iV prog gl 203 [.ptr (Ag gg) 0,aE aj ids] 41 r.length (r.flatMap aj):=by refine OW func203 ?_;exact EI [hf 8 (Afx (gl:=gl) hg hi),ho 11 [.ptr (Ag gg) 0,.clo (.func 40) [.ptr (FSq (Sm gg ids)) 0] []] [] (Abg (gl:=gl) hn (Ahv _) h hle) (kF r)] (ac.imm r)
theorem Afy{l:Ba}{x:Ab}{i c:Nat}(hn:l.length<=100000):oJ prog gl 204 [.rsl i 0 l.length,.agg (aj x)] [(i,BA l)] c (bG (l.any λy=>decide (x=y))) [] c:=
 PO aH (Jq gl (Tk aa x)) (lR _) rfl λst h j y z h1 h2=>by
  match j with
  |0=>grind [Aay]
  |1=>cases h1;cases h2;exact jB (aG 20 (.agg (aj x)) aH)
  |j+2=>cases h1
def LA(I:Gi)(p l:Ba):Ba:=l.foldl (λr x=>bif 0<I.lev x then bif r.any λy=>decide (x=y)then r else r++[x]else r) p
theorem Abh{I:Gi}:∀{l p:Ba},(LA I p l).length<=p.length+l.length
 |[],p=>Dk _
 |x::l,p=>by have a:LA I p (x::l)=LA I (bif 0<I.lev x then bif p.any λy=>decide (x=y)then p else p++[x]else p) l:=rfl;rw[a];refine Nj Abh ?_;grind
theorem Afz(h:Np gl gg I){p:Ba}(hp:iV prog gl 203 [.ptr (Ag gg) 0,aE aj o.Past] 41 p.length (p.flatMap aj))(hn:p.length+o.Past.length<=100000):iV prog gl 118 [.ptr (Ag gg) 0,.agg (aJ o)] 41 (LA I p o.Past).length ((LA I p o.Past).flatMap aj):=by
 refine OW func118 ?_;refine XU (l:=o.Past) aa (λk:Nat=>(s0 35 gl [(0,.ptr (Ag gg) 0),(5,.rsl 0 0 (LA I p (o.Past.take k)).length),(13,aE aj o.Past),(14,iG (ah o.Past)),(15,iG (k:Int))] [(0,BA (LA I p (o.Past.take k)))] 1 0)) 1110122 [ho 11 [.ptr (Ag gg) 0,aE aj o.Past] [] hp (kF p)] [hc (el p),hc (ac.imm p)] (λB k x hx hz k5=>?_) (λB=>?_)
 .have hlt:=(cr hx).1;have hl:(LA I p (o.Past.take k)).length<=100000:=by grind [Abh]
  have e:LA I p (o.Past.take (k+1))=bif 0<I.lev x then bif(LA I p (o.Past.take k)).any λy=>decide (x=y)then LA I p (o.Past.take k)else LA I p (o.Past.take k)++[x]else LA I p (o.Past.take k):=by grind [LA,JD,Option.toList_some]
  rw[e] at k5;generalize LA I p (o.Past.take k)=l at k5 hl⊢;have b:=h.lev x;cases c1:decide (0<I.lev x) with
  |false=>rw[c1] at k5;exact jw [hr 16 (CB hx),AB 17 (ac.ixZ hz),AB 18 (ac.ptZ aW hz),hf 21 b,hr 22 c1,hbb 33 (Xl (q:=k) aa)] [hc (el l),hc (ac.imm l)] k5
  |true=>
   rw[c1] at k5;have a:=Afy (gl:=gl) (l:=l) (x:=x) (i:=0) (c:=2) hl;cases c2:(l.any λy=>decide (x=y)) with
   |true=>rw[c2] at k5 a;exact jw [hr 16 (CB hx),AB 17 (ac.ixZ hz),AB 18 (ac.ptZ aW hz),hf 21 b,hr 22 c1,Go.Proofs.YtjbfcillbjiajaaGreatDoor.hz 26 [0] a,hbb 33 (Xl (q:=k) aa)] [hc (el l),hc (ac.imm l)] k5
   |false=>rw[c2] at k5 a;exact jw [hr 16 (CB hx),AB 17 (ac.ixZ hz),AB 18 (ac.ptZ aW hz),hf 21 b,hr 22 c1,Go.Proofs.YtjbfcillbjiajaaGreatDoor.hz 26 [0] a,Tn 32 ac 24 l x aa,hbb 33 (Xl (q:=k) aa)] [hc (el (l++[x])),hc (ac.imm (l++[x]))] k5
 .rw[EZ];exact EI [hr 16 (DS (s:=o.Past))] (ac.imm (LA I p o.Past))
end
abbrev haS(R:Ad)(sen:Bn):Bn:=sen.filter (PR R)
abbrev Abi(l:Bn)(d:Int):Bool:= !(l.any λy=>decide (d=y))
def Ad5(fk:Bool)(R:Ad)(o:Bo)(i:Ab)(sen:Bn):Bn:=bif fk then[]else bif Uu R o≠0 then[]else haS (Wq R o i) sen++(Hx (Wq R o i)).filter (Abi (haS (Wq R o i) sen))
theorem Ahx(gl:CC)(R:Ad):InV gl 125 [.ptr (CO R) 0] [] (PR R):=⟨aH,aY (aG 20 (.ptr (CO R) 0) aH) bf,bf,λk r e=>by cases e;exact U0 gl rfl⟩
theorem Ahy(gl:CC){l:Bn}(hl:l.length<=1000000):InV gl 126 [] [.ptr [aE cZ l] 0] (Abi l):=⟨aH,bf,aY (aG 20 (.ptr [aE cZ l] 0) aH) bf,λk r e=>by cases e;exact U1 gl (by grind [S9,Tk])⟩
theorem Aci{gl:CC}(hR:Bi R){l:Bn}(hl:l.length<=1000000){f:Nat->Nat}{c:Nat}(hnd:(YA f).Nodup):oJ prog gl 123 [aE cZ l,.clo (.func 125) [.ref (f 0) 0] []] (BW f R) c (.rsl c 0 (haS R l).length) [(c,some ⟨3,(haS R l).flatMap cZ,none⟩)] (c+1):=
 AdE aH (Adj (Ahx gl R) hl) (lZ _) rfl λst h i x y h1 h2=>by
  have hs:Rls f R st.σ:=λk ob ho=>h _ _ (by rw[Ht,LX (by grind [Acs]) (List.mem_range.2 (D4 ho))];exact ho)
  match i with
  |0=>cases h1;cases h2;exact jB (aG 20 (aE cZ l) aH)
  |1=>cases h1;cases h2;refine SX rfl rfl (λj g d a b=>?_) (by grind);grind [AfJ]
  |i+2=>cases h1
section
variable {gg:Az} {I:Gi} (h:Np fI gg I) {o:Bo} {i:Ab} {s:Ba} (hS:iV prog fI 118 [.ptr (Ag gg) 0,.agg (aJ o)] 41 s.length (s.flatMap aj)) {fr:List Bg} (hF:ba prog fI 120 [.ptr (Ag gg) 0,aE aj s] (aE Bv fr)) {fk:Bool} (hK:Aa7 fr (λf=>JL f o)=some fk) {R:Ad} (hR:Bi R) (hRl:SA prog fI 36 [.ptr (Ag gg) 0,aE aj s] [] 0 0 (.ref 0 0) (BW f0 R)) (hi:ba prog fI 100 [.agg (aJ o)] (.agg (aj i))) (hg:o.Guards.length<=1000000) (hp:Uu R o=0->Wv o i) {sen:Bn} (hN:ba prog fI 124 [.ptr (Ag gg) 0,aE aj s] (aE cZ sen)) (hn:sen.length<=1000)
include hS hF hK hR hRl hi hg hp hN hn
theorem AfA:iV prog fI 61 [.ptr (Ag gg) 0,.agg (aJ o)] 3 (Ad5 fk R o i sen).length ((Ad5 fk R o i sen).flatMap cZ):=by
 have a:=hS.fn ac.sz (ac.len _) (ac.imm _);have b:=MJ fI (fi_f:=121) (fa_f:=[]) (fc_f:=[.ptr (aJ o) 0]) ⟨aH,bf,aY (aG 20 (.ptr (aJ o) 0) aH) bf,λf r e=>UU fI e⟩ hK;refine OW func61 ?_;unfold Ad5;cases fk with
 |true=>exact EI [hf 11 a,hf 14 hF,hq 16 [aE Bv fr,.clo (.func 121) [] [.ptr (aJ o) 0]] [] b] (rZ.imm [])
 |false=>
 rw[Bf];have hM:=Agk hR (o:=o) (i:=i) hg;generalize Uu R o=mm at hM hp⊢;cases cm:decide (mm≠0) with
 |true=>exact EI [hf 11 a,hf 14 hF,hq 16 [aE Bv fr,.clo (.func 121) [] [.ptr (aJ o) 0]] [] b,hrn 19 2 [.ptr (Ag gg) 0,aE aj s] hR hRl,hf 21 hi,hrr 25 (Qt 2) 16 [.agg (aJ o),.agg (aj i)] hR hM,hr 26 cm] (rZ.imm [])
 |false=>
  rw[Bf];have hp:=hp (Decidable.of_not_not (Ni cm));have hD:=Agc fI hR hp;have hQ:=Sb hR hp;generalize Wq R o i=Q at hD hQ⊢;have hdl:(Hx Q).length<=1000:=by grind [List.Perm.length_eq,OJ,Gq,Bi.len]
  have hv:=Su fI hQ;have hl:(haS Q sen).length<=1000:=by grind
  have d:=Adj (Ahy fI (l:=haS Q sen) aa) (l:=Hx Q) aa;have hap:aT 8 (haS Q sen) ((Hx Q).filter (Abi (haS Q sen)))=some (haS Q sen++(Hx Q).filter (Abi (haS Q sen))):=BB (by grind);have g:=Aci (gl:=fI) hQ (l:=sen) aa (f:=f0) (c:=14) BU;refine pO 1111110 (s0 43 fI [(0,.ptr (Ag gg) 0),(3,.ptr (aJ o) 0),(5,aE aj s),(6,.ref 0 0),(7,.ref 14 0)] (BW f0 R++[(14,Po i)]) 15 0) [hf 11 a,hf 14 hF,hq 16 [aE Bv fr,.clo (.func 121) [] [.ptr (aJ o) 0]] [] b,hrn 19 2 [.ptr (Ag gg) 0,aE aj s] hR hRl,hf 21 hi,hrr 25 (Qt 2) 16 [.agg (aJ o),.agg (aj i)] hR hM,hr 26 cm] (hc (eB (gs:=aJ o) aH)::rlB (Ge (Qt 2)++[(14,1)]) (Qt 2) hR) ?_ (ρ:=Ge (Qt 2)++[(14,1)]) (kd:=N5);refine pO 11111110 (s0 43 fI [(0,.ptr (Ag gg) 0),(5,aE aj s),(6,.ref 0 0)] (BW f0 Q) 14 0) [hrw 30 f0 15 [.agg (aJ o),.agg (aj i)] hR hQ hD] (rlB (Ge (fW f0 15)) (fW f0 15) hQ) ?_ (ρ:=Ge (fW f0 15)) (kd:=N5);refine pO 111111110 (s0 43 fI [(6,.ref 0 0),(8,.ref 14 0)] (BW f0 Q++[ob 14 22 [.rsl 15 0 (haS Q sen).length],(15,KY (haS Q sen))]) 16 0) [hf 33 hN,hz 36 (YA f0) g] (rlB (Ge f0++[(14,15),(15,14)]) f0 hQ++[hc (el (haS Q sen)),hc (rZ.imm (haS Q sen))]) ?_ (ρ:=Ge f0++[(14,15),(15,14)]) (kd:=N5++[(15,.row)]);exact EI [hrr 39 f0 17 [] hQ hv,ho 41 [aE cZ (Hx Q),.clo (.func 126) [] [.ptr [aE cZ (haS Q sen)] 0]] [hc (rZ.al (haS Q sen))] d (lZ _),dg 42 rZ hap] (rZ.imm _)
end
section
section
variable {P:Bu}
section
variable {ops:Array Oper} {K:St->Prop} {ty:Bj} {pos:String} {af:Array Edge} {rest:HE} {n:Nat} {gl:CC} {fr:Fr} {σ:aQ} {c p d j:Nat} {bars:Br} {rr:Bool}
theorem Amc{gq:Option (Nat×Bool)}(hw:ce ⟨n,gl,fr,σ,c,p,rr⟩ ops ⟨some d,op,ty,pos,af,gq⟩=some false)(hd:d<n)(h:D8 P ops K rest ⟨n,gl,(d,.lit undef)::fr,σ,c,p,rr⟩):D8 P ops K (⟨some d,op,ty,pos,af,gq⟩::rest) ⟨n,gl,fr,σ,c,p,rr⟩:=by unfold D8;exact .inr ⟨hw,(by grind),h⟩
end
end
section
variable {P:Bu} {ops:Array Oper} {K:St->Prop} {op:Op} {ty:Bj} {pos:String} {af:Array Edge} {rest:HE} {n:Nat} {gl:CC} {fr:Fr} {σ:aQ} {c p d j:Nat} {bars:Br} {rr:Bool} {gq:Option (Nat×Bool)}
theorem zn(h:D8 P ops K rest ⟨n,gl,(d,.lit undef)::fr,σ,c,p,rr⟩)(hw:ce ⟨n,gl,fr,σ,c,p,rr⟩ ops ⟨some d,op,ty,pos,af,gq⟩=some false:=by kernel_rfl)(hd:d<n:=by decide):D8 P ops K (⟨some d,op,ty,pos,af,gq⟩::rest) ⟨n,gl,fr,σ,c,p,rr⟩:=Amc hw hd h
end
end
theorem Aom:bw prog 70=some 27:=aH
theorem AjX(l:Mi):∀g∈l.flatMap bv,∃v,g= .lit v:=by grind [bv]
section
def IH(g:Az)(a:Ab):Option (Bo×Bool):=
 bif(!((g.at_.get a).isSome))then(some (⟨0,0,0,0,[],0,0,0,0,[],⟨0,0,0⟩,0,[],[],⟨0,0,0⟩,[],0,0,[],0,[],⟨0,0⟩⟩,false))else((aS g.nodes (FR (g.at_.get a))).bind λb=>(pG b.o).bind λv4=>some (v4,true))
theorem Nz{g id_}:DL prog gl (IH g id_) 24 [.ptr (Ag g) 0,.agg (aj id_)] (λr=> .tup [.agg (aJ r.1),bG r.2]):=
 cy func24 λK=>aw [hm 14 (H7 g.at_ id_)]<|aF 18 (rv K)<|CD 25 az.ixZ 27 (az.fsZ GN Aom 0 BU) λa=>BG 28 (Ds gl) λv4=>rv K
def KF(g:Az):Option Mi:=
 (Fl g.cards).bind λv1=>some v1
theorem RY{g}:M5 prog gl (KF g) 71 [.ptr (Ag g) 0] 147 bv:=
 gc func71 λK=>ak λv1 e2=>aw [ho 7 [aE bv g.cards] [] (tn gl e2) (AjX v1)]<|mr c0 K (bT.imm _)
end
theorem sP(a:Ab):dt a a=false:=by grind [ye]
theorem Uo{a b:Ab}(h1:dt a b=false)(h2:dt b a=false):a=b:=by
 have n1:¬dt a b=true:=by rw[h1];simp
 have n2:¬dt b a=true:=by rw[h2];simp
 rw[ye] at n1 n2;obtain⟨a1,a2,a3⟩:=a;obtain⟨b1,b2,b3⟩:=b;grind
theorem AfB(hn:gg.cards.length<=1000)(d:Int):hY gg d=some (((gg.cards.find? λc=>decide (c.Device=d)).getD XV),(gg.cards.find? λc=>decide (c.Device=d)).isSome):=by
 unfold hY;refine T.eq (.bind (T.forA gg.cards.length (λk acc=>∀(j:Nat) (c:DR),j<k->gg.cards[j]?=some c->c.Device≠d) aa (by grind) (λk acc hk hj=>?_) λacc hj=>?_))
 .obtain⟨x,hx⟩:∃x,gg.cards[k]?=some x:=⟨_,EA hk⟩;unfold ij;dsimp only;rw[eA hk,ax,au,hx,aL];refine .dec (λe=> .some (.some ?_)) λe=> .some ⟨aq aa,λj c' hjk a=>?_⟩
  .grind [List.find?_eq_some_iff_getElem]
  grind
 .unfold ij;dsimp only;rw[eF,Bf];have hf:gg.cards.find? (λc=>decide (c.Device=d))=none:=by grind [Gu]
  rw[hf];exact .some (.some rfl)
theorem Ahz{i:Int}{x:C5}(hx:aS N i=some x)(hn:n<256){r:Bool}(h:iX x.past (n:Int)=some r):ba prog fI 40 [.ptr (N.flatMap d7) (i.toNat*35+30),iG (n:Int)] (bG r):=by
 have hm:u9 (n:Int) 64=some ((n%64:Nat):Int):=by grind [u9]
 have hcn:wJ ((n%64:Nat):Int)=some (n%64):=by grind [wJ]
 have hq:∀q:Nat,n/64=q->Gg (n:Int) 64=some (q:Int):=by grind [Gg,Mx]
 have hd:wI (Int.tdiv (n:Int) 64)=((n/64:Nat):Int):=by grind [bM]
 have ht:Int.tmod (n:Int) 64=((n%64:Nat):Int):=by rw[Int.tmod_eq_emod_of_nonneg aa];rfl
 unfold iX at h;rw[hd,ht,hcn] at h;refine Gh func40 ?_;have h4:n/64=0\/n/64=1\/n/64=2\/n/64=3:=aa;rcases h4 with e|e|e|e
 .rw[e] at h;obtain rfl:=Bp h;exact Ar [hbb 7 (Tt (hq 0 e)),AB 10 (az.fdZ tW 30 hx),hbb 12 (KO hm),hV 13 (Am (P:=prog) (t:=36) x.past.a0 hcn),hV 14 (ju (P:=prog) (t:=36) (JH x.past.a0 (n%64)) 1)] []
 .rw[e] at h;obtain rfl:=Bp h;exact Ar [hbb 7 (Tt (hq 1 e)),AB 10 (az.fdZ tW 31 hx),hbb 12 (KO hm),hV 13 (Am (P:=prog) (t:=36) x.past.a1 hcn),hV 14 (ju (P:=prog) (t:=36) (JH x.past.a1 (n%64)) 1)] []
 .rw[e] at h;obtain rfl:=Bp h;exact Ar [hbb 7 (Tt (hq 2 e)),AB 10 (az.fdZ tW 32 hx),hbb 12 (KO hm),hV 13 (Am (P:=prog) (t:=36) x.past.a2 hcn),hV 14 (ju (P:=prog) (t:=36) (JH x.past.a2 (n%64)) 1)] []
 .rw[e] at h;obtain rfl:=Bp h;exact Ar [hbb 7 (Tt (hq 3 e)),AB 10 (az.fdZ tW 33 hx),hbb 12 (KO hm),hV 13 (Am (P:=prog) (t:=36) x.past.a3 hcn),hV 14 (ju (P:=prog) (t:=36) (JH x.past.a3 (n%64)) 1)] []
theorem Xj(h:Uv gg):Np fI gg (R0 gg) where
 op x:=by
  cases e:gg.at_.get x with
  |none=>
   have hr:IH gg x=some ((R0 gg).o x,((R0 gg).op x).isSome):=by grind [IH,Gi.o,R0,X5]
   exact Nz fI hr
  |some n=>
   obtain⟨k,y,rfl,hz,hn,hk,hm⟩:=Uw h e;have hr:IH gg x=some ((R0 gg).o x,((R0 gg).op x).isSome):=by grind [IH,Gi.o,R0,FR,Option.isSome_some,Uv.cl]
   exact Nz fI hr
 bef x y:=by
  refine Gh func15 ?_;refine pO [1,0] (s0 44 fI [(0,.ptr (Ag gg) 0),(4,.ref 0 0),(5,.ref 1 0)] [(0,Po x),(1,Po y)] 2 0) [] [] ?_ [] [(0,0),(1,1)];show Gp _ _ (tH _ _ (bG (Agr gg x y))) _ _ _ _;unfold Agr;have h1:=H7 gg.at_ x;have h2:=H7 gg.at_ y;unfold FR at h1 h2;cases e1:gg.at_.get x with
  |none=>rw[e1] at h1;exact Ar [hm 17 h1,hm 26 h2] []
  |some n=>
   rw[e1] at h1;cases e2:gg.at_.get y with
   |none=>rw[e2] at h2;rw[X5 e2];exact Ar [hm 17 h1,hm 26 h2] []
   |some q=>rw[e2] at h2;obtain⟨k,b,rfl,hz,hn,hk,hmm⟩:=Uw h e2;obtain⟨j,a,rfl,_,_,hj,_⟩:=Uw h e1;rw[hn];exact Ar [hm 17 h1,hm 26 h2,AB 39 (az.ixZ hz),hf 42 (Ahz hz hj (Xa hj))] []
 lev x:=by
  refine HR fI ?_;unfold Fj FR;cases e:gg.at_.get x with
  |none=>show _=some (match M2 gg x with|some y=>y.level|none=>0);rw[X5 e];rfl
  |some n=>obtain⟨k,y,rfl,hz,hn,hk,hm⟩:=Uw h e;show _=some (match M2 gg x with|some y=>y.level|none=>0);grind
 cards:=by
  have hr:KF gg=some gg.cards:=by grind [KF,Fl,aT,Uv.nc]
  exact(RY fI hr).fn aH (bT.len _) (bT.imm _)
 card d:=uN fI (AfB h.nc d)
section
section
variable {g:Bc} {m:Jb} {N:I4}
theorem UG(w:G9 g)(p:Ou g m N):Uv ⟨g.Cards,m,N⟩ where
 pos x n e:=by have e:m.get x=some n:=e;rw[p.get] at e;cases hk:bu x g.IDs<;>grind [AbC]
 cl y hy:=by grind [Ou,Gu,RM,G9.ops]
 nc:=w.nC
end
end
section
theorem Ad6(a:Ab):¬GL a a<0:=by grind [Rh,sP]
theorem Td{a b:Ab}:M3 I a b<0↔I.lev a<I.lev b\/(I.lev a=I.lev b/\dt a b=true):=by grind [M3,Rh,AbD]
theorem XI{I:Gi}(a:Ab):¬M3 I a a<0:=by grind [Td,sP]
theorem aae(I:Gi):OrN (M3 I) λ_=>True:=by grind [OrN,Td,dt,EX]
section
variable {gl:CC}
end
end
theorem Acj(hl:ids.length<=1000000)(d s:Int):Vq ids d s=some (OY ids ⟨d,s⟩:Int):=by
 refine T.eq ?_;unfold Vq;refine .bind ((T.forA ids.length (λk n=>n=(OY (ids.take k) ⟨d,s⟩:Int)) aa rfl (λk n hk hn=>?_) λn hn=>?_).mono (Q:=λn:Int=>n=(OY ids ⟨d,s⟩:Int)) λn hn=> .some hn)
 .obtain⟨y,hy,_⟩:=Hm hk;unfold uf;simp only[eA hk,ax,au,hy,aL];have h1:=T0 (ids.take k) y ⟨d,s⟩;have h2:=AgR (ids.take k) ⟨d,s⟩;rw[Lv] at h2;rw[<-Rb hy] at h1;simp only[Bg.mk.injEq] at h1;have yes:y.By=d->y.Seq=s->wI (n+1)=(OY (ids.take (k+1)) ⟨d,s⟩:Int):=by grind [bM]
  have no:¬(y.By=d/\y.Seq=s)->n=(OY (ids.take (k+1)) ⟨d,s⟩:Int):=by grind
  by_cases c1:y.By=d
  .by_cases c2:y.Seq=s
   .simp only[c1,c2,decide_true,ax,aL];exact .some ⟨aq aa,yes c1 c2⟩
   .simp only[c1,c2,decide_true,decide_false,ax,Bf,aL];exact .some ⟨aq aa,no λc=>c2 c.2⟩
  .simp only[c1,decide_false,Bf,aL];exact .some ⟨aq aa,no λc=>c1 c.1⟩
 .unfold uf;dsimp only;rw[eF,Bf];refine .some (show n=_ from ?_);rw[hn,EZ]
def FsI(ids p:Ba)(d v:Int):Prop:=(v=0/\∀y∈p,y.By=d->¬2<=OY ids ⟨d,y.Seq⟩)\/(∃y∈p,y.By=d/\y.Seq=v/\2<=OY ids ⟨d,v⟩/\∀z∈p,z.By=d->2<=OY ids ⟨d,z.Seq⟩->v<=z.Seq)
theorem UH{ids:Ba}(hl:ids.length<=1000000)(hs:∀x∈ids,1<=x.Seq)(d:Int):T (qN ids d) (FsI ids ids d):=by
 unfold qN;refine .bind ((T.forA ids.length (λk v=>FsI ids (ids.take k) d v) aa (.inl ⟨rfl,λy hy=>by cases hy⟩) (λk v hk hv=>?_) λv hv=>?_).mono (Q:=FsI ids ids d) λv hv=> .some hv)
 .obtain⟨y,hy,hm⟩:=Hm hk;unfold qM;simp only[eA hk,ax,au,hy,aL,Acj hl];have a:=hs y hm;have keep:(y.By=d->2<=OY ids ⟨d,y.Seq⟩->v≠0/\v<=y.Seq)->FsI ids (ids.take (k+1)) d v:=λh=>by
   rw[Rb hy];rcases hv with⟨h1,h2⟩|⟨z,h1,h2,h3,h4,h5⟩
   .refine .inl ⟨h1,λz hz hb hc=>?_⟩;rcases JF.1 hz with hz|hz
    .exact h2 z hz hb hc
    .simp at hz;subst hz;exact(h hb hc).1 h1
   .refine .inr ⟨z,by simp[h1],h2,h3,h4,λw hw hb hc=>?_⟩;rcases JF.1 hw with hw|hw
    .exact h5 w hw hb hc
    .simp at hw;subst hw;exact(h hb hc).2
  have new:y.By=d->2<=OY ids ⟨d,y.Seq⟩->(v=0\/y.Seq<v)->FsI ids (ids.take (k+1)) d y.Seq:=λhb hc h=>by
   rw[Rb hy];refine .inr ⟨y,aC,hb,rfl,hc,λw hw hb' b=>?_⟩;rcases JF.1 hw with hw|hw
   .rcases hv with⟨h1,h2⟩|⟨z,h1,h2,h3,h4,h5⟩
    all_goals grind
   grind
  by_cases c1:y.By=d
  .by_cases c2:2<=OY ids ⟨d,y.Seq⟩
   .have c2':(1:Int)<(OY ids ⟨d,y.Seq⟩:Int):=aa;by_cases c3:v=0
    .simp only[c1,c2',c3,decide_true,ax,aL];exact .some ⟨aq aa,new c1 c2 (.inl c3)⟩
    .by_cases c4:y.Seq<v
     .simp only[c1,c2',c3,c4,decide_true,decide_false,ax,Bf,aL];exact .some ⟨aq aa,new c1 c2 (.inr c4)⟩
     .simp only[c1,c2',c3,c4,decide_true,decide_false,ax,Bf,aL];exact .some ⟨aq aa,keep λ_ _=>⟨c3,aa⟩⟩
   .have c2':¬(1:Int)<(OY ids ⟨d,y.Seq⟩:Int):=aa;simp only[c1,c2',decide_true,decide_false,ax,Bf,aL];exact .some ⟨aq aa,keep λ_ h=>absurd h c2⟩
  .simp only[c1,decide_false,Bf,aL];exact .some ⟨aq aa,keep λh=>absurd h c1⟩
 .unfold qM;dsimp only;rw[eF,Bf];rw[EZ] at hv;exact .some hv
theorem Ad7(hs:∀x∈ids,1<=x.Seq){v:Int}(h:FsI ids ids y.By v):voP ids y=(decide (0<v)&&decide (v<=y.Seq)):=by
 rw[Bool.eq_iff_iff];unfold voP;rw[List.any_eq_true];simp only[bA,decide_eq_true_eq];refine⟨λ⟨z,hz,h1,h2,h3⟩=>?_,λ⟨h1,h2⟩=>?_⟩
 .rcases h with⟨_,h5⟩|⟨w,k1,k2,k3,a,k5⟩
  all_goals grind
 .rcases h with⟨h5,_⟩|⟨w,k1,k2,k3,a,k5⟩
  all_goals grind
theorem Ack{ids:Ba}(hl:ids.length<=100000)(hd:ids.Nodup)(hs:∀x∈ids,1<=x.Seq):T (vJ ids) λr=>r.Perm (ids.filter (voP ids))/\r.Pairwise λx y=>GL x y<0:=by
 unfold vJ;refine .bind ((T.forA ids.length (λk acc=>acc=(ids.take k).filter (voP ids)) aa aC (λk acc hk hj=>?_) λacc hj=>?_).mono (Q:=λacc=>acc=ids.filter (voP ids)) λx hx=> .bind ((kg ?_).mono λv hv=> .some ?_))
 .obtain⟨y,hy,hm⟩:=Hm hk;unfold un;simp only[eA hk,ax,au,hy,aL];have hla:acc.length<=k:=by grind
  have e:(ids.take (k+1)).filter (voP ids)=acc++(if voP ids y then[y] else[]):=by rw[Rb hy,Se,<-hj];cases hp:voP ids y<;>simp[hp]
  refine .bind ((UH aa hs y.By).mono λv hv=>?_);have hq:=Ad7 hs hv;by_cases c1:0<v
  .by_cases c2:v<=y.Seq
   .simp only[c1,c2,decide_true,ax,aL];rw[hq,C6 c1,C6 c2] at e;exact .bind (.app cq (.some ⟨aq aa,by rw[e];rfl⟩))
   .simp only[c1,c2,decide_true,decide_false,ax,Bf,aL];rw[hq,C6 c1,Dl c2] at e;exact .some ⟨aq aa,by rw[e];simp⟩
  .simp only[c1,decide_false,Bf,aL];rw[hq,Dl c1] at e;exact .some ⟨aq aa,by rw[e];simp⟩
 .unfold un;dsimp only;rw[eF,Bf];refine .some (show acc=_ from ?_);rw[hj,EZ]
 .grind
 .refine⟨hx▸hv.1,?_⟩;have hn:v.Nodup:=by grind
  refine(hv.2.and hn).imp λ{a b} h=>Rh.2 ?_;cases h1:dt a b with
  |true=>rfl
  |false=>exact absurd (Uo h1 h.1) h.2
section
section
variable {g:Bc} {m:Jb} {N:I4}
theorem Uq(w:G9 g)(p:Ou g m N){i:Nat}(h:g.IDs[i]?=some x):∃y,N[i]?=some y/\(Dd g m N).lev x=y.level/\0<=y.level/\y.level<=(i:Int)+1:=by obtain⟨y,h1,h2,h3⟩:=AbC w p (Pr w h);refine⟨y,h1,?_,(p.nd i y h1).2.2.2⟩;show(match M2 ⟨g.Cards,m,N⟩ x with|some y=>y.level|none=>0)=_;rw[Sw w p,Pr w h];grind
theorem Ad8(w:G9 g)(p:Ou g m N):nZ g=some (N.map (·.level)):=by
 have nL:=w.nL;have nU:=w.nU;have pl:=p.len;refine T.eq ?_;unfold nZ;refine .bind (T.mono (Q:=λr=>r=N.map (·.level)) (T.forA g.L.length (λk acc=>acc=(N.take k).map (·.level)) aa aC (λk acc hk hj=>?_) λacc hj=>?_) λx hx=> .some hx)
 .obtain⟨u,hu,_⟩:=Hm (l:=g.Up) (k:=k) aa;obtain⟨y,hy,_⟩:=Hm (l:=N) (k:=k) aa;obtain⟨u1,e⟩:=w.up k u hu;have b:=p.lv k y u hy hu;unfold pd;dsimp only;rw[eA hk,ax];have hla:acc.length=k:=by grind
  have hin:AH (iP g (acc,(k:Int))) (1,0)=some y.level:=by
   refine T.eq ?_;refine T.loop (λs=>∃j:Nat,j<=u.length/\s.2=(j:Int)/\s.1=lvF N (u.take j)) (λs=>u.length-s.2.toNat) ⟨0,aa,rfl,rfl⟩ cq ?_;rintro⟨a,i⟩ ⟨j,f,rfl,rfl⟩;unfold iP;simp only[au,hu,aL];rcases JB j u.length with hlt|hge
   .obtain⟨z,hz,hm⟩:=Hm hlt;obtain⟨h,o⟩:=e z hm;obtain⟨n,rfl⟩:∃n:Nat,z=(n:Int):=⟨z.toNat,aa⟩;obtain⟨v,hv,_⟩:=Hm (l:=N) (k:=n) aa;have hb:=(p.nd n v hv).2.2.2;have ha:acc[n]?=some v.level:=by grind
    rw[eA hlt,ax,hz,aL,au,ha,aL,bM aa aa];refine .some ⟨⟨j+1,aa,aq aa,?_⟩,?_⟩
    .rw[Rb hz,Abf];grind [lvN]
    grind [aq]
   .obtain rfl:j=u.length:=aa;rw[eF,Bf,EZ];exact .some b.symm
  rw[hin,aL];refine .bind (.app cq (.some ⟨aq aa,?_⟩));rw[Rb hy,List.map_append,hj];rfl
 .unfold pd;dsimp only;rw[eF,Bf];refine .some (show acc=_ from ?_);rw[hj,<-pl,EZ]
theorem Sa(w:G9 g)(p:Ou g m N){i:Nat}(hx:g.IDs[i]?=some x)(hy:g.IDs[k]?=some y):vI g (N.map (·.level)) (i:Int) (k:Int)=some (decide (M3 (Dd g m N) x y<0)):=by
 obtain⟨a,h1,h2,_⟩:=Uq w p hx;obtain⟨b,h3,h4,_⟩:=Uq w p hy;have e1:(N.map (·.level))[i]?=some a.level:=by rw[Mu,h1];rfl
 have e2:(N.map (·.level))[k]?=some b.level:=by rw[Mu,h3];rfl
 grind [vI,au,pJ,Td]
theorem AjZ{cmp:α->α->Int}(hO:OrN cmp λ_=>True){l:List α}{x:α}(hp:l.Pairwise λa b=>cmp a b<0)(h1:∀i y,i<j->l[i]?=some y->cmp y x<0)(h2:∀y,l[j]?=some y->¬cmp y x<0)(hx:x∉l):(l.take j++[x]++l.drop j).Pairwise λa b=>cmp a b<0:=by
 have hpj:(l.take j++l.drop j).Pairwise λa b=>cmp a b<0:=by rw[Pw];exact hp
 rw[List.pairwise_append] at hpj;have hlt:∀a∈l.take j,cmp a x<0:=by grind [Gu]
 have hgt:∀b∈l.drop j,cmp x b<0:=by grind [OrN,List.drop_eq_nil_of_le,List.drop_eq_getElem_cons,List.pairwise_cons]
 grind
theorem UI(w:G9 g)(p:Ou g m N)(hl:ids.length<=1000)(hd:ids.Nodup)(hm:∀x∈ids,x∈g.IDs):T (n8 g ids) λr=>r.Perm ids/\r.Pairwise λx y=>M3 (Dd g m N) x y<0:=by
 have nL:=w.nL;have nI:=w.nI;unfold n8;rw[Ad8 w p,aL];refine .bind (T.mono (Q:=λx:Bn=>EF g x/\(I9 g x).Perm ids/\(I9 g x).Pairwise λx y=>M3 (Dd g m N) x y<0) (T.forA ids.length (λk acc=>EF g acc/\(I9 g acc).Perm (ids.take k)/\(I9 g acc).Pairwise λx y=>M3 (Dd g m N) x y<0) aa ⟨.nil,by simp[I9],.nil⟩ (λk acc hk hj=>?_) λacc hj=>?_) λf h4=>?_)
 .obtain⟨y,hy,l⟩:=Hm hk;obtain⟨b,hj2,o⟩:=hj;obtain⟨i,hi⟩:=Gu (hm y l);have hil:i<g.IDs.length:=(cr hi).1;have hpz:gO g y=(i:Int):=by unfold gO;rw[Pr w hi]
  have hal:acc.length<=k:=by grind [List.Perm.length_eq,Gq,Lv]
  have hny:y∉I9 g acc:=by grind [Gu,Nf]
  unfold qU;simp only[eA hk,ax,au,hy,aL,qR,dC (show g.IDs.length<=1000000 by omega),hpz];rw[show decide ((i:Int)<0)=false from Dl aa,Bf];refine .bind (T.mono (Q:=λn:Int=>∃j:Nat,n=(j:Int)/\j<=acc.length/\(∀q z,q<j->(I9 g acc)[q]?=some z->M3 (Dd g m N) z y<0)/\∀z,(I9 g acc)[j]?=some z->¬M3 (Dd g m N) z y<0) (T.forI acc.length (λj=>∀q z,q<j->(I9 g acc)[q]?=some z->M3 (Dd g m N) z y<0) aa (λq z h=>aa) (λj hjl hq=>?_) λhq=>?_) λn hn=>?_)
  .obtain⟨z,hz,s⟩:=Hm hjl;obtain⟨A,zn,rfl,t,a,hzz⟩:=Ps w b hz;unfold qT;simp only[eA hjl,ax,au,hz,aL,Sa w p a hi];refine .dec (λhc=> .some ⟨aq aa,λq B u hz'=>?_⟩) λhc=> .some ⟨j,rfl,aa,hq,λB hz'=>?_⟩;all_goals grind
  .unfold qT;dsimp only;rw[eF,Bf,aL,Bf];refine .some ⟨acc.length,rfl,Dk _,hq,λz hz=>?_⟩;grind
  .obtain⟨j,rfl,hjl,q1,v⟩:=hn;refine .bind (.pre aa aa (.bind (.app cq (.bind (.app cq (.bind (.suf aa aa (.bind (.app cq (.some ⟨aq aa,?_,?_⟩))))))))))
   .intro x hx;have:x∈acc++[(i:Int)]:=by grind
    exact b.snoc aa x this
   .have e:I9 g ([]++acc.take (j:Int).toNat++[(i:Int)]++acc.drop (j:Int).toNat)=(I9 g acc).take j++[y]++(I9 g acc).drop j:=by grind [Fw,List.map_take,List.map_drop]
    rw[e];refine⟨?_,AjZ (aae _) o q1 v hny⟩;grind [Rb,Cy]
 .unfold qU;dsimp only;rw[eF,Bf];rw[EZ] at hj;exact .some hj
 .obtain⟨h1,h2,h3⟩:=h4;refine .bind (T.mono (Q:=λr:Ba=>r=I9 g f) (T.forA f.length (λk acc=>acc=(I9 g f).take k) (by grind [List.Perm.length_eq,Gq]) aC (λk acc hk hj=>?_) λacc hj=>?_) (by grind [T.some]))
  .obtain⟨z,hz,s⟩:=Hm hk;obtain⟨A,zn,rfl,t,a,hzz⟩:=Ps w h1 hz;have hxl:f.length<=1000:=by grind [List.Perm.length_eq]
   have hal:acc.length<=k:=by rw[hj,Lv];omega
   unfold qS;simp only[eA hk,ax,au,hz,a,aL];refine .bind (.app cq (.some ⟨aq aa,?_⟩));rw[Rb hzz,hj]
  .unfold qS;dsimp only;rw[eF,Bf];refine .some (show acc=_ from ?_);grind [Gq]
end
end
section
theorem Adl{N:I4}{u:Bn}:1<=lvF N u:=by
 have key:∀(l:Bn) (a:Int),1<=a->1<=l.foldl (λa j=>Fv a (lvN N j+1)) a:=by intro l;induction l<;>grind [Fv]
 exact key u 1 (Int.le_refl _)
theorem Abj{a b:Ba}(h:a.Perm b)(f:Bg):OY a f=OY b f:=(h.filter _).length_eq
theorem AfC{a b:Ba}(h:a.Perm b)(x:Ab):voP a x=voP b x:=by grind [voP,Abj]
section
variable {g:Bc} {m:Jb} {N:I4} (P:Pg g m N)
include P
end
end
abbrev bdH(x:Aj):Prop:=0<=x.n/\x.n<=1000
abbrev BN:Type:={x:Aj//bdH x}
instance:Inhabited BN:=⟨⟨LL,BU⟩⟩
def eBN(x:BN):List Value:=f7 x.1
def cfH(a b:BN):Int:=bif dt a.1.commit b.1.commit then-1 else bif dt b.1.commit a.1.commit then 1 else a.1.n-b.1.n
def ltN(a b:Aj):Bool:=bif dt a.commit b.commit then true else bif a.commit=b.commit then decide (a.n<b.n)else false
theorem Ue(a b:BN):ltOf cfH a b=ltN a.1 b.1:=by show decide (cfH a b<0)=_;grind [cfH,ltN,Uo]
theorem abb(a:Aj):ltN a a=false:=by grind [ltN,sP]
theorem abc{a b c:Aj}(h1:ltN a b=true)(h2:ltN b c=true):ltN a c=true:=by grind [ltN,R6]
theorem Vx{a b:Aj}(h1:ltN a b=false)(h2:ltN b a=false):a=b:=by unfold ltN at*;have t:= @Uo a.commit b.commit;obtain⟨x,i⟩:=a;obtain⟨y,j⟩:=b;grind
theorem AnU:SWO (ltOf cfH):=by grind [Ue,SWO,abb,abc,Vx]
theorem Aa2(x y:BN):wz x.1 y.1=some (cfH x y):=by grind [wz,cfH,EW,bM]
theorem OU.p{P:Bu}{gl:CC}{f:FuncId}{gs:Bk}{σ0:aQ}{c0 p:Nat}{r:G}{σ1:aQ}(h:OU P gl f gs σ0 c0 p r σ1):SA P gl f gs σ0 c0 p r σ1:=λw β S vs a b c d e i=>(h w β S vs a b c d e i).mono λx w' ⟨v,β',e,m⟩=>⟨v,β',e,⟨(by grind [ZX.pin]),m.rs,m.old,m.val,m.keep⟩⟩
theorem Ag7(hp:l.Perm r)(h1:l.Pairwise λx y=>ltN x y=true)(h2:r.Pairwise λx y=>ltN x y=true):l=r:=by grind [List.Perm.eq_of_pairwise,abc,abb]
theorem AeW(d:List BN)(hn:(d.map (·.1)).Nodup):((d.mergeSort λx y=> !(ltOf cfH) y x).map (·.1)).Perm (d.map (·.1))/\((d.mergeSort λx y=> !(ltOf cfH) y x).map (·.1)).Pairwise λx y=>ltN x y=true:=by
 have hle:∀a b c:BN,(!(ltOf cfH) b a)=true->(!(ltOf cfH) c b)=true->(!(ltOf cfH) c a)=true:=by grind [Ue,abc,Vx]
 have hto:∀a b:BN,((!(ltOf cfH) b a)||(!(ltOf cfH) a b))=true:=by grind [Ue,abc,abb]
 have e:=List.mergeSort_perm d λx y=> !(ltOf cfH) y x;have f:=List.pairwise_mergeSort hle hto d;refine⟨e.map _,?_⟩;have hnd:=(e.map (·.1)).nodup_iff.2 hn;refine List.pairwise_map.2 ((f.and (List.pairwise_map.1 hnd)).imp λ{a b} q=>?_);grind [Ue,Vx]
theorem AeX(hS:Ab2 prog 129 eBN 4 cfH 66)(gl:CC)(hl:l.length<=1000)(hn:l.Nodup)(hb:∀x∈l,bdH x)(hp:r.Perm l)(hr:r.Pairwise λx y=>ltN x y=true):SA prog gl 129 [.rsl 0 0 l.length,oP] [(0,pU l)] 1 1 (.tup []) [(0,pU r)]:=by
 obtain⟨d,rfl⟩:∃d:List BN,d.map (·.1)=l:=⟨l.pmap (λx h=>⟨x,h⟩) hb,by rw[List.map_pmap];simp⟩;have h:=AeV (t:=57) hS (λ_=>rfl) (λx v hv=>by simp only[eBN,f7,EG,K3,or_false] at hv;rcases hv with rfl|rfl|rfl|rfl<;>rfl) (λx y=>yW [] (Aa2 x y)) aH gl d (by grind)
 have key:∀q:List BN,Nh eBN q=(q.map (·.1)).flatMap bj:=λq=>by unfold Nh;rw[List.map_flatMap,List.flatMap_map];rfl
 obtain⟨a,b⟩:=AeW d hn;have he:=Ag7 (a.trans hp.symm) b hr;grind [OU.p]
def AdT:Go.Shelf.Ren:=⟨fun|6=>129|14=>210|15=>107|20=>305|21=>306|22=>307|23=>308|24=>309|25=>310|26=>311|27=>312|28=>197|29=>198|46=>369|47=>297|48=>298|49=>370|50=>371|57=>388|n=>n,fun|0=>0|3=>3|4=>4|5=>5|9=>9|22=>77|24=>57|25=>126|39=>179|45=>265|46=>266|50=>89|53=>272|55=>36|66=>352|70=>355|76=>395|77=>396|n=>n,fun|n=>n⟩
theorem AiH:Go.Proofs.SlLaysF0.n6 prog AdT:={
 mixed:=aH
 f6:=⟨Tryz.f129.name,BU,func129.trans (congrArg some aH)⟩
 f14:=⟨Tryz.f210.name,BU,func210.trans (congrArg some aH)⟩
 f15:=func107.trans (congrArg some aH)
 f20:=⟨Tryz.f305.name,BU,func305.trans (congrArg some aH)⟩
 f21:=⟨Tryz.f306.name,BU,func306.trans (congrArg some aH)⟩
 f22:=⟨Tryz.f307.name,BU,func307.trans (congrArg some aH)⟩
 f23:=⟨Tryz.f308.name,BU,func308.trans (congrArg some aH)⟩
 f24:=⟨Tryz.f309.name,BU,func309.trans (congrArg some aH)⟩
 f25:=⟨Tryz.f310.name,BU,func310.trans (congrArg some aH)⟩
 f26:=⟨Tryz.f311.name,BU,func311.trans (congrArg some aH)⟩
 f27:=⟨Tryz.f312.name,BU,func312.trans (congrArg some aH)⟩
 f28:=func197.trans (congrArg some aH)
 f29:=func198.trans (congrArg some aH)
 f46:=⟨Tryz.f369.name,BU,func369.trans (congrArg some aH)⟩
 f47:=func297.trans (congrArg some aH)
 f48:=func298.trans (congrArg some aH)
 f49:=⟨Tryz.f370.name,BU,func370.trans (congrArg some aH)⟩
 f50:=⟨Tryz.f371.name,BU,func371.trans (congrArg some aH)⟩
 f57:=⟨Tryz.f388.name,BU,func388.trans (congrArg some aH)⟩
 t0:=Tryz.underlying0
 a0:=Tryz.isAgg0
 z0:=Tryz.sizeOf0
 v0:=Tryz.zeroValue0
 t3:=Tryz.underlying3
 a3:=Tryz.isAgg3
 z3:=Tryz.sizeOf3
 v3:=Tryz.zeroValue3
 t4:=Tryz.underlying4
 a4:=Tryz.isAgg4
 z4:=Tryz.sizeOf4
 v4:=Tryz.zeroValue4
 t5:=Tryz.underlying5
 a5:=Tryz.isAgg5
 z5:=Tryz.sizeOf5
 v5:=Tryz.zeroValue5
 t9:=Tryz.underlying9
 a9:=Tryz.isAgg9
 z9:=Tryz.sizeOf9
 v9:=Tryz.zeroValue9
 t22:=Tryz.underlying77
 a22:=Tryz.isAgg77
 z22:=Tryz.sizeOf77
 v22:=Tryz.zeroValue77
 t25:=Tryz.underlying126
 a25:=Tryz.isAgg126
 z25:=Tryz.sizeOf126
 v25:=Tryz.zeroValue126
 t39:=Tryz.underlying179
 a39:=Tryz.isAgg179
 z39:=Tryz.sizeOf179
 v39:=Tryz.zeroValue179
 t45:=Tryz.underlying265
 a45:=Tryz.isAgg265
 z45:=Tryz.sizeOf265
 v45:=Tryz.zeroValue265
 t46:=Tryz.underlying266
 a46:=Tryz.isAgg266
 z46:=Tryz.sizeOf266
 v46:=Tryz.zeroValue266
 t50:=Tryz.underlying89
 a50:=Tryz.isAgg89
 z50:=Tryz.sizeOf89
 v50:=Tryz.zeroValue89
 t53:=Tryz.underlying272
 a53:=Tryz.isAgg272
 z53:=Tryz.sizeOf272
 v53:=Tryz.zeroValue272
 t55:=Tryz.underlying36
 a55:=Tryz.isAgg36
 z55:=Tryz.sizeOf36
 v55:=Tryz.zeroValue36
 t66:=Tryz.underlying352
 a66:=Tryz.isAgg352
 z66:=Tryz.sizeOf352
 v66:=Tryz.zeroValue352
 t70:=Tryz.underlying355
 a70:=Tryz.isAgg355
 z70:=Tryz.sizeOf355
 v70:=Tryz.zeroValue355
 t76:=Tryz.underlying395
 a76:=Tryz.isAgg395
 z76:=Tryz.sizeOf395
 v76:=Tryz.zeroValue395
 t77:=Tryz.underlying396
 a77:=Tryz.isAgg396
 z77:=Tryz.sizeOf396
 v77:=Tryz.zeroValue396}
theorem AjB:Ab2 prog 129 eBN 4 cfH 66:={
 nil:=λp cap c w=>AnyF.slices_SortFunc_none AiH p cap c w
 row:=λa b cap d w hc hH hb hs=>AnyQ.slices_SortFunc_total AiH 4 (λw=>Tryz.isAgg57 w) (λw=>Tryz.sizeOf57 w) eBN (λ_=>rfl) (λx v hv=>by simp only[eBN,f7,EG,K3,or_false] at hv;rcases hv with rfl|rfl|rfl|rfl<;>rfl) cfH AnU 66 #[] a b cap d w (λargs w=>wq aH args w) hc hH hb hs (λx y h k=>Subtype.ext (Vx (by rw[<-Ue];exact h) (by rw[<-Ue];exact k)))}
abbrev Xc(clock:Nat)(seen:Br):Option Ob:=some ⟨GI,[],some (.iter (some 1) clock seen clock)⟩
abbrev OO(i:Nat):G:= .clo (.func 130) [] [.ref i 0]
abbrev C3:Option Ob:=some ⟨GI,[.mref 1],none⟩
abbrev ZI(g:G):Option Ob:=some ⟨77,[g],none⟩
abbrev KSH(m:FM Aj Nat):Type:={ks:List Aj//ks.Perm (m.es.map (·.1))}
noncomputable abbrev Ub:Code:=bq 11012 (ai Tryz.f209)
noncomputable abbrev RW(st:LoopState):Option Ob:=some ⟨0,[],some (.loop st none 13 [(2,.ref 2 0)] (Dy Ub) (Dz Ub) (DA Ub))⟩
abbrev ZJ:Fr:=[(0,.yld 3),(5,.ref 4 0)]
noncomputable abbrev σK(m:FM Aj Nat)(seen:Br)(l:List Aj):aQ:=[(0,C3),(1,eI m),(2,ZI (.rsl 5 0 l.length)),(3,RW .ready),(4,Xc m.clk seen),(5,pU l)]
abbrev ZK(x:Aj):Option Ob:=some ⟨57,bj x,none⟩
noncomputable abbrev σK2(m:FM Aj Nat)(seen:Br)(x:Aj)(a:List Aj):aQ:=[(0,C3),(1,eI m),(2,ZI (.rsl 7 0 a.length)),(3,RW .busy),(4,Xc m.clk seen),(6,ZK x),(7,pU a)]
theorem Lo{m:FM Aj Nat}(hm:FxOk m)(hn:m.es.length<=1000):Xx prog gl 209 [.lit (.slice none 0 0),OO 0] [(0,C3),(1,eI m)] 2 (ι:=KSH m) (λx=> .rsl 2 0 x.1.length) (λx=>[(0,C3),(1,eI m),(2,pU x.1)]) (λ_=>3):=by
 refine dMF func209 ?_;refine YR [1,0,1,2] (s0 13 gl [(2,.ref 2 0),(6,OO 0)] [(2,ZI (.lit (.slice none 0 0))),(0,C3),(1,eI m)] 3 2) [] ?_;refine Xt (fst:=[]) (cap:=[.ref 0 0]) Tryz.f130 func130 ?_;refine pO [0] (s0 14 gl [(0,.yld 3),(1,.ref 0 0)] [(0,C3),(1,eI m),(2,ZI (.lit (.slice none 0 0))),(3,RW .ready)] 4 4) [] [hc (Ho m)] ?_ [] [(0,0),(1,1),(2,2),(3,3)];refine yl (Bs':=[]) [0] (J:=(s0 14 gl ZJ (σK m [] []) 6 4)) [] [hc (Ho m),hc (Bq.imm [])] ?_ (vs:=[57]) (ρ:=rI 6) (kd:=[(5,.row)]);refine dNx [1] ?_;refine dMw 5 6 7 0 (iti:=4) (mi:=1) (clock:=m.clk) (since:=m.clk) (T:=GI) (ty:=GI) (es:=UK bU uGn m) (λseen=>(s0 14 gl ZJ (σK m seen (ksQ m seen)) 6 4)) (KsQ m) VX (by grind [FxOk]) rfl (Le.refl _) (λseen=>rfl) (λseen=>rfl) (by grind) (λB seen k g n hI Zu hns c=>?_) (λseen hI hs=>?_)
 .obtain⟨e,he,d⟩:=EO.1 Zu;simp only[Ft] at d;obtain⟨rfl,rfl,rfl⟩:=d;have hl:=Aas hI;have c:=c (V2 hI he hns);rw[Aar hm he] at c;generalize ksQ m seen=l at hl c⊢;have hge:jr ((4,Xc m.clk (seen++[e.2.2]))::σK m seen l) (.ref 4 0)=some (.tup [db (bU e.1),uGn e.2.1]):=yo (iti:=4) (mi:=1) (since:=m.clk) (clock:=m.clk) (T:=GI) (ty:=GI) (seen:=seen) rfl rfl (by grind [FxOk.nd]) Zu;refine pO 112211210 (s0 14 gl ((3,.ref 6 0)::ZJ) (σK m (seen++[e.2.2]) l++[(6,ZK e.1)]) 7 4) [YT 8 hge] [hc (Ho m),hc (rfl:l.length=l.length),hc (Bq.imm l)] ?_ [] [(0,0),(1,1),(2,2),(3,3),(4,4),(5,5),(6,6)] [(5,.row)];refine Xw (i:=3) (j:=2) (n:=13) (t:=0) (t2:=0) (pe:=none) (fr:=[(2,.ref 2 0)]) (ps:=Dy Ub) (a:=Dz Ub) (b:=DA Ub) (s1:=(s0 14 gl ([(11,.agg (bj e.1)),(10,.yld 3),(3,.ref 6 0)]++ZJ) (σK m (seen++[e.2.2]) l++[(6,ZK e.1)]) 7 4))
   (s3:=(s0 14 gl ([(13,bG false),(12,bG true),(11,.agg (bj e.1)),(10,.yld 3),(3,.ref 6 0)]++ZJ) ((3,RW .ready)::σK2 m (seen++[e.2.2]) e.1 (l++[e.1])) 8 4))
   (σK2 m (seen++[e.2.2]) e.1 (l++[e.1])) 8 (.loop .ready none 13 [(2,.ref 2 0)] (Dy Ub) (Dz Ub) (DA Ub)) [] [] ?_ ?_
  .refine C9 .normal ⟨13,gl,[(2,.ref 2 0),(5,.ref 7 0)],σK m (seen++[e.2.2]) l++[(6,ZK e.1),(7,ZK e.1)],8,7,true⟩ [] [hc (Ho m),hc (rfl:l.length=l.length),hc (Bq.imm l)] (Xv Tryz.f209 ?_ rfl) (ρ:=rI 8) (kd:=[(5,.row)]);exact C9 .normal ⟨13,gl,[],σK2 m (seen++[e.2.2]) e.1 (l++[e.1]),8,7,true⟩ [Tn 11 Bq 32 l e.1 aa] [hc (Ho m),hc (el (l++[e.1])),hc (Bq.imm (l++[e.1]))] (by grind [jy]) (ρ:=rI 7++[(7,9)]) (kd:=[(7,.row)])
  .exact jw [] [hc (Ho m),hc (el (l++[e.1])),hc (Bq.imm (l++[e.1]))] c (ρ:=rI 5++[(5,7)]) (kd:=[(5,.row)])
 .have hp:=Abv hm hI λe he=>hs _ (EO.2 ⟨e,he,rfl⟩);generalize ksQ m seen=l at hp⊢;refine C9 .normal (s0 14 gl [] [(0,C3),(1,eI m),(2,ZI (.rsl 5 0 l.length)),(3,RW .ready),(5,pU l)] 6 4) [] [hc (Ho m),hc (rfl:l.length=l.length),hc (Bq.imm l)] (Xu ?_ rfl) (ρ:=rI 4++[(5,5)]) (kd:=[(5,.row)]);exact C9 .ret (s0 13 gl [(4,.rsl 2 0 l.length)] [(0,C3),(1,eI m),(2,pU l)] 3 2) [] [hc (rfl:l.length=l.length),hc (Ho m),hc (Bq.imm l)] (YY ⟨l,hp⟩ (Wo (gs:=[.rsl 2 0 l.length]) rfl aH rfl rfl rfl rfl)) (ρ:=[(0,0),(1,1),(2,5)]) (kd:=[(2,.row)])
theorem I3{m:FM Aj Nat}(hm:FxOk m)(hn:m.es.length<=1000):Xx prog gl 128 [OO 0] [(0,C3),(1,eI m)] 2 (ι:=KSH m) (λx=> .rsl 2 0 x.1.length) (λx=>[(0,C3),(1,eI m),(2,pU x.1)]) (λ_=>3):=by refine dMF func128 ?_;refine pO [1,0] (s0 5 gl [(0,OO 0)] [(0,C3),(1,eI m)] 2 2) [] [hc (Ho m)] ?_ [] [(0,0),(1,1)] [(999999,.clo)];refine dCl 3 4 2 (fst:=[]) (cap:=[]) (gs:=[.lit (.slice none 0 0),OO 0]) (U6 (g:=λx:KSH m=> .rsl 2 0 x.1.length) (c:=2) (c':=λ_=>3) (σR:=[(0,C3),(1,eI m)]) [0,1] (λx:KSH m=>[(0,C3),(1,eI m),(2,pU x.1)]) (Lo gl hm hn) ⟨⟨rfl,.inl rfl⟩,⟨rfl,rfl,rfl,rfl,.inr ⟨rfl,Ho m⟩⟩,trivial⟩ (λx=>⟨⟨rfl,.inl rfl⟩,⟨rfl,rfl,rfl,rfl,.inr ⟨rfl,Ho m⟩⟩,⟨rfl,.inr ⟨rfl,Bq.imm x.1⟩⟩,trivial⟩) (hcov:=λ_=>rfl) (hg:=λ_=>rfl) (hc:=λ_=>rfl)) λx=>?_;exact C9 .ret (s0 5 gl [(2,.rsl 2 0 x.1.length)] [(0,C3),(1,eI m),(2,pU x.1)] 3 2) [] [hc (rfl:x.1.length=x.1.length),hc (Ho m),hc (Bq.imm x.1)] (YY x (Wo (gs:=[.rsl 2 0 x.1.length]) rfl aH rfl rfl rfl rfl)) (ρ:=rI 3) (kd:=[(2,.row)])
structure Ju (m:FM Aj Nat) (srt:List Aj):Prop where
 ok:Nr m
 n:m.es.length<=1000
 bd:∀x∈m.es.map (·.1),bdH x
 pm:srt.Perm (m.es.map (·.1))
 so:srt.Pairwise λx y=>ltN x y=true
theorem Ju.len{m:FM Aj Nat}{srt:List Aj}(h:Ju m srt):srt.length=m.es.length:=by rw[h.pm.length_eq,Gq]
theorem AlM:InP (vi [2]) [2] [(2,pU l)] [(0,pU l)]:=λk o h=>by
 match k with
 |0=>exact⟨2,o,rfl,h,by cases h;exact⟨rfl,.inr ⟨rfl,Bq.imm l⟩⟩⟩
 |j+1=>cases h
theorem Ajr{c:Nat}:abi (kO [(0,pU l)] [2] 1 0 c) [(0,pU r)] [(2,pU r)]:=λi o h=>by
 rw[A9] at h;split at h
 .rename_i e;subst e;exact⟨0,o,rfl,h,by cases h;exact⟨rfl,.inr ⟨rfl,Bq.imm r⟩⟩⟩
 .cases h
theorem Lq{m:FM Aj Nat}(h:Ju m srt):jg prog gl 64 [OO 0,oP] [(0,C3),(1,eI m)] 2 (.rsl 2 0 srt.length) [(0,C3),(1,eI m),(2,pU srt)] 3:=by
 refine pP func64 ?_;refine pO [1,0] (s0 12 gl [(0,OO 0),(1,oP)] [(0,C3),(1,eI m)] 2 2) [] [hc (Ho m)] ?_ [] [(0,0),(1,1)] [(999999,.clo)];refine dCl 6 7 5 (fst:=[]) (cap:=[]) (gs:=[OO 0]) (U6 (g:=λx:KSH m=> .rsl 2 0 x.1.length) (c:=2) (c':=λ_=>3) (σR:=[(0,C3),(1,eI m)]) [0,1] (λx:KSH m=>[(0,C3),(1,eI m),(2,pU x.1)]) (I3 gl h.ok.toFxOk h.n) ⟨⟨rfl,.inl rfl⟩,⟨rfl,rfl,rfl,rfl,.inr ⟨rfl,Ho m⟩⟩,trivial⟩ (λx=>⟨⟨rfl,.inl rfl⟩,⟨rfl,rfl,rfl,rfl,.inr ⟨rfl,Ho m⟩⟩,⟨rfl,.inr ⟨rfl,Bq.imm x.1⟩⟩,trivial⟩) (hcov:=λ_=>rfl) (hg:=λ_=>rfl) (hc:=λ_=>rfl)) λx=>?_;have hxl:x.1.length<=1000:=by rw[x.2.length_eq,Gq];exact h.n
 have hsl:srt.length=x.1.length:=by rw[h.pm.length_eq,x.2.length_eq]
 have hx:=AeX AjB gl hxl (x.2.nodup_iff.2 h.ok.kd) (λy hy=>h.bd y (x.2.mem_iff.1 hy)) (h.pm.trans x.2.symm) h.so;rw[show(G.rsl 2 0 srt.length)= .rsl 2 0 x.1.length by rw[hsl]];exact mt .ret (s0 12 gl [(4,.rsl 2 0 x.1.length)] [(0,C3),(1,eI m),(2,pU srt)] 3 2) [.rsl 2 0 x.1.length] [hfm 10 [2] 1 0 3 [(2,pU x.1)] [.rsl 2 0 x.1.length,oP] [(2,pU srt)] hx AlM Ajr] [hc (rfl:x.1.length=x.1.length),hc (Ho m),hc (Bq.imm srt)] (ρ:=rI 3) (kd:=[(2,.row)])
theorem Uf(m:FM Aj Nat):jg prog gl 65 [.mref 0] [(0,eI m)] 1 (OO 1) [(0,eI m),(1,some ⟨GI,[.mref 0],none⟩)] 2:=by refine pP func65 ?_;exact mt .ret (s0 4 gl [(2,OO 1)] [(0,eI m),(1,some ⟨GI,[.mref 0],none⟩)] 2 1) [OO 1] [] [hc (Ho m)] (ρ:=[(0,0),(1,1)]) (kd:=[(999999,.clo)])
theorem RZ{m:FM Aj Nat}(h:Ju m srt):jg prog gl 28 [.ref 0 0] [(0,oH d 1),(1,eI m)] 2 (.rsl 2 0 srt.length) [(0,oH d 1),(1,eI m),(2,pU srt)] 3:=by refine pP func28 ?_;exact mt .ret (s0 9 gl [(2,.rsl 2 0 srt.length)] [(0,oH d 1),(1,eI m),(2,pU srt)] 3 2) [.rsl 2 0 srt.length] [tN 7 [1] 2 [(1,eI m)] [.mref 1] [(0,eI m),(1,C3)] (Uf gl m) ⟨⟨rfl,rfl,rfl,rfl,.inr ⟨rfl,Ho m⟩⟩,trivial⟩ ⟨⟨rfl,rfl,rfl,rfl,.inr ⟨rfl,Ho m⟩⟩,⟨rfl,.inl rfl⟩,trivial⟩,tN 8 [2,1] 3 [(2,C3),(1,eI m)] [OO 2,oP] [(0,C3),(1,eI m),(2,pU srt)] (Lq gl h) ⟨⟨rfl,.inl rfl⟩,⟨rfl,rfl,rfl,rfl,.inr ⟨rfl,Ho m⟩⟩,trivial⟩ ⟨⟨rfl,.inl rfl⟩,⟨rfl,rfl,rfl,rfl,.inr ⟨rfl,Ho m⟩⟩,⟨rfl,.inr ⟨rfl,Bq.imm srt⟩⟩,trivial⟩] [hc (rfl:srt.length=srt.length),hc (Ho m),hc (Bq.imm srt)] (ρ:=[(0,0),(1,1),(2,3)]) (kd:=[(2,.row)])
theorem Ju.names{m:FM Aj Nat}{srt:List Aj}(h:Ju m srt)(d:Int):jg prog gl 28 [.ref 0 0] [(0,oH d 1),(1,eI m)] 2 (.rsl 2 0 srt.length) [(0,oH d 1),(1,eI m),(2,pU srt)] 3:=RZ gl h
abbrev Ug(m:FM Aj Nat):G:= .mp ((UK bU uGn m).map (·.1)) ((UK bU uGn m).map (·.2.1)) ((UK bU uGn m).map (·.2.2)) m.clk
def C4(d:Int)(x:Aj):HD:=bif x=LL then⟨1,⟨0,0,0⟩,d,0⟩ else⟨3,x.commit,x.n,0⟩
theorem R3(d:Int)(g:G)(x:Aj):ba prog gl 32 [.ptr [iG d,g] 0,.agg (bj x)] (.agg (fT (C4 d x))):=by
 refine Gh func32 ?_;unfold C4;cases c:decide (x=LL) with
 |true=>exact Ar [hV 7 (yV x LL c)] []
 |false=>exact Ar [hV 7 (yV x LL c)] []
theorem fL:AQ prog 44 49 6 fT:=⟨aH,aH,BU,λ_=>rfl,λ_=>rfl⟩
abbrev oTm(l:List HD):Option Ob:=some ⟨49,l.flatMap fT,none⟩
abbrev σH(d:Int)(m:FM Aj Nat):aQ:=[(0,oH d 1),(1,eI m)]
theorem abd{d:Int}{m:FM Aj Nat}:w6 (vi [0,1]) (σH d m) (σH d m) 0 [0,1]:=⟨⟨rfl,.inl rfl⟩,⟨rfl,rfl,rfl,rfl,.inr ⟨rfl,Ho m⟩⟩,trivial⟩
abbrev hnm(d:Int)(D c:Nat){m:FM Aj Nat}{srt:List Aj}(h:Ju m srt)(hlt:[0,1].all (λi=>Nat.blt i c)=true:=by kernel_rfl):HP:=tN D [0,1] c (σH d m) [.ref 0 0] [(0,oH d 1),(1,eI m),(2,pU srt)] (h.names gl d) abd ⟨⟨rfl,.inl rfl⟩,⟨rfl,rfl,rfl,rfl,.inr ⟨rfl,Ho m⟩⟩,⟨rfl,.inr ⟨rfl,Bq.imm srt⟩⟩,trivial⟩ hlt
theorem R4{d:Int}{m:FM Aj Nat}(h:Ju m srt):jg prog gl 13 [.ref 0 0] (σH d m) 2 (.rsl 2 0 (srt.map (C4 d)).length) [(0,oH d 1),(1,eI m),(2,oTm (srt.map (C4 d)))] 3:=by
 have hn:srt.length<=1000:=by grind [Ju,Ju.len]
 refine pP func13 ?_;refine XU (l:=srt) aa (λk:Nat=>(s0 21 gl [(0,.ref 0 0),(3,.rsl 3 0 ((srt.take k).map (C4 d)).length),(7,.rsl 2 0 srt.length),(8,iG (ah srt)),(9,iG (k:Int))] [(0,oH d 1),(1,eI m),(2,pU srt),(3,oTm ((srt.take k).map (C4 d)))] 4 2)) 1110122 [hnm gl d 7 2 h] [hc (el srt),hc (Ho m),hc (Bq.imm srt),hc (fL.imm [])] (λB k x hx hz k5=>?_) (λB=>?_) [49] [(0,0),(1,1),(2,2),(3,3)] [(2,.row),(3,.row)]
 .have hk:=(cr hx).1;have e:(srt.take (k+1)).map (C4 d)=(srt.take k).map (C4 d)++[C4 d x]:=by grind [JD]
  have hl:((srt.take k).map (C4 d)).length<=1000:=by grind
  rw[e] at k5;generalize (srt.take k).map (C4 d)=l at hl k5⊢;exact jw [hr 10 (CB hx),AB 11 (Bq.ixrZ 2 hz),AB 12 (Bq.pt0Z ee hz),hq 16 [.ptr [iG d,Ug m] 0,.agg (bj x)] [hc (Ho m)] (R3 gl d (Ug m) x),Tn 18 fL 48 l (C4 d x) aa,hbb 19 (Xl (q:=k) aa)] [hc (el (l++[C4 d x])),hc (el srt),hc (Ho m),hc (Bq.imm srt),hc (fL.imm (l++[C4 d x]))] k5 [] [(0,0),(1,1),(2,2),(3,6)] [(2,.row),(3,.row)]
 .rw[EZ];generalize srt.map (C4 d)=l;exact mt .ret (s0 21 gl [(2,.rsl 2 0 l.length)] [(0,oH d 1),(1,eI m),(2,oTm l)] 3 2) [.rsl 2 0 l.length] [hr 10 (DS (s:=srt))] [hc (el l),hc (Ho m),hc (fL.imm l)] (ρ:=[(0,0),(1,1),(2,3)]) (kd:=[(2,.row)])
theorem Xd{m:FM Aj Nat}{k:Aj}{v:Nat}(h1:(m.get k).getD 0=v):bL prog [(1,eI m)] GI false (.mref 1) (.agg (bj k))=some (uGn v):=by subst h1;rw[Q9 (P:=prog) (et:=36) (vg:=uGn) (m:=m) LF aH (k:=k) rfl NP];have h:∀σ,bL prog σ GI false (FM.g bU uGn m) (.agg (bj k))=some (uGn ((m.get k).getD 0)):=FM.look1 (et:=36) LF aH aH m k rfl;exact h _
def mg(s:Nat):Fq:=j7 37 s
theorem yv{s r:Nat}(h:mg s=some r):ba prog gl 46 [uG s] (uG r):=by refine Gh func46 ?_;exact Ar [hf 4 (mX gl h)] []
def MZ(m:FM Aj Nat)(srt:List Aj)(pub:Nat)(k:Nat):Option (Nat⊕(Unit⊕Nat)):=match srt[k]? with
 |none=>some (.inr (.inl ()))
 |some x=>(mg ((m.get x).getD 0)).bind λq=>bif (q:Int)=(pub:Int)then some (.inr (.inr ((m.get x).getD 0)))else some (.inl (k+1))
theorem Uh{d:Int}{m:FM Aj Nat}(h:Ju m srt){pub:Nat}{x:Unit⊕Nat}{a:Nat}{is:Bool}(b:AH (MZ m srt pub) 0=some x)(h1:x= .inl ()->a=0/\is=false)(h2:∀v,x= .inr v->a=v/\is=true):jg prog gl 45 [.ref 0 0,uG pub] (σH d m) 2 (.tup [uG a,bG is]) (σH d m) 2:=by
 have hn:srt.length<=1000:=by grind [Ju,Ju.len]
 refine pP func45 ?_;refine pN (λk:Nat=>(s0 28 gl [(0,.ref 0 0),(1,uG pub),(10,.rsl 2 0 srt.length),(11,iG (ah srt)),(12,iG (k:Int))] [(0,oH d 1),(1,eI m),(2,pU srt)] 3 2)) 110122 b [hnm gl d 10 2 h] [hc (el srt),hc (Ho m),hc (Bq.imm srt)] (λB k v hs k5 e=>?_) [] [(0,0),(1,1),(2,2)] [(2,.row)];unfold MZ at hs;cases hx:srt[k]? with
 |none=>
  rw[hx] at hs;obtain rfl:=Bp hs;obtain⟨rfl,rfl⟩:=h1 (by simp_all);have:srt.length<=k:=by simp_all
  exact mt .ret (s0 28 gl [(4,uG (0:Nat)),(5,bG false)] (σH d m) 2 2) [uG (0:Nat),bG false] [hr 13 (show decide ((k:Int)<(srt.length:Int))=false from Dl aa)] [hc (Ho m)] (ρ:=[(0,0),(1,1)])
 |some y=>
  rw[hx] at hs;have hz:=Bt hx;have hk:=(cr hx).1;obtain⟨q,c,hs⟩:=bS hs;rcases bC hs with⟨b1,hs⟩|⟨b1,hs⟩
  .obtain rfl:=Bp hs;obtain⟨rfl,rfl⟩:=h2 _ (e _ rfl).symm;exact mt .ret (s0 28 gl [(4,uG ((m.get y).getD 0:Nat)),(5,bG true)] (σH d m) 2 2) [uG ((m.get y).getD 0:Nat),bG true] [hr 13 (CB hx),AB 14 (Bq.ixrZ 2 hz),AB 15 (Bq.pt0Z ee hz),hlk 21 (Xd (m:=m) (k:=y) rfl),hf 23 (yv gl c),hr 25 b1] [hc (Ho m)] (ρ:=[(0,0),(1,1)])
  .obtain rfl:=Bp hs;exact jw [hr 13 (CB hx),AB 14 (Bq.ixrZ 2 hz),AB 15 (Bq.pt0Z ee hz),hlk 21 (Xd (m:=m) (k:=y) rfl),hf 23 (yv gl c),hr 25 b1,hbb 27 (Xl (q:=k) aa)] [hc (el srt),hc (Ho m),hc (Bq.imm srt)] (k5 _ rfl) [] [(0,0),(1,1),(2,2)] [(2,.row)]
section
variable {P:Bu}
theorem aba{ops:Array Oper}{d K2:St->Prop}:∀(l l2:HE) (st:St),D8 P ops d l st->(∀s,d s->D8 P ops K2 l2 s)->D8 P ops K2 (l++l2) st
 |[],l2,st,h,hk=>hk st h
 |o::r,l2,st,h,hk=>by
  rcases h with⟨a,s1,b,c⟩|⟨a,b,c⟩
  .exact .inl ⟨a,s1,b,aba r l2 s1 c hk⟩
  .exact .inr ⟨a,b,aba r l2 _ c hk⟩
def gsR(P:Bu)(hs:List Hn)(c:Code)(k:Nat)(st:St):Option (Prop×Br×St×Op×Option Tmp×Fo):=match c with
 | .region _ ops false=>match qd P ops hs (ops.toList.take k) st with
  |some (C,u,s1)=>match ops.toList.drop k with
   |[o]=>some (C,u,s1,o.op,o.dst,ce s1 ops o)
   |_=>none
  |none=>none
 |_=>none
variable [M:Mix P] {st:St} {Q:Exit->St->Prop} {fn:Func} {Bs:List (St->Prop)} {p:Br}
section
attribute [local semireducible] Tr dz Gp
theorem dGs(k:Nat){d:Option Tmp}{s1 s2:St}(A:List HP)(hG:∀o:Oper,o.op=op->o.dst=d->GS P o s1 s2)(kk:Gp P fn Q Bs true p s2)(hk:Ua A (gsR P (bK A) (bq p (ai fn)) k st) (s1,op,d,some true):=by exact⟨aH,aH⟩):Gp P fn Q Bs false p st:=by
 obtain⟨C,u,b,e⟩:=hk.out;show Tr P (bq p (ai fn)) st (dz P (bE p (ai fn) Bs []) Q);unfold gsR at e;split at e;rotate_left
 .cases e
 rename_i id ops hc;split at e;rotate_left
 .cases e
 rename_i h u1 s3 c;split at e;rotate_left
 .cases e
 rename_i o ho;simp only[Fe,Ft] at e;obtain⟨rfl,rfl,rfl,rfl,rfl,hw⟩:=e;rw[hc];have q1:=Mz c b;have hl:ops=(ops.toList.take k++[o]).toArray:=by grind
 generalize ops.toList.take k=x at*;subst hl;exact λcx a w R r g=>wpIn_region_lit (xK (K:=λs=>s=s2) (λst' a2 f q i=>g .normal _ a2 f kk (by grind)) _ st a w (aba x [o] st q1 λs hs=>by subst hs;exact .inl ⟨hw,s2,hG o rfl rfl,rfl⟩) r)
end
theorem Ajp{f:α->Bk}{ts te:Bj}{s:Nat}(R:AQ P ts te s f){σ:aQ}{i:Nat}{z l:List α}{t0:Bj}(hi:ag σ i=some ⟨t0,z.flatMap f,none⟩){a:Ob}(hj:ag σ j=some a)(h2:a.l=l.flatMap f)(hz:z.length=l.length)(h0:0<l.length)(hs:bw P te=some s):Qq P σ ts (.rsl i 0 l.length) (.rsl j 0 l.length)=some (i,⟨t0,l.flatMap f,none⟩,l.length):=by grind [AQ,AQ.len,Qq,fO]
end
section
variable {P:Bu} [M:Mix P] {st:St} {Q:Exit->St->Prop}
theorem AdM{s:St}{i:Nat}{σ2:aQ}{c2:Nat}{d:QN}{t2:Bj}{ls:LoopState}{pe:Option Code}{b:Code}(he:ex= .ret)(hgl:s.gl=st.gl)(ho:ag s.σ i=some ⟨t2,[],some (.loop ls pe n fr ps a b)⟩)(e: .loop .done (some .ret) n fr ps a b=d)(f:s.σ=σ2)(hc:s.c=c2):rE P st i (Tx σ2 c2 d t2) ex s:=
 ⟨hgl,some .ret,t2,ls,pe,n,fr,ps,a,b,by rw[he];rfl,ho,by rw[<-e];rfl,e,rfl,f,hc⟩
section
attribute [local semireducible] Tr dz Gp
theorem Vv{Q:Exit->St->Prop}{s:St}(h:Q .ret s):∀K:List Kf,dz P K Q .ret s
 |[]=>⟨s,Le.refl _,h⟩
 | .thn _::K=>by have:=Vv h K;unfold dz uE;exact this
 | .blk _::K=>by have:=Vv h K;unfold dz pu;exact this
 | .lp _::K=>by have:=Vv h K;unfold dz uE;exact this
end
theorem AeR{s:St}{t:Bj}{b:Code}{K:List Kf}(he:tc ex=true)(hgl:s.gl=st.gl)(ho:ag s.σ st.c=some ⟨t,[],some (.loop .done (some .ret) n fr ps a b)⟩)(h:Q .ret {st with σ:=(st.c,none)::(st.c,some ⟨t,[],some (.loop .exhausted (some .ret) n fr ps a b)⟩)::s.σ,c:=s.c}):sI P st (dz P K Q) ex s:=
 ⟨eO he,hgl,t,.done,some .ret,n,fr,ps,a,b,ho,(by grind),PW (Vv h K)⟩
end
def cmT(I:Gi)(row:Ba)(d:Int)(k:Nat):Option (Nat⊕(Ab×Bool)):=
 bif k<row.length then(row[k]?).bind λx=>bif R1 (I.o x)=some d then some (.inr (x,true))else some (.inl (k+1))else some (.inr (⟨0,0,0⟩,false))
section
variable {gl:CC} {gg:Az}
abbrev oDe(d:Int):Option Ob:=some ⟨3,[iG d],none⟩
abbrev oBv(b:Bool):Option Ob:=some ⟨4,[bG b],none⟩
noncomputable abbrev cCm:Code:=bq 11012 (ai Tryz.f39)
abbrev aa5:Fr:=[(5,.ref 0 0),(6,.ref 1 0),(7,.ref 2 0)]
noncomputable abbrev Y1(st:LoopState)(q:Option Code):Option Ob:=some ⟨0,[],some (.loop st q 20 aa5 (Dy cCm) (Dz cCm) (DA cCm))⟩
abbrev AlF(gg:Az)(row:Ba)(k:Nat):Fr:=[(0,.yld 3),(1,.ptr [.ptr (Ag gg) 0] 0),(11,aE aj row),(12,iG (ah row)),(13,iG (k:Int))]
noncomputable abbrev σCm(d:Int):aQ:=[(0,oDe d),(1,Po ⟨0,0,0⟩),(2,oBv false),(3,Y1 .ready none)]
noncomputable abbrev Ajl(gl:CC)(gg:Az)(row:Ba)(d:Int)(k:Nat):St:=(s0 40 gl (AlF gg row k) (σCm d) 4 4)
noncomputable abbrev Y2(gl:CC)(gg:Az)(row:Ba)(d:Int)(k:Nat)(x:Ab)(e:Int):St:=(s0 40 gl ((5,.ref 4 0)::(8,iG e)::AlF gg row k) (σCm d++[(4,Po x)]) 5 4)
abbrev ρM3:DH:=[(0,0),(1,1),(2,2),(3,3)]
abbrev ρM4:DH:=[(0,0),(1,1),(2,2),(3,3),(4,4)]
theorem AeS(h:Np gl gg I)(hO:ba prog gl 22 [.ptr (Ag gg) 0,aE aj ids] (aE aj row))(hn:row.length<=1000){r:Ab×Bool}(hr0:AH (cmT I row d) 0=some r):ba prog gl 39 [.ptr (Ag gg) 0,aE aj ids,iG d] (.tup [.agg (aj r.1),bG r.2]):=by
 refine Gh func39 ?_;refine YR [1,0,1,2] (s0 20 gl (aa5++[(12,AgD gg ids)]) [(2,oBv false),(1,Po ⟨0,0,0⟩),(0,oDe d)] 3 0) [hf 12 (AdG (gl:=gl) (gg:=gg) ids)] ?_;refine Xt (fst:=[]) (cap:=[.ptr [.ptr (Ag gg) 0] 0,.ptr [aE aj ids] 0]) Tryz.f144 func144 ?_;refine pN (λk:Nat=>Ajl gl gg row d k) [1,2,2] hr0 [hf 11 hO] [] (λB k w hs k5 f=>?_) (ρ:=ρM3) (kd:=[]);unfold cmT at hs;rcases bC hs with⟨b0,hs⟩|⟨b0,hs⟩
 .have hlt:=DV b0;obtain⟨x,hx,hs⟩:=bS hs;have c:=Bt hx;have ho:=h.op x;have hb2:k<1000000:=aa;have fin:∀e,R1 (I.o x)=some e->Gp prog Tryz.f144 (sI prog (s0 20 gl (aa5++[(12,AgD gg ids)]) [(2,oBv false),(1,Po ⟨0,0,0⟩),(0,oDe d)] 3 0) (dz prog (bE [1,0,1,2] (ai Tryz.f39) [] []) (tH prog Tryz.f39 (.tup [.agg (aj r.1),bG r.2])))) [B] false [1,2,2,1,1,0,2,1,1,1,1,0] (Y2 gl gg row d k x e):=λe he=>by
   rw[he] at hs;rcases bC hs with⟨c1,hs⟩|⟨c1,hs⟩
   .obtain rfl:=Bp hs;obtain rfl:=f _ rfl;obtain rfl:=Bp (DV c1);have c2:decide (e=e)=true:=C6 rfl;refine Xw (i:=3) (j:=3) (n:=20) (t:=0) (t2:=0) (pe:=none) (fr:=aa5) (ps:=Dy cCm) (a:=Dz cCm) (b:=DA cCm) (s1:=(s0 40 gl ([(36,iG e),(35,.agg (aj x)),(34,.yld 3)]++(Y2 gl gg row e k x e).fr) ((Y2 gl gg row e k x e).σ) 5 4))
     (s3:=(s0 40 gl ([(38,bG true),(37,bG false),(36,iG e),(35,.agg (aj x)),(34,.yld 3)]++(Y2 gl gg row e k x e).fr) ((3,Y1 .done (some .ret))::[(0,oDe e),(1,Po x),(2,oBv true),(3,Y1 .busy none)]) 5 4))
     [(0,oDe e),(1,Po x),(2,oBv true),(3,Y1 .busy none)] 5 (.loop .done (some .ret) 20 aa5 (Dy cCm) (Dz cCm) (DA cCm)) [] [] ?_ ?_
    .refine C9 .normal ⟨20,gl,aa5++[(8,.ref 5 0),(9,iG e)],σCm e++[(5,Po x)],6,5,true⟩ [] [] (Xv Tryz.f39 ?_ rfl) (ρ:=ρM4++[(5,5)]) (kd:=[]);exact C9 .ret ⟨20,gl,[],[(0,oDe e),(1,Po x),(2,oBv true),(3,Y1 .busy none)],5,5,true⟩ [hr 17 c2] [] (by grind [AdM]) (ρ:=ρM4) (kd:=[])
    .exact C9 .ret (s0 40 gl [] [(0,oDe e),(1,Po x),(2,oBv true),(3,Y1 .done (some .ret))] 4 4) [] [] (AeR rfl rfl rfl (by unfold tH;exact⟨.inr rfl,[.agg (aj x),bG true],aH,jB (aG 20 _ aH)⟩)) (ρ:=ρM3) (kd:=[])
   .obtain rfl:=Bp hs;have c2:decide (e=d)=false:=by grind
    have k5:=k5 _ rfl;refine Xw (i:=3) (j:=3) (n:=20) (t:=0) (t2:=0) (pe:=none) (fr:=aa5) (ps:=Dy cCm) (a:=Dz cCm) (b:=DA cCm) (s1:=(s0 40 gl ([(36,iG e),(35,.agg (aj x)),(34,.yld 3)]++(Y2 gl gg row d k x e).fr) ((Y2 gl gg row d k x e).σ) 5 4))
     (s3:=(s0 40 gl ([(38,bG false),(37,bG true),(36,iG e),(35,.agg (aj x)),(34,.yld 3)]++(Y2 gl gg row d k x e).fr) ((3,Y1 .ready none)::[(0,oDe d),(1,Po ⟨0,0,0⟩),(2,oBv false),(3,Y1 .busy none)]) 5 4))
     [(0,oDe d),(1,Po ⟨0,0,0⟩),(2,oBv false),(3,Y1 .busy none)] 5 (.loop .ready none 20 aa5 (Dy cCm) (Dz cCm) (DA cCm)) [] [] ?_ ?_
    .refine C9 .normal ⟨20,gl,aa5++[(8,.ref 5 0),(9,iG e)],σCm d++[(5,Po x)],6,5,true⟩ [] [] (Xv Tryz.f39 ?_ rfl) (ρ:=ρM4++[(5,5)]) (kd:=[]);exact C9 .normal ⟨20,gl,[],[(0,oDe d),(1,Po ⟨0,0,0⟩),(2,oBv false),(3,Y1 .busy none)],5,5,true⟩ [hr 17 c2] [] (by grind [jy]) (ρ:=ρM4) (kd:=[])
    .exact jw (J:=Ajl gl gg row d (k+1)) [hbb 39 (Xl (q:=k) aa)] [] k5 [] ρM3 []
  generalize I.o x=o at ho hs fin;unfold R1 at hs fin;cases b1:decide (o.Kind=1) with
  |true=>exact pO 1122110211110 (Y2 gl gg row d k x o.By) [hr 14 (CB hx),AB 15 (ac.ixZ c),AB 16 (ac.ptZ aW c),hf 20 ho,hr 26 b1] [] (fin _ (by rw[b1];rfl)) [] ρM4 []
  |false=>
   cases b2:decide (o.Kind=2) with
   |true=>exact pO 1122110211110 (Y2 gl gg row d k x o.Device) [hr 14 (CB hx),AB 15 (ac.ixZ c),AB 16 (ac.ptZ aW c),hf 20 ho,hr 26 b1,hr 30 b2] [] (fin _ (by rw[b1,b2];rfl)) [] ρM4 []
   |false=>
    cases b3:decide (o.Kind=13) with
    |true=>exact pO 1122110211110 (Y2 gl gg row d k x o.Device) [hr 14 (CB hx),AB 15 (ac.ixZ c),AB 16 (ac.ptZ aW c),hf 20 ho,hr 26 b1,hr 30 b2,hr 31 b3] [] (fin _ (by rw[b1,b2,b3];rfl)) [] ρM4 []
    |false=>
     rw[b1,b2,b3] at hs;have hs:some (Sum.inl (k+1))=some w:=by grind
     obtain rfl:=Bp hs;exact jw (J:=Ajl gl gg row d (k+1)) [hr 14 (CB hx),AB 15 (ac.ixZ c),AB 16 (ac.ptZ aW c),hf 20 ho,hr 26 b1,hr 30 b2,hr 31 b3,hbb 39 (Xl (q:=k) aa)] [] (k5 _ rfl) [] ρM3 []
 .obtain rfl:=Bp hs;obtain rfl:=f _ rfl;have b1:decide ((k:Int)<ah row)=false:=by grind [ah]
  refine C9 .normal (s0 40 gl [] (σCm d) 4 4) [hr 14 b1] [] (Xu ?_ rfl) (ρ:=ρM3) (kd:=[]);exact Ar [] []
end
theorem Ajn(hn:row.length<=1000):AH (cmT I row d) 0=some (match row.find? λx=>decide (R1 (I.o x)=some d) with
 |some x=>(x,true)
 |none=>(⟨0,0,0⟩,false)):=by
 have key:T (AH (cmT I row d) 0) λr=>r=(match row.find? λx=>decide (R1 (I.o x)=some d) with
  |some x=>(x,true)
  |none=>(⟨0,0,0⟩,false)):=by
  refine T.loop (λk=>k<=row.length/\row.find? (λx=>decide (R1 (I.o x)=some d))=(row.drop k).find? (λx=>decide (R1 (I.o x)=some d))) (λk=>row.length-k) ⟨Nat.zero_le _,rfl⟩ (by grind) ?_
  rintro k ⟨h1,h2⟩
  unfold cmT
  refine .dec (λhlt=>?_) λhge=>?_
  .obtain⟨x,hx⟩:∃x,row[k]?=some x:=⟨_,EA hlt⟩
   rw[hx,aL]
   have e:row.drop k=x::row.drop (k+1):=by grind [List.drop_eq_getElem_cons]
   rw[e,List.find?_cons] at h2
   refine .dec (λhc=> .some ?_) λhc=> .some ⟨⟨aa,?_⟩,aa⟩
   .rw[h2,C6 hc];rfl
   .rw[h2,Dl hc]
  .have:row.drop k=[]:=List.drop_eq_nil_of_le aa
   rw[this] at h2
   rw[h2]
   exact .some rfl
 exact key.eq
def aa8(I:Gi)(id x:Ab):Bool:=bif x=id then true else I.bef id x
def Pu(I:Gi)(id:Ab)(l:Ba):FM Int Bool:=l.foldl (λm x=>bif aa8 I id x then CA m x.By true else m) (CA ⟨[],0⟩ id.By true)
def Ab0(I:Gi)(row:Ba)(d:Int):Ab×Bool:=match row.find? λx=>decide (R1 (I.o x)=some d) with
 |some x=>(x,true)
 |none=>(⟨0,0,0⟩,false)
def Z2(I:Gi)(id:Ab)(row:Ba)(seen:FM Int Bool)(d:Int):Bool:=bif EY (seen.get d)then false else bif(Ab0 I row d).2 then !aa8 I id (Ab0 I row d).1 else true
section
variable {gl:CC} {gg:Az} {I:Gi}
abbrev bxG(gg:Az):G:= .ptr [.ptr (Ag gg) 0] 0
abbrev cS1(gg:Az)(id:Ab):G:= .clo (.func 34) [] [.ptr (aj id) 0,bxG gg]
theorem Ac0(h:Np gl gg I)(id x:Ab):ba prog gl 34 [.agg (aj x),.ptr (aj id) 0,bxG gg] (bG (aa8 I id x)):=by
 have hb:=h.bef id x;unfold aa8;refine Gh func34 ?_;cases c1:decide (x=id) with
 |true=>exact Ar [hV 7 (dU x id c1)] []
 |false=>exact Ar [hV 7 (dU x id c1),hf 12 hb] []
abbrev mpG(m:FM Int Bool):G:=FM.g JG bG m
theorem Ag5(h:Np gl gg I)(a:∀d,ba prog gl 39 [.ptr (Ag gg) 0,aE aj ids,iG d] (.tup [.agg (aj (Ab0 I row d).1),bG (Ab0 I row d).2]))(id:Ab)(seen:FM Int Bool)(d:Int):ba prog gl 38 [iG d,bxG gg,.ptr [aE aj ids] 0,.ptr [mpG seen] 0,.ptr [cS1 gg id] 0] (bG (Z2 I id row seen d)):=by
 have a:=a d;unfold Z2;generalize Ab0 I row d=q at a;obtain⟨x,b⟩:=q;dsimp only at a⊢;have hs:=Ac0 h id x;have hl:=Q2 seen d;refine Gh func38 ?_;cases c1:EY (seen.get d) with
 |true=>rw[c1] at hl;exact Ar [hf 13 a,hm 18 hl] []
 |false=>
  rw[c1] at hl;cases b with
  |false=>exact Ar [hf 13 a,hm 18 hl] []
  |true=>exact Ar [hf 13 a,hm 18 hl,hf 25 hs] []
end
abbrev mpQ(m:FM Int Bool):G:= .mp ((UK JG bG m).map (·.1)) ((UK JG bG m).map (·.2.1)) ((UK JG bG m).map (·.2.2)) m.clk
theorem Ajo(m:FM Int Bool):mpG m=mpQ m:=by unfold mpG mpQ FM.g;rw[Hk,Hk,Hk];rfl
abbrev Ag6(m:FM Int Bool):Option Ob:=some (M7 82 JG bG m)
abbrev obS:Option Ob:=some ⟨82,[.mref 0],none⟩
abbrev frS(gg:Az)(id:Ab)(ids:Ba):Fr:=[(2,bxG gg),(3,.ptr (aj id) 0),(5,.ptr [aE aj ids] 0),(6,.ref 1 0),(7,.ptr [cS1 gg id] 0)]
theorem AdN(h:Np fI gg I)(hA:ba prog fI 8 [.ptr (Ag gg) 0] (aE aj ids))(hn:ids.length<=1000)(hR:Bi R)(c:SA prog fI 36 [.ptr (Ag gg) 0,aE aj ids] [] 0 0 (.ref 0 0) (BW f0 R))(g:∀d,ba prog fI 39 [.ptr (Ag gg) 0,aE aj ids,iG d] (.tup [.agg (aj (Ab0 I row d).1),bG (Ab0 I row d).2]))(id:Ab):ba prog fI 14 [.ptr (Ag gg) 0,.agg (aj id)] (bG (bif I.lev id=0 then false else !(Hx R).any (Z2 I id row (Pu I id ids)))):=by
 have a:=h.lev id;refine Gh func14 ?_;cases c0:decide (I.lev id=0) with
 |true=>exact Ar [hf 12 a,hr 13 c0] []
 |false=>
 rw[Bf];refine pO 111110 (s0 41 fI [(2,bxG gg),(3,.ptr (aj id) 0),(5,.ptr [aE aj ids] 0),(6,.ref 1 0)] [(0,Ag6 (CA ⟨[],0⟩ id.By true)),(1,obS)] 2 0) [hf 12 a,hr 13 c0,hf 15 hA] [hc (eB (gs:=[.ptr (Ag gg) 0]) aH),hc (eB (gs:=aj id) aH),hc (aY (aG 20 (aE aj ids) aH) bf),hc (Ut (CA ⟨[],0⟩ id.By true))] ?_ [] [(0,3),(1,4)] [];refine pO 11111100 (s0 41 fI (frS gg id ids) [(0,Ag6 (CA ⟨[],0⟩ id.By true)),(1,obS)] 2 0) [] [hc (eB (gs:=[cS1 gg id]) aH),hc (Ut (CA ⟨[],0⟩ id.By true))] ?_ [] [(0,0),(1,1)] [(999999,.clo)];refine pN (λk:Nat=>(s0 41 fI (frS gg id ids++[(21,aE aj ids),(22,iG (ah ids)),(23,iG (k:Int))]) [(0,Ag6 (Pu I id (ids.take k))),(1,obS)] 2 0)) 1111110122 (XT (n:=ids.length) aa) [] [hc (Ut (Pu I id (ids.take 0)))] (λB k w hs k5 j=>?_) [] [(0,0),(1,1)] [];unfold AcD at hs;split at hs
 .rename_i hlt;obtain rfl:=Bp hs;obtain⟨x,hx⟩:∃x,ids[k]?=some x:=⟨_,EA hlt⟩;have hz:=Bt hx;have k5:=k5 _ rfl;have hs1:=Ac0 h id x;have e:Pu I id (ids.take (k+1))=bif aa8 I id x then CA (Pu I id (ids.take k)) x.By true else Pu I id (ids.take k):=by unfold Pu;rw[JD,hx,Option.toList_some,Om];rfl
  rw[e] at k5;generalize Pu I id (ids.take k)=m at k5⊢;cases cb:aa8 I id x with
  |false=>rw[cb] at k5 hs1;exact jw [hr 24 (CB hx),AB 25 (ac.ixZ hz),AB 26 (ac.ptZ aW hz),hf 29 hs1,hbb 33 (Xl (q:=k) aa)] [hc (Ut m)] k5 [] [(0,0),(1,1)] []
  |true=>rw[cb] at k5 hs1;exact jw [hr 24 (CB hx),AB 25 (ac.ixZ hz),AB 26 (ac.ptZ aW hz),hf 29 hs1,hmp 3 (AcA (P:=prog) (σ:=(2,Po x)::[(0,Ag6 m),(1,obS)]) (i:=0) (t:=82) (t':=82) (et:=4) (vg:=bG) O6 Abm aH (k:=x.By) (gk:=iG x.By) rfl (m:=m) rfl true),hbb 33 (Xl (q:=k) aa)] [hc (Ut (CA m x.By true))] k5 [] [(0,0),(1,1)] []
 .split at hs
  .rename_i he;subst he;rw[EZ];generalize Pu I id ids=m;have hdl:(Hx R).length<=1000:=by rw[(OJ hR).2.1.length_eq,Gq];have:=hR.len;omega
   have b:=ml fI (s:=Hx R) (f:=λd=>some (Z2 I id row m d)) (fi_f:=38) (fa_f:=[]) (fc_f:=[bxG gg,.ptr [aE aj ids] 0,.ptr [mpG m] 0,.ptr [cS1 gg id] 0]) ⟨aH,bf,aY (aG 20 (bxG gg) aH) (aY (aG 20 (.ptr [aE aj ids] 0) aH) (aY (aG 20 (.ptr [mpG m] 0) aH) (aY (aG 20 (.ptr [cS1 gg id] 0) aH) bf))),λd r e=>by cases e;exact Ag5 h g id m d⟩ (Abt aa λ_ _=>rfl);rw[Ajo] at b;exact Ar [hr 24 (DS (s:=ids)),hrn 36 2 [.ptr (Ag gg) 0,aE aj ids] hR c,hrr 37 (Qt 2) 16 [] hR (Su fI hR),hq 39 [aE cZ (Hx R),.clo (.func 38) [] [bxG gg,.ptr [aE aj ids] 0,.ptr [mpQ m] 0,.ptr [cS1 gg id] 0]] [hc (Ut m)] b] []
  .cases hs
theorem Adm{gg:Az}{j:Nat}:∀(l:Ba) (s:OP),gW (l.foldl (λs x=>match M2 gg x with|some y=>RX s y.past|none=>s) s) j=(gW s j||l.any λx=>match M2 gg x with|some y=>gW y.past j|none=>false)
 |[],s=>aC
 |x::l,s=>by rw[List.foldl_cons,Adm l,List.any_cons];grind [RP]
theorem AhA{p:Nat->Bool}{N:I4}:x∈VC p N↔∃(k:Nat) (y:C5),N[k]?=some y/\p k=true/\y.id=x:=by unfold VC;simp only[EO,Hl,List.mem_zipIdx_iff_getElem?,Prod.exists];grind
theorem AhB{p:Nat->Bool}{N:I4}:(VC p N).Sublist (N.map (·.id)):=by
 have h:(N.zipIdx.map (·.1.id))=N.map (·.id):=by rw[show(λq:C5×Nat=>q.1.id)=(λy:C5=>y.id)∘Prod.fst from rfl,<-Hk,List.zipIdx_map_fst]
 rw[<-h];exact List.filter_sublist.map _
theorem Adn{I:Gi}{x:Ab}:∀{l p:Ba},x∈LA I p l↔x∈p\/x∈l/\0<I.lev x
 |[],p=>by simp[LA]
 |y::l,p=>by have a:LA I p (y::l)=LA I (bif 0<I.lev y then bif p.any λz=>decide (y=z)then p else p++[y]else p) l:=rfl;rw[a,Adn];grind
theorem AfD{I:Gi}:∀{l p:Ba},p.Nodup->(LA I p l).Nodup
 |[],p,h=>h
 |y::l,p,h=>by have a:LA I p (y::l)=LA I (bif 0<I.lev y then bif p.any λz=>decide (y=z)then p else p++[y]else p) l:=rfl;rw[a];refine AfD ?_;grind
section
variable {g:Bc} {m:Jb} {N:I4} (P:Pg g m N)
include P
theorem Aj0:N.map (·.id)=g.IDs:=by
 refine List.ext_getElem? λk=>?_;have pl:=P.p.len;have nI:=P.w.nI;rw[Mu];cases hy:N[k]? with
 |none=>grind
 |some y=>rw[(P.p.nd k y hy).2.1];rfl
theorem Ado{l:Ba}(hj:j<256):gW (Sm ⟨g.Cards,m,N⟩ l) j=true↔uX g l j:=by
 have z:gW z4 j=false:=by unfold gW z4;split<;>simp
 rw[show gW (Sm ⟨g.Cards,m,N⟩ l) j=_ from Adm l z4,z,Bool.false_or,List.any_eq_true];unfold uX;refine⟨λ⟨x,hx,h⟩=>⟨x,hx,?_⟩,λ⟨x,hx,n,h1,h2⟩=>⟨x,hx,?_⟩⟩
 .rw[Sw P.w P.p] at h;cases hk:bu x g.IDs with
  |none=>rw[hk] at h;simp at h
  |some n=>
   rw[hk,aL] at h;cases hy:N[n]? with
   |none=>rw[hy] at h;simp at h
   |some y=>rw[hy] at h;exact⟨n,rfl,((P.p.nd n y hy).2.2.1 j hj).symm.trans h⟩
 .have hn:=(cr (gb h1).1).1;have pl:=P.p.len;have nI:=P.w.nI;obtain⟨y,hy⟩:∃y,N[n]?=some y:=⟨_,EA aa⟩;rw[Sw P.w P.p,h1,aL,hy];exact((P.p.nd n y hy).2.2.1 j hj).trans h2
theorem AhC:0<(Dd g m N).lev x↔x∈g.IDs:=by
 have pl:=P.p.len;have nI:=P.w.nI;cases hk:bu x g.IDs with
 |none=>
  have:(Dd g m N).lev x=0:=by show(match M2 ⟨g.Cards,m,N⟩ x with|some y=>y.level|none=>0)=_;rw[Sw P.w P.p,hk];rfl
  grind [jv]
 |some k=>have hid:=(gb hk).1;obtain⟨y,a,c,_⟩:=Uq P.w P.p hid;have hkl:=(cr hid).1;obtain⟨u,hu,_⟩:=Hm (l:=g.Up) (k:=k) (by have:=P.w.nU;omega);have b:=P.p.lv k y u a hu;grind [Adl]
theorem Amd(h14:g.L.length<=15){l:Ba}(hl:l.length<=1000):∃v p,M4 g l=some v/\Fm g v/\v.Nodup/\Pa GL (VC (gW (Sm ⟨g.Cards,m,N⟩ l)) N)=some p/\p.length=(VC (gW (Sm ⟨g.Cards,m,N⟩ l)) N).length/\p.length<=15/\(LA (Dd g m N) p l).Perm v:=by
 have pl:=P.p.len;have nI:=P.w.nI;obtain⟨v,e,v1,v2,v3,v4⟩:=yf P.w (ids:=l) aa;have hs:=AhB (p:=gW (Sm ⟨g.Cards,m,N⟩ l)) (N:=N);rw[Aj0 P] at hs;have hle:=hs.length_le;obtain⟨p,e2,a,b⟩:=Uy QK (P.w.nd.sublist hs) aa;have hpl:=a.length_eq;refine⟨v,p,e,v1,v2,e2,hpl,aa,(List.perm_ext_iff_of_nodup (AfD (a.nodup_iff.2 (P.w.nd.sublist hs))) v2).2 λx=>?_⟩;rw[Adn,v3,a.mem_iff,AhA,AhC P];refine or_congr_left ⟨λ⟨k,y,h1,h2,h3⟩=>?_,λ⟨k,h1,h2⟩=>?_⟩
 .have hk:=(cr h1).1;exact⟨k,h3▸(P.p.nd k y h1).2.1,(Ado P aa).1 h2⟩
 .have hk:=(cr h1).1;obtain⟨y,hy⟩:∃y,N[k]?=some y:=⟨_,EA aa⟩;have:=(P.p.nd k y hy).2.1;grind [Ado]
end
theorem Aj1{gl:CC}{gg:Az}{o:Bo}{s:Ba}(hn:s.length<=15)(hp:s.Perm v)(hs:∀x∈v,1<=x.Seq):∃fr fk w,ba prog gl 120 [.ptr (Ag gg) 0,aE aj s] (aE Bv fr)/\Aa7 fr (λf=>JL f o)=some fk/\qN v o.By=some w/\fk=(decide (0<w)&&decide (w<=o.Seq)):=by
 obtain⟨fs,hq,hi⟩:=Aja hn;have hl:=AaI (ids:=s) aa;have hI:=AgS s aa;have hfl:fs.length=(Uz s).2.es.length:=by rw[hq.length_eq,Gq]
 have hF:=(AbM (gl:=gl) (gg:=gg) (ids:=s) (r:=fs) (n:=fs.length) aa aa hfl.symm hi).fn Bh.sz (Bh.len _) (Bh.imm _);obtain⟨w,e,hw⟩:=UH (ids:=v) (by have:=hp.length_eq;omega) hs o.By;refine⟨fs,_,w,hF,?_,e,rfl⟩;rw[show(λf=>JL f o)=λf=>some (decide (f.Device=o.By)&&decide (f.Seq<=o.Seq)) from funext λf=>by unfold JL;cases decide (f.Device=o.By)<;>rfl,Abt (p:=λf:Bg=>decide (f.Device=o.By)&&decide (f.Seq<=o.Seq)) aa λ_ _=>rfl];congr 1;rw[Bool.eq_iff_iff,List.any_eq_true];simp only[bA,decide_eq_true_eq];have hm:∀f:Bg,f∈fs↔(Uz s).2.get f.Device=some f.Seq:=λf=>by rw[hq.mem_iff,T9]
 have hc:∀f,OY v f=OY s f:=λf=>(Abj hp f).symm;have hex:∀{d q:Int},2<=OY s ⟨d,q⟩->∃y∈v,y.By=d/\y.Seq=q:=λ{d q} h=>by unfold OY at h;obtain⟨y,hy⟩:=List.exists_mem_of_length_pos (l:=s.filter λx=>decide (x.By=d)&&decide (x.Seq=q)) (Nat.lt_of_lt_of_le BU h);rw[Hl] at hy;have:=hy.2;simp only[bA,decide_eq_true_eq] at this;exact⟨y,hp.mem_iff.1 hy.1,this.1,this.2⟩
 unfold FsI at hw;simp only[hc] at hw;refine⟨λ⟨f,hf,h1,h2⟩=>?_,λ⟨h1,h2⟩=>?_⟩
 .rw[hm] at hf;have h3:=hI.a _ _ hf;obtain⟨y,g,c,i⟩:=hex h3;rw[h1] at h3 c;rcases hw with⟨_,h5⟩|⟨z,k1,k2,k3,j,k5⟩
  .exact absurd (i▸h3) (h5 y g c)
  .have a:=k5 y g c (i▸h3);have b:=hs z k1;omega
 .rcases hw with⟨h5,_⟩|⟨z,k1,k2,k3,j,k5⟩
  .omega
  .obtain⟨q,q1,k⟩:=hI.b _ _ j;exact⟨⟨o.By,q⟩,(hm _).2 q1,rfl,by show q<=o.Seq;omega⟩
theorem Ame{D':DE}{o:Bo}{i:Ab}(h:o7 D o i=some D'):D'.In=D.In:=by grind [o7,Gf]
theorem AiR(h:Rr R D)(hR:Bi R)(d:Int):PR R d=decide (d∈Hx R):=by
 have hp:=(OJ hR).2.1;have hi:=h.in_ d;unfold PR EY;rw[Bool.eq_iff_iff,decide_eq_true_iff,hp.mem_iff,EO];by_cases c:d∈D.In
 .grind [GK]
 .rw[BX c] at hi;rw[hi];refine⟨(by grind),λ⟨q,hq,e⟩=>?_⟩;have hg:=IX hR.ci (k:=q.1) (v:=q.2.1) (n:=q.2.2) hq;grind
theorem af0{a b:Bn}(h1:a.length<=1000)(h2:b.length<=1000):AH (qn a b) ([],0)=some (b.filter (QF a)):=by
 refine T.eq (T.forA b.length (λk acc=>acc=(b.take k).filter (QF a)) aa aC (λk acc hk hj=>?_) λacc hj=>?_)
 .obtain⟨y,hy,hm⟩:=Hm hk;subst hj;have hl:((b.take k).filter (QF a)).length<=1000:=by grind
  unfold qn;simp only[eA hk,ax,au,hy,aL,cX (show a.length<=1000000 by omega)];refine .ite (λc=> .bind (.app cq (.some ⟨aq aa,?_⟩))) λc=> .some ⟨aq aa,?_⟩
  .grind [Rb]
  .rw[Rb hy,Se];simp[c]
 .unfold qn;dsimp only;rw[eF,Bf];subst hj;exact .some (show _=_ by rw[EZ])
theorem af1{a b x:Bn}(h0:x.length<=1000)(h1:a.length<=1000)(h2:b.length<=1000):AH (qm a b) (x,0)=some (x++a.filter λd=> !QF b d):=by
 refine T.eq (T.forA a.length (λk acc=>acc=x++(a.take k).filter λd=> !QF b d) aa aC (λk acc hk hj=>?_) λacc hj=>?_)
 .obtain⟨y,hy,hm⟩:=Hm hk;subst hj;have hl:((a.take k).filter λd=> !QF b d).length<=1000:=by grind
  unfold qm;simp only[eA hk,ax,au,hy,aL,cX (show b.length<=1000000 by omega)];refine .ite (λc=> .bind (.app cq (.some ⟨aq aa,?_⟩))) λc=> .some ⟨aq aa,?_⟩
  .grind [Rb]
  .rw[Rb hy,Se];simp[c]
 .unfold qm;dsimp only;rw[eF,Bf];subst hj;exact .some (show _=_ by rw[EZ])
section
variable {g:Bc} {m:Jb} {N:I4} (P:Pg g m N)
include P
theorem Amf(k:RkS g 1000 D)(h:Rr R D)(hR:Bi R){i:Ab}(so:Be o)(hp:Wv o i):∃D',DM D o i=some D'/\lu D'=some (Hx (Wq R o i))/\∀d,PR (Wq R o i) d=decide (d∈Hx (Wq R o i)):=by
 have z:=ZZ P k BU h hR;have hQ:=Sb hR hp;by_cases c:o.Kind=9
 .have eD:DM D o i=o7 D o i:=by unfold DM;rw[ofE z.z,aL];obtain⟨v3,e3,_⟩:=YZ z.z h (YF D.Cards o.By);grind
  obtain⟨D',e,_⟩:=Alv z h (o:=o) (i:=i);have ei:=Ame e;have eQ:(Wq R o i).in_=R.in_:=by grind [Wq,Aao]
  have e1:Hx (Wq R o i)=Hx R:=by grind [Hx]
  have e2:lu D'=lu D:=by grind [lu]
  refine⟨D',eD.trans e,by grind [Ajk,Sy.z],λd=>?_⟩;rw[e1,<-AiR h hR d];grind [PR]
 .obtain⟨D',e,h2,q⟩:=doE z h hR (o:=o) (i:=i) (by grind);exact⟨D',e,Ajk (AcT h2 hQ (by rw[q.c,k.cards];exact P.w.nC) (by have:=q.v;have:=k.nV;omega)).z h2 hQ,AiR h2 hQ⟩
end
theorem Acl(hR:Bi R)(h:Uu R o=0):1<=o.By/\o.By<=6:=by
 unfold Uu at h;split at h
 .grind [Bi,DG]
 .cases c:PR R o.By with
  |false=>grind
  |true=>
   unfold PR EY at c;cases hg:R.in_.get o.By with
   |none=>grind
   |some v=>grind [Bi,GK]
section
variable {g:Bc} {m:Jb} {N:I4} (P:Pg g m N)
include P
theorem Adp(h14:g.L.length<=15)(c:∀(i:Nat) (o:Bo) (x:Ab),g.L[i]?=some o->g.IDs[i]?=some x->x.Seq=o.Seq)(v1:Fm g v)(v2:v.Nodup):∃row vs:Ba,n8 g v=some row/\row.Perm v/\(row.Pairwise λx y=>M3 (Dd g m N) x y<0)/\vJ v=some vs/\vs.Perm (v.filter (voP v))/\vs.length<=1000/\Aen fI (Vm ⟨g.Cards,m,N⟩ row vs) (Dd g m N)/\(∀x∈row,x∈g.IDs)/\(∀x∈vs,x∈g.IDs)/\row.Nodup/\row.length<=15/\∀s:Ba,s.Perm v->ba prog fI 22 [.ptr (Ag ⟨g.Cards,m,N⟩) 0,aE aj s] (aE aj row)/\ba prog fI 211 [.ptr (Ag ⟨g.Cards,m,N⟩) 0,aE aj s] (aE aj vs):=by
 have w:=P.w;have nI:=w.nI;have hG:=UG w P.p;have hI:=Xj hG;have opx:∀x∈g.IDs,∃(i:Nat) (o:Bo),g.IDs[i]?=some x/\g.L[i]?=some o/\Ga o:=by grind [Gu,G9.op]
 have hseq:∀x∈g.IDs,1<=x.Seq/\x.Seq<=2147483647:=λx hx=>by obtain⟨i,o,h1,h2,q⟩:=opx x hx;rw[c i o x h2 h1];exact(T1 q.numbers).seq
 have hv14:v.length<=15:=by have:=EC v2 v1.sub;omega
 obtain⟨row,j,b,f⟩:=UI w P.p aa v2 v1.sub;have hrl:row.length<=15:=by rw[b.length_eq];exact hv14
 have hrn:row.Nodup:=b.nodup_iff.2 v2;have hrm:∀x∈row,x∈g.IDs:=λx hx=>v1.sub x (b.mem_iff.1 hx);have hO:∀s:Ba,s.Perm v->ba prog fI 22 [.ptr (Ag ⟨g.Cards,m,N⟩) 0,aE aj s] (aE aj row):=λs a=>by
  have hs14:s.length<=15:=by rw[a.length_eq];exact hv14
  obtain⟨r,e,h,d⟩:=Uy (aae (Dd g m N)) (a.nodup_iff.2 v2) hs14;have:r=row:=Wy (aae (Dd g m N)).tr XI (h.trans (a.trans b.symm)) d f;grind [AbI,List.Perm.length_eq]
 obtain⟨vs,k,l,n⟩:=Ack (ids:=v) aa v2 (by grind [Fm.sub]);have hvm:∀x∈vs,x∈g.IDs:=by grind [Fm.sub]
 have hvl:vs.length<=1000:=by grind [List.Perm.length_eq,Oa]
 have hV:∀s:Ba,s.Perm v->ba prog fI 211 [.ptr (Ag ⟨g.Cards,m,N⟩) 0,aE aj s] (aE aj vs):=λs a=>by
  have hs14:s.length<=15:=by rw[a.length_eq];exact hv14
  obtain⟨r,e,h,d⟩:=Aiw (gl:=fI) (gg:=⟨g.Cards,m,N⟩) hs14 (a.nodup_iff.2 v2) (by grind [Fm.sub,List.Perm.mem_iff]);have hq:(s.filter (voP s)).Perm (v.filter (voP v)):=by rw[show voP s=voP v from funext (AfC a)];grind
  have:r=vs:=Wy QK.tr Ad6 (by grind) d n;exact this▸e
 have hod:∀x∈row,Wv ((Dd g m N).o x) x:=λx hx=>by obtain⟨i,o,h1,h2,_⟩:=opx x (hrm x hx);rw[(P.op h2 h1).2];grind [Pg.od]
 exact⟨row,vs,j,b,f,k,l,hvl,⟨hI,P.cd,hod,by show row.length<=1000;omega⟩,hrm,hvm,hrn,hrl,λs hs=>⟨hO s hs,hV s hs⟩⟩
def Amg(g:Bc)(m:Jb)(N:I4)(v:Ba)(R:Ad)(sen:Bn):Prop:=∃row vs cs:Ba,n8 g v=some row/\vJ v=some vs/\(∀x∈row,x∈v)/\Aes (Dd g m N) (Vm ⟨g.Cards,m,N⟩ row vs) (N3 (Dd g m N) row)=some cs/\cs.Sublist row/\R=aaF (Dd g m N) cs/\sen=N3 (Dd g m N) row
theorem Abk(h14:g.L.length<=15)(b:∀(i:Nat) (o:Bo) (x:Ab),g.L[i]?=some o->g.IDs[i]?=some x->x.Seq=o.Seq)(v1:Fm g v)(v2:v.Nodup):∃(R:Ad) (D:DE) (sen:Bn),zY g v=some D/\Rr R D/\Bi R/\RkS g 1000 D/\(∀s:Ba,s.Perm v->SA prog fI 36 [.ptr (Ag ⟨g.Cards,m,N⟩) 0,aE aj s] [] 0 0 (.ref 0 0) (BW f0 R)/\ba prog fI 124 [.ptr (Ag ⟨g.Cards,m,N⟩) 0,aE aj s] (aE cZ sen))/\sen.Nodup/\sen.length<=12/\jn g v=some sen/\Amg g m N v R sen:=by
 obtain⟨row,vs,c,f,_,h,_,hvl,hL,hrm,hvm,hrn,hrl,hS⟩:=Adp P h14 b v1 v2;have hI:=Xj (UG P.w P.p);obtain⟨s1,s2⟩:=AiE P hrm;have d:=Ya hI (hS row f).1 aa;have e:=AaY P c aa hrm;obtain⟨D,k,cs,j,l,n,q,d6⟩:=AnS P (ids:=v) v1 c hrn aa hrm h hvl hvm;have hod:=hL.o;have hcl:cs.length<=1000:=by grind
 exact⟨_,D,_,k,n,q,d6,λs a=>⟨Aie hI P.cd (ac.fo (Aet (I:=Dd g m N) (ids:=s) (row:=row) (s:=N3 (Dd g m N) row) (r:=cs) hL (hS s a).1 (hS s a).2 hvl d aa j)) (by grind [Vm]) hcl,Ya hI (hS s a).1 aa⟩,s1,s2,e,row,vs,cs,c,h,λx hx=>f.mem_iff.1 hx,j,l,rfl,rfl⟩
theorem Ad9(h14:g.L.length<=15)(j:∀(i:Nat) (o:Bo) (x:Ab),g.L[i]?=some o->g.IDs[i]?=some x->x.Seq=o.Seq)(so:Be o){i:Ab}(hid:pV o=some i)(n:ba prog fI 100 [.agg (aJ o)] (.agg (aj i)))(hp:1<=o.By/\o.By<=6->Wv o i):∃(l:Bn) (v:Ba) (R:Ad) (fk:Bool) (sen:Bn),(iV prog fI 61 [.ptr (Ag ⟨g.Cards,m,N⟩) 0,.agg (aJ o)] 3 l.length (l.flatMap cZ)/\qo g o=some l/\l.length<=12/\l.Nodup)/\M4 g o.Past=some v/\l=Ad5 fk R o i sen/\Bi R/\(∃D,Rr R D/\Amg g m N v R sen/\∃f,qN v o.By=some f/\fk=(decide (0<f)&&decide (f<=o.Seq)))/\∀s:Ba,s.Perm v->SA prog fI 36 [.ptr (Ag ⟨g.Cards,m,N⟩) 0,aE aj s] [] 0 0 (.ref 0 0) (BW f0 R):=by
 have w:=P.w;have hpl:=so.nPast;have hgl:o.Guards.length<=1000000:=by grind [Be.nGuards]
 have nI:=w.nI;have pl:=P.p.len;have hG:=UG w P.p;have hI:=Xj hG;obtain⟨v,p,e1,v1,v2,e2,pe,y,a⟩:=Amd P h14 hpl;have hv14:v.length<=15:=by have:=EC v2 v1.sub;omega
 obtain⟨R,D,sen,A,k,b,d6,c,s1,s2,q,r⟩:=Abk P h14 j v1 v2;have B:=Ahw (gl:=fI) hG (by show N.length<=15;omega) (ids:=o.Past) aa e2 pe;have hS:=Afz hI B aa;generalize LA (Dd g m N) p o.Past=s at hS a;have hs14:s.length<=15:=by rw[a.length_eq];exact hv14
 obtain⟨fr,fk,f,f1,f2,t,C⟩:=Aj1 (gl:=fI) (gg:=⟨g.Cards,m,N⟩) (o:=o) hs14 a (λx hx=>by obtain⟨i,h1⟩:=Gu (v1.sub x hx);obtain⟨o,h2,_,E⟩:=w.op (i:=i) (by have:=(cr h1).1;omega);rw[j i o x h2 h1];exact(T1 E.numbers).seq.1)
 obtain⟨h1,hN⟩:=c s a;have hA:=AfA hS f1 f2 b h1 n hgl (by grind [Acl]) hN aa;refine⟨_,v,R,fk,sen,⟨hA,?_,?_⟩,e1,rfl,b,⟨D,k,r,f,t,C⟩,λs h=>(c s h).1⟩;all_goals clear hA c hN h1
 .unfold qo Ad5;rw[e1,aL,t,aL];have hj:(bif 0<f then(some (decide (f<=o.Seq)))else(some false))=some fk:=by grind
  rw[hj,aL];cases fk with
  |true=>rfl
  |false=>
  rw[Bf,Bf,A,aL,hid,aL,Alo (ZZ P d6 aa k b).z k b hgl i,aL];cases cm:decide (Uu R o≠0) with
  |true=>rfl
  |false=>
  have hp:=hp (Acl b (Decidable.of_not_not (Ni cm)));obtain⟨D',k1,k2,k3⟩:=Amf P d6 k b so hp;have hQ:=Sb b hp;generalize Wq R o i=Q at k2 k3 hQ;have hdl:(Hx Q).length<=1000:=by rw[(OJ hQ).2.1.length_eq,Gq];grind [Bi.len]
  rw[Bf,Bf,k1,aL,k2,aL,q,aL,af0 hdl aa,aL,af1 (by grind) hdl aa,aL];have a1:sen.filter (QF (Hx Q))=haS Q sen:=by grind [List.filter_congr,JK]
  rw[a1];congr 2;grind [List.filter_congr,JK]
 .unfold Ad5;cases fk with
  |true=>simp
  |false=>
  cases cm:decide (Uu R o≠0) with
  |true=>simp
  |false=>
  have hQ:=Sb b (hp (Acl b (Decidable.of_not_not (Ni cm))));generalize Wq R o i=Q at hQ;obtain⟨_,u,_⟩:=OJ hQ;have dn:(Hx Q).Nodup:=u.nodup_iff.2 hQ.ci.kd;have hn:(haS Q sen++(Hx Q).filter (Abi (haS Q sen))).Nodup:=by grind
  refine⟨Alx hn λd hd=>?_,hn⟩;have i6:=hQ.i6;rcases JF.1 hd with h|h
  .have h:=(Hl.1 h).2;unfold PR EY at h;cases hg:Q.in_.get d with
   |none=>grind
   |some v=>grind [GK]
  .obtain⟨e,he,rfl⟩:=EO.1 (u.mem_iff.1 (Hl.1 h).1);have:=i6 e he;omega
theorem AfF(h14:g.L.length<=15)(a:∀(i:Nat) (o:Bo) (x:Ab),g.L[i]?=some o->g.IDs[i]?=some x->x.Seq=o.Seq)(so:Be o){i:Ab}(hid:pV o=some i)(b:ba prog fI 100 [.agg (aJ o)] (.agg (aj i)))(hp:1<=o.By/\o.By<=6->Wv o i):∃l:Bn,iV prog fI 61 [.ptr (Ag ⟨g.Cards,m,N⟩) 0,.agg (aJ o)] 3 l.length (l.flatMap cZ)/\qo g o=some l/\l.length<=12/\l.Nodup:=by obtain⟨l,_,_,_,_,h,_⟩:=Ad9 P h14 a so hid b hp;exact⟨l,h⟩
end
def Pq{α:Type}(x:Option α)(Q:α->Prop):Prop:=∀v,x=some v->Q v
section
variable {α β:Type} {x:Option α} {f:α->Option β} {Q:β->Prop} {R:α->Prop}
theorem Pq.b(h:∀v,Pq (f v) Q):Pq (x.bind f) Q:=λw e=>by obtain⟨v,_,e⟩:=Gf.1 e;exact h v w e
theorem Pq.m(h:Pq x R)(k:∀v,R v->Pq (f v) Q):Pq (x.bind f) Q:=λw e=>by obtain⟨v,e',e⟩:=Gf.1 e;exact k v (h v e') w e
theorem Pq.i{c:Bool}{a b:Option α}(h1:c=true->Pq a R)(h2:c=false->Pq b R):Pq (bif c then a else b) R:=by grind
theorem Pq.s{v:α}(h:R v):Pq (some v) R:=λw e=>(by grind)
end
theorem Pq.of{α:Type}{x:Option α}{Q:α->Prop}(h:T x Q):Pq x Q:=λv e=>by obtain⟨w,e',h⟩:=h;grind
def Kn(o:Bo):Prop:=o.Kind=9->1<=o.Need/\o.Need<=1000000
theorem Aea{n:Int}(h0:0<=n)(h1:n<=1000000):Pq (sc g ids o n) Kn:=by
 unfold sc;refine .b λv1=> .b λj=> .b λk=> .i (λc=>?_) λc=>?_
 .refine .b λl=> .b λa=> .m (R:=λq=>0<=q/\q<=1) (λq e=>?_) λd hq=> .b λh=> .s λ_=>?_
  .grind [bM,u9,iI,ah]
  grind [bM]
 .have c':=Ni c;refine .b λ_=> .b λ_=> .b λ_=> .b λ_=> .b λ_=> .b λ_=> .i (λ_=> .s λe=>absurd e c') λ_=> .s λe=>absurd e c'
theorem AhD{n m:Int}(hm:c8 m):Pq (sd g n m) Kn:=by
 unfold sd;refine .b λv1=> .m (.of (eX hm BU)) λv3 h3=> .b λv5=> .i (λ_=> .s λe=>(by grind)) λ_=> .b λa=> .b λj=> .b λj12=> .b λl=> .b λo=>?_;have hk:0<=wI (v3.tdiv 20)/\wI (v3.tdiv 20)<=1000000:=by grind [bM]
 have no:∀{k:Int},decide (a.Kind=k)=true->k≠9->∀{q:Int},a.Kind=9->1<=q/\q<=1000000:=by grind
 refine .m (R:=λx:Bo×Ba=>Kn x.1) (.i (λc=> .b λ_=> .s λe=>(by grind)) λ_=> .m (R:=λx:Bo×Ba=>Kn x.1) (.i (λc=> .b λ_=> .s λe=>(by grind)) λ_=> .m (R:=λx:Bo×Ba=>Kn x.1) (.i (λc=> .s λe=>(by grind)) λ_=> .m (R:=λx:Bo×Ba=>Kn x.1) (.i (λc=> .b λ_=> .b λ_=> .b λ_=> .s λe=>(by grind)) λ_=> .m (R:=λx:Bo×Ba=>Kn x.1) (.i (λc=> .s λe=>(by grind)) λ_=> .m (R:=λx:Bo×Ba=>Kn x.1) (.i (λc=> .s λe=>(by grind)) λ_=> .m (R:=λb:Bool=>a.Kind=9->b=true) (by grind [Pq.s]) λp r=> .m (R:=λx:Bo×Ba=>Kn x.1) (.i (λ_=> .m (Aea hk.1 hk.2) λt h=> .b λ_=> .s h) λc=> .s λe=>(by grind)) λ_ h=> .s h) λ_ h=> .s h) λ_ h=> .s h) λ_ h=> .s h) λ_ h=> .s h) λ_ h=> .s h) λu d=>?_;exact .b λ_=> .b λ_=> .b λ_=> .b λ_=> .b λ_=> .s d
def R5(l:Mi):Bool:=decide (l.length<=12)&&(List.range 12).all λk=>match l[k]?,l[k+1]? with
 |some a,some b=>decide (a.Device<=b.Device)&&(decide (0<=a.Device)&&decide (b.Device<=1000000))
 |_,_=>true
theorem OM{l:Mi}(h:R5 l=true):xf l:=by unfold R5 at h;simp only[bA,decide_eq_true_eq] at h;refine⟨h.1,λk a b ha hb=>?_⟩;have hk:=(cr ha).1;have:=GV.1 h.2 k (List.mem_range.2 aa);rw[ha,hb] at this;simpa using this
theorem Ls:xf u7:=OM aH
structure Aae (r:Bc) (ms:Nat->Jb) (N:I4):Prop where
 wf:G9 r
 ne:r.L≠[]
 run:Abe r ms N
 pg:Ou r (ms r.L.length) N
 gr:LC g0 r
 gC:r.Cards=u7
 n14:r.L.length<=14
abbrev oN3(N:I4)(n:Nat):Option Ob:=zQ (N.take n)
theorem PN{i:Ab}(so:Be o)(h:pV o=some i):i.By=o.By/\i.Seq=o.Seq:=by obtain⟨j,e,a,b,_⟩:=wN so;grind
theorem Acq{b:Bc}(h:LC b g)(hb:b.L=[]):∀(i:Nat) (o:Bo),g.L[i]?=some o->∃c∈g.Cards,c.Device=o.By:=by
 induction h with
 |base=>grind
 | @step g o id up row gr w sm _ e a hid hrow ih=>
  intro i d ho;have ho:(g.L++[o])[i]?=some d:=ho;rcases je ho with⟨_,h⟩|⟨_,rfl⟩
  .exact ih i d h
  .obtain⟨c,hc,_⟩:=a.card;exact⟨c,yd hc⟩
theorem Adr{cs:Mi}(h:cs.all KK=true){c:DR}(hc:c∈cs):1<=c.Device/\c.Device<=6/\1<=c.Member/\c.Member<=3:=by grind [KK]
theorem Amk:u7.map (·.Device)=[1,2,3,4,5,6]:=aH
section
variable {r:Bc} {ms:Nat->Jb} {N:I4}
theorem AfI{b:Bc}{m:Jb}(w:G9 r)(p:Ou r m N)(gr:LC b r)(hb:b.L=[])(hl:r.Cards.length<=1000)(h6:r.Cards.all KK=true)(hn:(r.Cards.map (·.Device)).Nodup):Pg r m N:=by have hcd:=Acq gr hb;refine⟨w,p,λi o x ho hx=>?_,(by grind),⟨hl,λc hc=>Adr h6 hc⟩,hn⟩;grind [G9.ops,T1,Ga.numbers,Be.nGuards,Wv,PN,G9.ids,Ot.k9,ah,Adr]
theorem Aml(h:Aae r ms N):Pg r (ms r.L.length) N:=AfI h.wf h.pg h.gr rfl (by rw[h.gC,KL];decide) (h.gC▸Og) (by rw[h.gC,Amk];decide)
end
theorem Ads{m:Jb}(P:Pg g m N)(h14:g.L.length<=15)(so:Be o)(hk:Kn o):∃l:Bn,iV prog fI 61 [Z8 g.Cards m N,.agg (aJ o)] 3 l.length (l.flatMap cZ)/\qo g o=some l/\l.length<=12/\l.Nodup:=by
 obtain⟨i,e,hi⟩:=TU so;have hb:=PN so hi;have hg:o.Guards.length<=1000000:=by grind [Be.nGuards]
 have:=AfF P h14 (λi o x ho hx=>(PN (P.w.ops i o ho).1 (P.w.ids i o x ho hx)).2) so hi (TP fI so e) λb=>⟨hb.1,hg,hk,b⟩;grind [Ag,RJ]
theorem Amm{r:Bc}{ms:Nat->Jb}(h:Aae r ms N)(ho:r.L[k]?=some o):Be o/\Kn o:=by obtain⟨sm,a,_⟩:=h.wf.ops k o ho;have f:=T1 a.numbers;have:=sm.nGuards;refine⟨sm,λhk=>?_⟩;grind [Ot,ah]
theorem Amn{x:Option α}{Q:α->Prop}(h:T x Q):T x λv=>x=some v/\Q v:=by obtain⟨v,e,q⟩:=h;exact⟨v,e,e,q⟩
theorem Iv(h:T (qo g o) λl=>l.length<=3000):T (jm g o) λl=>l.length<=200000:=by unfold jm;refine .bindc (zh _) λv1 _=> .ite (λ_=> .some aC) λ_=> .bind (h.mono λv4 h4=>?_);grind [cX,T.some,Od]
theorem Oh{l:Bn}(hl:l.length<=9223372036854775807)(hi:∀x∈l,c8 x){most:Int}(hm:most<=14)(hk:k<=1000)(w:G9 g)(gr:LC g0 g)(hg:g.L.length<=k):T (ly l most (g,(k:Int))) (Rd (λs'=>s'.2=((k+1:Nat):Int)/\(k:Int)<most/\G9 s'.1/\LC g0 s'.1/\(g.L≠[]->s'.1.L≠[])/\s'.1.L.length<=g.L.length+1) λv=>v=g/\(k=0->most<=0)):=by
 have e2:wI (2*(k:Int))=((2*k:Nat):Int):=by grind [bM]
 have e3:wI (((2*k:Nat):Int)+1)=((2*k+1:Nat):Int):=aq aa;have at_:∀(n:Nat) {Q:Int->Prop},(∀v,c8 v->Q v)->T (bif (n:Int)<ah l then((aS l (n:Int)).bind λp=>some p)else(some 0)) Q:=λn Q q=>by refine .dec (λhp=>?_) λ_=> .some (q 0 dP);refine .bind (.ixl aa (by unfold ah at hp;omega) λy _ hy=> .some (q y (hi y hy)))
 unfold ly;simp only[e2,e3];refine .bind (T.mono (Q:=λb:Bool=>(b=true->(k:Int)<most)/\(b=false->k=0->most<=0)) (.dec (λhp=>?_) λhp=> .some ⟨λe=>(by cases e),λ_ e=>(by subst e;exact Int.not_lt.1 hp)⟩) λb hb=> .ite (λe=>?_) λe=> .some ⟨rfl,hb.2 e⟩)
 .have:(k:Int)<most:=hp;refine .ite (λ_=> .some ⟨λ_=>this,λe=>(by cases e)⟩) λh4=> .some ⟨λ_=>this,λ_ e=>?_⟩;subst e;exact absurd h4 (λe=>Bool.noConfusion e)
 have hk':=hb.1 e;have hw:wI ((k:Int)+1)=((k+1:Nat):Int):=aq aa;refine .bind (at_ (2*k) λD t=> .bind (at_ (2*k+1) λE f=>?_));obtain⟨ms,N,u,_,_,h4⟩:=OL gr rfl rfl Ls;have P:=AfI w h4 gr rfl (by rw[u];show u7.length<=1000;rw[KL];decide) (u▸Og) (by rw[u];show(u7.map (·.Device)).Nodup;rw[Amk];decide);refine .bind (T.mono (Amn (N2 w t f)) λo ⟨z,c⟩=> .bind ((Iv (by obtain⟨_,_,e,h⟩:=Ads P aa c.nopath (AhD f o z);exact⟨_,e,aa⟩)).mono λv25 F=> .bindc (uW (eX f BU)) λH _=> .bindc (.ite (λ_=> .some trivial) λ_=> .some trivial) λI _=> .bindc (zh _) λJ _=>?_));refine .bind (T.mono (Q:=λx:List Fp=>x.length<=1000/\∀y∈x,Jd y) (T.loop (λs=>∃j:Nat,s.2=(j:Int)/\j<=5/\s.1.length<=j/\∀y∈s.1,Jd y) (λs=>6-s.2.toNat) ⟨0,rfl,aa,aC,aC⟩ aC ?_) λA B=>?_)
 .rintro⟨a,i⟩ ⟨j,rfl,hj,ha,hs⟩;simp only at ha hs;have hwj:wI ((j:Int)+1)=((j+1:Nat):Int):=aq aa;unfold lw;refine .bind (T.mono (Q:=λb:Bool=>b=true->j<5) (.ite (λ_=> .ite (λ_=> .some λe=>?_) λ_=> .some λe=>by cases e) λ_=> .some λe=>by cases e) λb hb=> .ite (λe=>?_) λ_=> .some ⟨by grind,hs⟩)
  .grind
  .have:=hb e;refine .bind (.bind (.app cq (.some (.some ⟨⟨j+1,hwj,aa,by simp;omega,λy hy=>?_⟩,?_⟩))))
   .rcases JF.1 hy with hy|hy
    .grind
    .simp at hy;subst hy;exact⟨Mp _,aC,aC⟩
   grind
 .have so:Be {o with Path:=A}:=Hg c.iBy c.iSeq c.iKind c.iAt c.sPast c.iDevice c.iOld c.iMember c.iRole B c.epoch c.iN c.nBody c.sRefs c.of_ c.sGuards c.iNeed c.iWait c.sBoxes c.pub c.sHist;refine .bind ((Io so).mono λK C=>?_);obtain⟨s,rfl,hr,hs⟩:=C;refine .bind ((QG w (so.sig s) hs).mono λm d=> .dec (λh0=> .some ⟨hw,hk',d.1,?_,?_,?_⟩) λ_=> .some ⟨hw,hk',w,gr,λh=>h,Nat.le_succ _⟩)
  .rcases d.2 with⟨h,_⟩|⟨id,up,row,_,a,hid,hrow,hg⟩
   .grind
   .show LC g0 m.1;rw[hg];exact .step gr w (so.sig s) hr hs a hid hrow
  .rcases d.2 with⟨h,_⟩|⟨id,up,row,_,a,hid,hrow,hg⟩
   .grind
   .intro _;show m.1.L≠[];rw[hg];show g.L++[_]≠[];simp
  .rcases d.2 with⟨h,_⟩|⟨id,up,row,_,a,hid,hrow,hg⟩
   .grind
   .show m.1.L.length<=_;rw[hg];show(g.L++[_]).length<=_;simp
theorem Wf{l:Bn}(hl:l.length<=9223372036854775807)(hi:∀x∈l,c8 x){most:Int}(h0:0<most)(hm:most<=14):T (vq l most) λg=>G9 g/\LC g0 g/\g.L≠[]/\(g.L.length:Int)<=most:=by
 unfold vq r8;rw[aL,Oe,aL];unfold Jf;rw[aL];refine .bind (T.mono (Q:=λg:Bc=>G9 g/\LC g0 g/\g.L≠[]/\(g.L.length:Int)<=most) (T.loop (λs=>∃k:Nat,s.2=(k:Int)/\k<=1000/\G9 s.1/\LC g0 s.1/\(k=0->s.1=g0)/\(k≠0->s.1.L≠[])/\s.1.L.length<=k/\(k:Int)<=most) (λs=>1001-s.2.toNat) ⟨0,rfl,aa,Yu,.base,λ_=>rfl,(by grind),Nat.zero_le _,by grind⟩ aC ?_) λv hv=> .some hv);rintro⟨g,i⟩ ⟨k,rfl,hk,w,gr,hz,a,hlk,b⟩;have hlk:g.L.length<=k:=hlk;obtain⟨r,e,hr⟩:=Oh hl hi hm hk w gr hlk;refine⟨r,e,?_⟩;cases r with
 |inr v=>obtain⟨rfl,h⟩:=hr;constructor<;>grind
 |inl s=>obtain⟨h1,h2,h3,h4,h5⟩:=hr;refine⟨⟨k+1,h1,aa,h3,h4,(by grind),λ_=>?_,by grind,aa⟩,?_⟩;all_goals grind [KM]
theorem Xe{l:Bn}(hl:l.length<=9223372036854775807)(hi:∀x∈l,c8 x):∃r ms N,vq l 14=some r/\Aae r ms N:=by obtain⟨r,e,w,g,ne,hn⟩:=Wf hl hi (most:=14) BU BU;obtain⟨ms,N,a,_,h3,h4⟩:=OL g rfl rfl Ls;exact⟨r,ms,N,e,w,ne,h3,h4,g,a,aa⟩
section
variable {gl:CC}
abbrev DnV(gl:CC)(fi:FuncId)(fa fc:Bk)(p:Ab->Bool):Prop:=Uk prog gl fi fa fc (λx:Ab=>[.agg (aj x)]) (λx:Bool=>bG x) (λk=>some (p k))
theorem AfG{p:Ab->Bool}(hv:DnV gl fi fa fc p){l:Ba}(hn:l.length<=1000000):iV prog gl 21 [aE aj l,.clo (.func fi) fa fc] 41 (l.filter p).length ((l.filter p).flatMap aj):=by
 refine OW func21 ?_;refine XU (l:=l) aa (λk:Nat=>(s0 23 gl [(1,.clo (.func fi) fa fc),(5,.rsl 0 0 ((l.take k).filter p).length),(8,aE aj l),(9,iG (ah l)),(10,iG (k:Int))] [(0,BA ((l.take k).filter p))] 1 0)) 1110122 [] [hc hv.im,hc (ac.imm [])] (λB k x hx hz k5=>?_) (λB=>?_)
 .have hlt:=(cr hx).1;have hl:((l.take k).filter p).length<=k:=Nj (Oa _ _) (by rw[Lv];omega);rw[JD,hx,Option.toList_some,Se] at k5;generalize (l.take k).filter p=q at k5 hl⊢;have hcs:=hv.cs (c:=2) (x:=x) rfl (aY (aG 20 (.agg (aj x)) aH) bf);cases hp:p x with
  |true=>rw[hp] at hcs;rw[List.filter_cons_of_pos hp,List.filter_nil] at k5;exact jw [hr 11 (CB hx),AB 12 (ac.ixZ hz),AB 13 (ac.ptZ aW hz),Go.Proofs.YtjbfcillbjiajaaGreatDoor.hz 16 [] hcs,Tn 20 ac 24 q x aa,hbb 21 (Xl (q:=k) aa)] [hc hv.im,hc (el (q++[x])),hc (ac.imm (q++[x]))] k5
  |false=>rw[hp] at hcs;rw[List.filter_cons_of_neg (by simp[hp]),List.filter_nil,LP] at k5;exact jw [hr 11 (CB hx),AB 12 (ac.ixZ hz),AB 13 (ac.ptZ aW hz),Go.Proofs.YtjbfcillbjiajaaGreatDoor.hz 16 [] hcs,hbb 21 (Xl (q:=k) aa)] [hc hv.im,hc (el q),hc (ac.imm q)] k5
 .rw[EZ];exact EI [hr 11 (DS (s:=l))] (ac.imm (l.filter p))
section
variable {gg:Az}
theorem Adq{l:Bn}{b:Bool}{ss:K4}(hc:ba prog gl 59 [iG o.Kind] (bG b))(hA:b=true->ba prog gl 61 [.ptr (Ag gg) 0,.agg (aJ o)] (aE cZ l))(a:b=true->ba prog gl 60 [aE cZ l,iG o.By] (aE Jc ss)):ba prog gl 25 [.ptr (Ag gg) 0,.agg (aJ o)] (aE Jc (bif b then ss else[])):=by
 refine Gh func25 ?_;cases b with
 |false=>exact Ar [hf 7 hc] []
 |true=>exact Ar [hf 7 hc,hf 11 (hA rfl),hf 14 (a rfl)] []
theorem AfH(h:Np gl gg I)(hS:ba prog gl 25 [.ptr (Ag gg) 0,.agg (aJ (I.o x))] (aE Jc ss)):ba prog gl 9 [.ptr (Ag gg) 0,.agg (aj x)] (aE Jc (bif(I.op x).isSome then ss else[])):=by
 have ho:=h.op x;refine Gh func9 ?_;generalize (I.op x).isSome=b at ho⊢;cases b with
 |false=>exact Ar [hf 10 ho] []
 |true=>exact Ar [hf 10 ho,hf 17 hS] []
def Acm(n:Nat)(o:Bo):Bool:=bif (0:Int)<(n:Int)then decide ((n:Int)=ah o.Path)else false
theorem AhE(h:Np gl gg I)(hS:ba prog gl 25 [.ptr (Ag gg) 0,.agg (aJ (I.o x))] (aE Jc ss)):ba prog gl 23 [.agg (aj x),.ptr [.ptr (Ag gg) 0] 0] (bG (Acm ss.length (I.o x))):=by
 have ho:=h.op x;refine Gh func23 ?_;unfold Acm;cases c:decide ((0:Int)<(ss.length:Int)) with
 |false=>exact Ar [hf 10 ho,hf 15 hS,hr 18 c] []
 |true=>exact Ar [hf 10 ho,hf 15 hS,hr 18 c] []
theorem Acn(h:Np gl gg I){ss:Ab->K4}(hS:∀x,ba prog gl 25 [.ptr (Ag gg) 0,.agg (aJ (I.o x))] (aE Jc (ss x)))(hO:ba prog gl 22 [.ptr (Ag gg) 0,aE aj ids] (aE aj row))(hn:row.length<=1000):ba prog gl 7 [.ptr (Ag gg) 0,aE aj ids] (aE aj (row.filter λx=>Acm (ss x).length (I.o x))):=by have hv:DnV gl 23 [] [.ptr [.ptr (Ag gg) 0] 0] (λx=>Acm (ss x).length (I.o x)):=⟨aH,bf,aY (aG 20 (.ptr [.ptr (Ag gg) 0] 0) aH) bf,λx r e=>by cases e;exact AhE h (hS x)⟩;have hF:=AfG hv (l:=row) aa;refine Gh func7 ?_;exact Ar [hf 7 hO,ho 9 [aE aj row,.clo (.func 23) [] [.ptr [.ptr (Ag gg) 0] 0]] [] hF (kF _)] [hc (ac.al (row.filter λx=>Acm (ss x).length (I.o x)))]
end
end
structure Apw where
 Set:Bn
 Pub:Nat
 By:Ab
 N:Int
def LR(set:Bn)(d:Int):Bool:=decide (d∈set)
section
variable {gl:CC}
theorem Al9{set:Bn}(hs:set.length<=1000000)(d:Int):ba prog gl 31 [aE cZ set,iG d] (bG (LR set d)):=DF gl (by grind [Tk,LR])
end
end Go.Proofs.YtjbfcillbjiajaaGreatDoor
