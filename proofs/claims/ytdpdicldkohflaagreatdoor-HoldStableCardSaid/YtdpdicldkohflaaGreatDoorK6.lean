/- Texts. -/
import Derived.LaidHandle
import Derived.LaidMore
import Derived.OpenShut
import Derived.ProofKit
import Derived.Test.YtdpdicldkohflaaGreatDoorRows
import Derived.Test.YtdpdicldkohflaaGreatDoorW6
namespace Go.Proofs.YtdpdicldkohflaaGreatDoor
set_option linter.unusedSectionVars false
set_option linter.unusedVariables false
set_option linter.unusedSimpArgs false
open Go.RowKit Go.Proofs.Tryz Go.ChangeShapes Go.WideShapes Go.ChangeAt
attribute [local irreducible] Tr dz Gp
variable {α:Type}{l:List α}{base g i:Nat}{W w:World}{t:TypeId}{v:Value}
theorem AdH{l:Bp}{r:Ba}{ms:Nat->I1}{N:IX}(e:vq l 14=some r)(h:Aae r ms N):jg prog fI 7 [aE cZ l] [] 0 (.tup [.ref 0 0,.agg (aI r)]) [(0,oG r.Cards r.L.length 2),(1,oM (ms r.L.length)),(2,oN3 N r.L.length)] 3:=by refine pP func7 ?_;exact Hf .ret (s0 10 fI [(2,.ref 0 0),(3,.ptr (aI r) 0)] [(0,oG r.Cards r.L.length 2),(1,oM (ms r.L.length)),(2,oN3 N r.L.length)] 3 0) [.ref 0 0,.agg (aI r)] [hf 6 (Jm fI e),tN 8 [] 2 [] [.agg (aI r)] [ob 0 134 [aE bv r.Cards,.mref 3,.rsl 4 0 r.L.length],(1,oM (ms r.L.length)),(2,oN3 N r.L.length)] (ZC h.run) trivial ⟨⟨rfl,.inl rfl⟩,⟨rfl,rfl,rfl,rfl,.inr ⟨rfl,cf _⟩⟩,⟨rfl,.inr ⟨rfl,az.imm _⟩⟩,trivial⟩] [hc (eB (gs:=aI r) aH),hc (rfl:r.L.length=r.L.length),hc (cf (ms r.L.length)),hc (az.imm (N.take r.L.length))]
theorem AdI{l:Bp}(hl:l.length<=9223372036854775807)(hi:∀x∈l,c8 x):∃(r:Ba) (m:I1) (N:IX),Pg r m N/\r.L.length<=15/\r.L≠[]/\(∀(k:Nat) (o:Bq),r.L[k]?=some o->Kn o)/\Lu g0 r/\r.Cards=u7/\jg prog fI 7 [aE cZ l] [] 0 (.tup [.ref 0 0,.agg (aI r)]) [(0,oG r.Cards N.length 2),(1,oM m),(2,zQ N)] 3:=by
 obtain⟨r,b,N,c,hM⟩:=Xe hl hi;have a:=AdH c hM;have pl:=hM.pg.len;have eN:oN3 N r.L.length=zQ N:=by grind
 rw[eN,<-pl] at a;exact⟨r,b N.length,N,by rw[pl];exact AlQ hM,Nat.le_succ_of_le hM.n14,hM.ne,λk o h=>(AlR hM h).2,hM.gr,hM.gC,a⟩
theorem AeK(a:ba prog fI 11 [] (bG true)){l:Bp}(hl:l.length<=9223372036854775807)(hi:∀x∈l,c8 x)(id:Ab):ba prog fI 3 [aE cZ l,.agg (aj id)] (bG true):=by
 obtain⟨r,m,N,P,h14,_,_,_,b,hM⟩:=AdI hl hi;have nI:=P.w.nI;obtain⟨al,ids,row,R,D,sen,_,_,_,_,_,_,_,_,_,_,_,hS⟩:=ZR P h14;have h0:id∉r.IDs->UH (CO r m N) R row al id=false:=λh=>by unfold UH;rw[C5 ((AeJ P).2 h)];rfl
 generalize UH (CO r m N) R row al=sb at hS h0;simp only[Ag,RJ] at hS;refine Gh func3 ?_;refine dLl (l:=r.IDs) aa (λk:Nat=>(s0 50 fI [(3,.ptr (aj id) 0),(5,Z8 r.Cards m N),(6,.ptr (aI r) 0),(7,iG (k:Int))] [] 0 0)) 11110122 [tN 10 [] 1 [] [aE cZ l] [ob 0 134 [aE bv r.Cards,.mref 2,.rsl 3 0 N.length],(1,oM m),(2,zQ N)] hM trivial ⟨⟨rfl,.inl rfl⟩,⟨rfl,rfl,rfl,rfl,.inr ⟨rfl,cf _⟩⟩,⟨rfl,.inr ⟨rfl,az.imm _⟩⟩,trivial⟩] [hc (eB (gs:=aj id) aH),hc (cf m),hc (az.al N),hc (eB (gs:=[aE bv r.Cards,gMp m,aE d7 N]) aH),hc (eB (gs:=aI r) aH)] (λB k x hx hz k5=>?_) (λB=>?_)
 .have hk:=(cr hx).1;obtain⟨h1,h2⟩:=hS x;have h3:=aaZ fI h2;have hb:∀p q:DC,b8 prog .neq 4 p q (bG (sb x)) (bG (sb x))=some (bG false):=λp q=>by cases sb x<;>kernel_rfl
  exact jw [hr 19 (C7 hx),AH 26 (ac.ixZ hz),AH 27 (ac.ptZ aW hz),hf 28 h1,AH 33 (ac.ixZ hz),AH 34 (ac.ptZ aW hz),hf 35 h3,hV 36 hb,hbb 21 (Xl (q:=k) aa)] [] k5
 .have h40:=jM fI (kf (l:=r.IDs) aa id);cases hh:nA r.IDs id with
  |true=>rw[hh] at h40;exact Ar [hr 19 (DZ (s:=r.IDs)),hf 40 h40,hf 48 a] []
  |false=>
   rw[hh] at h40;have h1:=(hS id).1;rw[h0 λhm=>by unfold nA at hh;rw[List.any_eq_false] at hh;exact hh id hm aC] at h1
   exact Ar [hr 19 (DZ (s:=r.IDs)),hf 40 h40,hf 44 h1,hf 48 a] []
section
variable {P:Bu}
theorem aa0{ops:Array Oper}{d K2:St->Prop}:∀(l l2:Hv) (st:St),D8 P ops d l st->(∀s,d s->D8 P ops K2 l2 s)->D8 P ops K2 (l++l2) st
 |[],l2,st,h,hk=>hk st h
 |o::r,l2,st,h,hk=>by
  rcases h with⟨a,s1,b,c⟩|⟨a,b,c⟩
  .exact .inl ⟨a,s1,b,aa0 r l2 s1 c hk⟩
  .exact .inr ⟨a,b,aa0 r l2 _ c hk⟩
def gsR(P:Bu)(hs:List Hn)(c:Code)(k:Nat)(st:St):Option (Prop×Br×St×Op×Option Tmp×Fl):=match c with
 | .region _ ops false=>match qd P ops hs (ops.toList.take k) st with
  |some (C,u,s1)=>match ops.toList.drop k with
   |[o]=>some (C,u,s1,o.op,o.dst,ce s1 ops o)
   |_=>none
  |none=>none
 |_=>none
variable [M:Mix P] {st:St} {Q:Exit->St->Prop} {fn:Func} {Bs:List (St->Prop)} {p:Br}
section
attribute [local semireducible] Tr dz Gp
theorem dGs(k:Nat){op:Op}{d:Option Tmp}{s1 s2:St}(A:List HP)(hG:∀o:Oper,o.op=op->o.dst=d->GS P o s1 s2)(kk:Gp P fn Q Bs true p s2)(hk:TF A (gsR P (bK A) (bq p (ai fn)) k st) (s1,op,d,some true):=by exact⟨aH,aH⟩):Gp P fn Q Bs false p st:=by
 obtain⟨C,u,b,e⟩:=hk.out;show Tr P (bq p (ai fn)) st (dz P (bE p (ai fn) Bs []) Q);unfold gsR at e;split at e;rotate_left
 .cases e
 rename_i id ops hc;split at e;rotate_left
 .cases e
 rename_i i u1 s3 c;split at e;rotate_left
 .cases e
 rename_i o ho;simp only[Fa,Fq] at e;obtain⟨rfl,rfl,rfl,rfl,rfl,hw⟩:=e;rw[hc];have q1:=Mz c b;have hl:ops=(ops.toList.take k++[o]).toArray:=by rw[<-ho];simp
 generalize ops.toList.take k=x at*;subst hl;exact λcx a w R r h=>wpIn_region_lit (xK (K:=λs=>s=s2) (λst' a2 f q g=>h .normal _ a2 f kk (by rw[<-q];exact g)) _ st a w (aa0 x [o] st q1 λs hs=>by subst hs;exact .inl ⟨hw,s2,hG o rfl rfl,rfl⟩) r)
end
theorem Ai9{f:α->Bn}{ts te:Bk}{s:Nat}(R:A3 P ts te s f){σ:aQ}{j:Nat}{z l:List α}{a:Bk}(hi:ag σ i=some ⟨a,z.flatMap f,none⟩){b:Ob}(hj:ag σ j=some b)(h2:b.l=l.flatMap f)(hz:z.length=l.length)(h0:0<l.length)(hs:bw P te=some s):Qq P σ ts (.rsl i 0 l.length) (.rsl j 0 l.length)=some (i,⟨a,l.flatMap f,none⟩,l.length):=by
 have h1:(l.flatMap f).length=l.length*s:=R.len l;have h3:(z.flatMap f).length=l.length*s:=by rw[R.len z,hz]
 unfold Qq;dsimp only;rw[hi,show dp P ts=some te from R.el];dsimp only;rw[hs];dsimp only;rw[show fO σ s (.rsl j 0 l.length)=some (l.flatMap f,l.length) by unfold fO;dsimp only;rw[hj,aL,h2,BB aa,List.drop_zero,List.take_of_length_le aa]]
 dsimp only;rw[BB ⟨rfl,h0,R.kp,aa,rfl⟩,List.take_zero,OS,List.drop_eq_nil_of_le aa,KS]
end
def Aa2(d:Int)(ss:Ab->LQ)(x:Aj):Bp:=bif x=NR then[d]else bif x.n<ah (ss x.commit)then(aS (ss x.commit) x.n).getD [] else[]
def c1B(I:Gi)(set:Bp)(x:Aj)(v:Ab):Bool:=bif Y5 set v.By then(bif x=NR then true else I.bef x.commit v)else false
def TD(I:Gi)(d:Int)(ss:Ab->LQ)(a:Bb)(x:Aj):Bool:=a.any (c1B I (Aa2 d ss x) x)
section
variable {gg:Az} {I:Gi} (h:Nk fI gg I)
include h
theorem AgW{g:G}{set:Bp}(hs:g=aE cZ set\/g=Iy)(hg:∀d,ba prog fI 66 [g,iG d] (bG (Y5 set d)))(x:Aj)(v:Ab):ba prog fI 65 [.agg (aj v),.ptr [g] 0,.ptr (bj x) 0,bxG gg] (bG (c1B I set x v)):=by
 have h1:=hg v.By;have h2:=h.bef x.commit v;refine Gh func65 ?_;unfold c1B;rcases hs with rfl|rfl
 all_goals cases c1:Y5 set v.By with
 |false=>rw[c1] at h1;exact Ar [hf 9 h1] []
 |true=>
  rw[c1] at h1
  cases c2:decide (x=NR) with
  |true=>exact Ar [hf 9 h1,hV 13 (yV x NR c2)] []
  |false=>exact Ar [hf 9 h1,hV 13 (yV x NR c2),hf 19 h2] []
theorem aa1{g:G}{set:Bp}(hs:g=aE cZ set\/g=Iy)(hg:∀d,ba prog fI 66 [g,iG d] (bG (Y5 set d)))(hi:bB (.ptr [g] 0))(x:Aj){stl:Bb}(hn:stl.length<=1000):ba prog fI 64 [aE aj stl,.clo (.func 65) [] [.ptr [g] 0,.ptr (bj x) 0,bxG gg]] (bG (stl.any (c1B I set x))):=
 kP fI (f:=λv=>some (c1B I set x v)) ⟨aH,bf,aY hi (aY (aG 20 (.ptr (bj x) 0) aH) (aY (aG 20 (bxG gg) aH) bf)),λv r e=>by cases e;exact AgW h hs hg x v⟩ (Abu aa λ_ _=>rfl)
end
def Wv(g:Aj->Bool)(l:List Aj)(m:FM Aj Nat):FM Aj Nat:=(l.filter g).foldl MJ m
def R7(g:Aj->Bool)(d:Int)(l:List Aj):List MY:=(l.filter g).map (C4 d)
abbrev frC(gg:Az)(a:Bb)(n k:Nat)(srt:List Aj):Fr:=[(0,.ref 0 0),(3,bxG gg),(5,aE aj a),(10,.rsl 2 0 n),(40,aE bj srt),(41,iG (ah srt)),(42,iG (k:Int))]
theorem Ali{n:Nat}(h:n<=12):tI prog 126 (iG (n:Int)) (iG (n:Int))=some (117,(List.replicate n NR).flatMap bj,n):=by rcases(show n=0\/n=1\/n=2\/n=3\/n=4\/n=5\/n=6\/n=7\/n=8\/n=9\/n=10\/n=11\/n=12 by omega) with rfl|rfl|rfl|rfl|rfl|rfl|rfl|rfl|rfl|rfl|rfl|rfl|rfl<;>kernel_rfl
abbrev hc7{gg:Az}{stl:Bb}{g:G}{x:Aj}{b:Bool}(O:List HP)(t:ba prog fI 64 [aE aj stl,.clo (.func 65) [] [.ptr [g] 0,.ptr (bj x) 0,bxG gg]] (bG b)):HP:=hq 70 [aE aj stl,.clo (.func 65) [] [.ptr [g] 0,.ptr (bj x) 0,bxG gg]] O t
abbrev Alk(m:FM Aj Nat)(x:Aj):HP:=hmd 16 (AjO (P:=prog) (σ:=[(1,eI m)]) (t:=GI) (t':=GI) (et:=23) (vg:=uGn) (i:=1) LB aH (k:=x) (gk:= .agg (bj x)) rfl (m:=m) Nw)
abbrev Alm(d:Int)(m:FM Aj Nat)(x:Aj):HP:=hq 79 [.ptr [iG d,Ug m] 0,.agg (bj x)] [hc (JH m)] (R3 fI d (Ug m) x)
abbrev stC(gg:Az)(a:Bb)(d:Int)(m:FM Aj Nat)(srt z:List Aj):St:=(s0 84 fI [(38,.rsl 2 0 srt.length),(37,.rsl 3 0 srt.length),(0,.ref 0 0),(3,bxG gg),(5,aE aj a),(8,.rsl 2 0 srt.length),(9,.rsl 3 0 srt.length)] (σH d m++[(2,pU srt),(3,pU z)]) 4 2)
theorem AeM{gg:Az}{I:Gi}(h:Nk fI gg I){al cs:Bb}(hA:ba prog fI 15 [.ptr (Ag gg) 0] (aE aj al))(f:ba prog fI 14 [.ptr (Ag gg) 0,aE aj al] (aE aj cs))(hn:cs.length<=1000){sb:Ab->Bool}(hS:∀x∈cs,ba prog fI 8 [.ptr (Ag gg) 0,.agg (aj x)] (bG (sb x))){ss:Ab->LQ}(hT:∀x,ba prog fI 16 [.ptr (Ag gg) 0,.agg (aj x)] (aE Jc (ss x)))(hl:∀x,∀s∈ss x,s.length<=1000000){d:Int}{m:FM Aj Nat}{srt:List Aj}(hm:YF m srt)(h0:0<srt.length)(a:∀x∈srt,0<=x.n):jg prog fI 19 [.ref 0 0,.ptr (Ag gg) 0] (σH d m) 2 (.rsl 2 0 (R7 (TD I d ss (cs.filter sb)) d srt).length) [(0,oH d 1),(1,eI (Wv (TD I d ss (cs.filter sb)) srt m)),(2,oTm (R7 (TD I d ss (cs.filter sb)) d srt))] 3:=by
 have hsn:srt.length<=12:=by have:=hm.n;have:=hm.len;omega
 refine pP func19 ?_;have hfl:(cs.filter sb).length<=1000:=LC (M7 ..) hn;refine Ix 11101 (s0 84 fI [(0,.ref 0 0),(3,bxG gg),(5,aE aj (cs.filter sb))] (σH d m) 2 2) ?_ λi=>?_;rotate_left
 .refine dLl (l:=cs) aa (λk:Nat=>(s0 84 fI [(0,.ref 0 0),(3,bxG gg),(5,.rsl 2 0 ((cs.take k).filter sb).length),(18,aE aj cs),(19,iG (ah cs)),(20,iG (k:Int))] (σH d m++[(2,BA ((cs.take k).filter sb))]) 3 2)) 1110122 [hf 17 hA,hf 18 f] [hc (eB (gs:=[.ptr (Ag gg) 0]) aH),hc (JH m),hc (ac.imm [])] (λB k x hx hz k5=>?_) (λB=>?_) [25]
  .have hk:=(cr hx).1;have h1:=hS x (bO hx);have hll:((cs.take k).filter sb).length<=1000:=LC (M7 ..) (by rw[MG];omega);rw[show(cs.take (k+1)).filter sb=(cs.take k).filter sb++(bif sb x then[x] else[]) by rw[Jk,hx,Option.toList_some,Ps];cases c:sb x<;>simp[c]] at k5
   generalize (cs.take k).filter sb=l at hll k5⊢;cases c:sb x with
   |false=>rw[c] at h1 k5;rw[Be,KS] at k5;exact jw [hr 21 (C7 hx),AH 22 (ac.ixZ hz),AH 23 (ac.ptZ aW hz),hf 26 h1,hbb 31 (Xl (q:=k) aa)] [hc (el l),hc (JH m),hc (ac.imm l)] k5
   |true=>rw[c] at h1 k5;rw[ax] at k5;exact jw [hr 21 (C7 hx),AH 22 (ac.ixZ hz),AH 23 (ac.ptZ aW hz),hf 26 h1,Tn 30 ac 24 l x aa,hbb 31 (Xl (q:=k) aa)] [hc (el (l++[x])),hc (JH m),hc (ac.imm (l++[x]))] k5
  .rw[EG];exact yl 11101 [hr 21 (DZ (s:=cs))] [hc (ac.al (cs.filter sb)),hc (JH m)] i
 generalize cs.filter sb=stl at hfl⊢;refine pO 1111110 (s0 84 fI [(0,.ref 0 0),(3,bxG gg),(5,aE aj stl),(8,.rsl 2 0 srt.length),(9,.rsl 3 0 srt.length)] (σH d m++[(2,pU srt),(3,pU (List.replicate srt.length NR))]) 4 2) [hnm fI d 33 2 hm,hk 36 ((List.replicate srt.length NR).flatMap bj) srt.length (Ali hsn)] [hc (el srt),hc (el srt),hc (JH m),hc (AA.imm srt),hc (AA.imm (List.replicate srt.length NR))] ?_;have hG:∀o:Oper,o.op= .call {callee:= .builtin .copy,args:= #[.tmp 37,.tmp 38],argTypes:= #[126,126]}->o.dst=some 39->GS prog o (stC gg stl d m srt (List.replicate srt.length NR)) ({stC gg stl d m srt (List.replicate srt.length NR) with σ:=(3,pU srt)::(stC gg stl d m srt (List.replicate srt.length NR)).σ}.put o.dst (iG (srt.length:Int))):=λo e1 e2=>Tc e1 (λq e=>by rw[e2] at e;cases e;show 39<84;decide) (Ai9 AA (l:=srt) (z:=List.replicate srt.length NR) rfl rfl rfl aC h0 aH);refine dGs 2 [] (d:=some 39) (λo e1 e2=>e2▸hG o e1 e2) ?_;have eM:∀(k:Nat) (x:Aj),srt[k]?=some x->Wv (TD I d ss stl) (srt.take (k+1)) m=(bif TD I d ss stl x then MJ (Wv (TD I d ss stl) (srt.take k) m) x else Wv (TD I d ss stl) (srt.take k) m)/\R7 (TD I d ss stl) d (srt.take (k+1))=R7 (TD I d ss stl) d (srt.take k)++(bif TD I d ss stl x then[C4 d x] else[]):=λk x hx=>by unfold Wv R7;rw[Jk,hx,Option.toList_some,Ps,No,List.map_append];cases c:TD I d ss stl x<;>simp[c]
 refine dLl (l:=srt) aa (λk:Nat=>(s0 84 fI (frC gg stl (R7 (TD I d ss stl) d (srt.take k)).length k srt) [(0,oH d 1),(1,eI (Wv (TD I d ss stl) (srt.take k) m)),(2,oTm (R7 (TD I d ss stl) d (srt.take k)))] 3 2)) 111111110122 [] [hc (AA.al srt),hc (JH m),hc (fL.imm [])] (λB k x hx hz k5=>?_) (λB=>?_) [53]
 .have hk:=(cr hx).1;have hol:(R7 (TD I d ss stl) d (srt.take k)).length<=1000:=by unfold R7;rw[GJ];exact LC (M7 ..) (by rw[MG];omega)
  rw[(eM k x hx).1,(eM k x hx).2] at k5;generalize R7 (TD I d ss stl) d (srt.take k)=out at hol k5⊢;generalize Wv (TD I d ss stl) (srt.take k) m=m at k5⊢;have hin:∀{set:Bp},set.length<=1000000->∀e,ba prog fI 66 [aE cZ set,iG e] (bG (Y5 set e)):=λhs e=>AlE hs e;unfold TD at k5;cases c0:decide (x=NR) with
  |true=>
   have hA:=aa1 h (g:=aE cZ [d]) (set:=[d]) (.inl rfl) (hin aC) (aG 20 (.ptr [aE cZ [d]] 0) aH) x hfl;rw[show Aa2 d ss x=[d] by unfold Aa2;rw[c0];rfl] at k5;cases c:stl.any (c1B I [d] x) with
   |false=>rw[c] at hA k5;rw[Be,Be,KS] at k5;exact jw [hr 43 (C7 hx),AH 44 (AA.ixZ hz),AH 45 (AA.ptZ ee hz),hV 53 (KF x NR (r:=false) (by rw[c0];rfl)),hc7 [hc (rZ.al [d])] hA,hbb 82 (Xl (q:=k) aa)] [hc (el out),hc (JH m),hc (fL.imm out)] k5
   |true=>rw[c] at hA k5;rw[ax,ax] at k5;exact jw [hr 43 (C7 hx),AH 44 (AA.ixZ hz),AH 45 (AA.ptZ ee hz),hV 53 (KF x NR (r:=false) (by rw[c0];rfl)),hc7 [hc (rZ.al [d])] hA,Alk m x,Alm d (MJ m x) x,Tn 81 fL 48 out (C4 d x) aa,hbb 82 (Xl (q:=k) aa)] [hc (el (out++[C4 d x])),hc (JH (MJ m x)),hc (fL.imm (out++[C4 d x]))] k5
  |false=>
   have ht:=hT x.commit;cases c1:decide (x.n<ah (ss x.commit)) with
   |true=>
    have b:=a x (bO hx);obtain⟨set,hset⟩:∃set,(ss x.commit)[x.n.toNat]?=some set:=⟨_,EA (by have:=DS c1;unfold ah at this;omega)⟩;have hsz:aS (ss x.commit) x.n=some set:=by have e:=Int.toNat_of_nonneg b;rw[<-e,au];exact hset
    have hA:=aa1 h (g:=aE cZ set) (set:=set) (.inl rfl) (hin (hl _ set (bO hset))) (aG 20 (.ptr [aE cZ set] 0) aH) x hfl;rw[show Aa2 d ss x=set by unfold Aa2;rw[c0,c1,hsz];rfl] at k5;cases c:stl.any (c1B I set x) with
    |false=>rw[c] at hA k5;rw[Be,Be,KS] at k5;exact jw [hr 43 (C7 hx),AH 44 (AA.ixZ hz),AH 45 (AA.ptZ ee hz),hV 53 (KF x NR (r:=true) (by rw[c0];rfl)),hf 57 ht,hr 62 c1,AH 66 (nH.ixZ hsz),AH 67 (nH.p1Z Vs hsz),hc7 [] hA,hbb 82 (Xl (q:=k) aa)] [hc (el out),hc (JH m),hc (fL.imm out)] k5
    |true=>rw[c] at hA k5;rw[ax,ax] at k5;exact jw [hr 43 (C7 hx),AH 44 (AA.ixZ hz),AH 45 (AA.ptZ ee hz),hV 53 (KF x NR (r:=true) (by rw[c0];rfl)),hf 57 ht,hr 62 c1,AH 66 (nH.ixZ hsz),AH 67 (nH.p1Z Vs hsz),hc7 [] hA,Alk m x,Alm d (MJ m x) x,Tn 81 fL 48 out (C4 d x) aa,hbb 82 (Xl (q:=k) aa)] [hc (el (out++[C4 d x])),hc (JH (MJ m x)),hc (fL.imm (out++[C4 d x]))] k5
   |false=>
    have hA:=aa1 h (g:=Iy) (set:=[]) (.inr rfl) (λe=>UY [Iy,iG e] (hin (set:=[]) aC e)) (aG 20 (.ptr [Iy] 0) aH) x hfl;rw[show Aa2 d ss x=[] by unfold Aa2;rw[c0,c1];rfl] at k5;have hno:stl.any (c1B I [] x)=false:=List.any_eq_false.2 λv _=>by unfold c1B Y5;simp
    rw[hno] at hA k5;rw[Be,Be,KS] at k5;exact jw [hr 43 (C7 hx),AH 44 (AA.ixZ hz),AH 45 (AA.ptZ ee hz),hV 53 (KF x NR (r:=true) (by rw[c0];rfl)),hf 57 ht,hr 62 c1,hc7 [] hA,hbb 82 (Xl (q:=k) aa)] [hc (el out),hc (JH m),hc (fL.imm out)] k5
 .rw[EG];generalize R7 (TD I d ss stl) d srt=out;generalize Wv (TD I d ss stl) srt m=m;exact Hf .ret (s0 84 fI [(4,.rsl 2 0 out.length)] [(0,oH d 1),(1,eI m),(2,oTm out)] 3 2) [.rsl 2 0 out.length] [hr 43 (DZ (s:=srt))] [hc (el out),hc (JH m),hc (fL.imm out)]
section
variable {g:Ba} {m:I1} {N:IX} (P:Pg g m N) (h14:g.L.length<=15) (hkn:∀(k:Nat) (o:Bq),g.L[k]?=some o->Kn o)
include P h14 hkn
abbrev ssG(g:Ba)(m:I1)(N:IX)(x:Ab):LQ:=stL g ((CO g m N).o x)
theorem AeN:∃(al ids row cs:Bb) (R:Ad) (D:Dx) (sen:Bp),al.Perm ids/\xt g=some ids/\ids.Perm g.IDs/\n8 g ids=some row/\row.Perm ids/\Bj R/\Rr R D/\Aho g m N ids R sen/\cs=row.filter (isC g (CO g m N))/\Sd g ids=some cs/\(∀id,ba prog fI 8 [Z8 g.Cards m N,.agg (aj id)] (bG (UH (CO g m N) R row al id))/\Nn g id=some (UH (CO g m N) R row al id))/\∀{d:Int} {hm:FM Aj Nat} {srt:List Aj},YF hm srt->0<srt.length->(∀x∈srt,0<=x.n)->jg prog fI 19 [.ref 0 0,Z8 g.Cards m N] (σH d hm) 2 (.rsl 2 0 (R7 (TD (CO g m N) d (ssG g m N) (cs.filter (UH (CO g m N) R row al))) d srt).length) [(0,oH d 1),(1,eI (Wv (TD (CO g m N) d (ssG g m N) (cs.filter (UH (CO g m N) R row al))) srt hm)),(2,oTm (R7 (TD (CO g m N) d (ssG g m N) (cs.filter (UH (CO g m N) R row al))) d srt))] 3:=by
 have hI:=WY (UB P.w P.p);obtain⟨al,ids,row,R,D,sen,hA,pm,f,l,a1,a2,i,b,r,t,c,hS⟩:=ZR P h14;have v1:E1 g ids:=⟨λx hx=>f.sub x (pm.mem_iff.2 hx),by rw[<-pm.length_eq];exact f.len⟩;have v2:ids.Nodup:=pm.nodup_iff.1 l;obtain⟨u,c1,_,c2,c3,c4⟩:=Abd P h14 hkn f l;obtain⟨a,_,e1,e2,e3,_⟩:=Abd P h14 hkn v1 v2;obtain⟨q,_,e,_,j,_⟩:=Aai P h14 (Ai8 P) v1 v2;obtain rfl:=Bo (i.symm.trans e);obtain rfl:=Q9 (Xf (CO g m N)).tr SN (c2.trans (pm.trans b.symm)) c3 j;obtain rfl:=Q9 (Xf (CO g m N)).tr SN (e2.trans b.symm) e3 j;have hT:=λx=>AlD P h14 hkn x;have hl:∀x,∀s∈ssG g m N x,s.length<=1000000:=λx s hs=>LC ((Afc P h14 hkn x).2.1.m s hs).2.1 Cd;have hcl:=LC (M7 (isC g (CO g m N)) a) c4;refine⟨al,ids,a,_,R,D,sen,pm,a1,a2,i,b,r,t,c,rfl,e1,?_,λ{d hm srt} h h0 hx=>?_⟩
 .simp only[Ag,RJ] at hS;exact hS
 .have:=AeM hI hA c1 aa (sb:=UH (CO g m N) R a al) (λx _=>(hS x).1) (ss:=ssG g m N) hT hl (d:=d) h h0 hx;simp only[Ag,RJ] at this;exact this
end
section
variable {P:Bu} [M:Mix P] {st:St} {Q:Exit->St->Prop} {fn:Func} {Bs:List (St->Prop)} {p:Br}
theorem Sf{ops:Array Oper}{K:St->Prop}{cx:Cx}{R:Exit->Act->World->Prop}(l2:Hv)(c:∀st a w,K st->mh P cx st a w->wpListIn cx.F cx.nn P ops R l2 a w):∀(l:Hv) (st:St) (a:Act) (w:World),D8 P ops K l st->mh P cx st a w->wpListIn cx.F cx.nn P ops R (l++l2) a w
 |[],st,a,w,h,r=>c st a w h r
 |o::rest,st,a,w,h,r=>by
  obtain⟨β,rb⟩:=r;rcases h with⟨hg,d,hs,hr⟩|⟨hg,hd,hr⟩
  .refine wpListIn_step λK' b=>?_;rw[BB (cT rb hg)];exact hs cx a w K' R ⟨β,rb⟩ λa' w' r'=>b _ _ (Sf l2 c rest d a' w' hr r')
  .refine wpListIn_step λK' b=>?_;rw[BU (by rw[cT rb hg];simp)];exact⟨λf _=>rb.loose.fn f,b _ _ (Sf l2 c rest _ _ w hr ⟨β,rb.put o.dst hd (.imm _ _ (.lit _))⟩)⟩
def cuR(P:Bu)(hs a:List Hn)(c:Code)(k:Nat)(J b st:St)(ρ:DF)(kd:List (Nat×Rk)):Option (Prop×Br×JK×St×Prop×Br×JK×St):=match c with
 | .region _ ops false=>match qd P ops hs (ops.toList.take k) st with
  |some (C,u,s1)=>match Iw P [] [] [] J s1 with
   |some (L,s2)=>match qd P ops a (ops.toList.drop k) s2 with
    |some (d,e,s3)=>match Iw P [] ρ kd b s3 with
     |some (f,g)=>some (C,u,L,s2,d,e,f,g)
     |none=>none
    |none=>none
   |none=>none
  |none=>none
 |_=>none
def ku1(x:Option (Prop×Br×JK×St×Prop×Br×JK×St)):Br:=match x with|some (_,u,_)=>u|none=>[0]
def ku2(x:Option (Prop×Br×JK×St×Prop×Br×JK×St)):Br:=match x with|some (_,_,_,_,_,u,_)=>u|none=>[0]
section
attribute [local semireducible] Tr dz Gp
theorem dCu(k:Nat)(J b:St)(A c O f:List HP)(kk:Gp P fn Q Bs true p b)(ρ:DF:=[])(kd:List (Nat×Rk):=[])(h1:qe A (ku1 (cuR P (bK A) (bK c) (bq p (ai fn)) k J b st ρ kd))=true:=by kernel_rfl)(h2:qe c (ku2 (cuR P (bK A) (bK c) (bq p (ai fn)) k J b st ρ kd))=true:=by kernel_rfl)(e:cuR P (bK A) (bK c) (bq p (ai fn)) k J b st ρ kd=some (psU A (ku1 (cuR P (bK A) (bK c) (bq p (ai fn)) k J b st ρ kd)),ku1 (cuR P (bK A) (bK c) (bq p (ai fn)) k J b st ρ kd),pR O,J,psU c (ku2 (cuR P (bK A) (bK c) (bq p (ai fn)) k J b st ρ kd)),ku2 (cuR P (bK A) (bK c) (bq p (ai fn)) k J b st ρ kd),pR f,b):=by kernel_rfl):Gp P fn Q Bs false p st:=by
 have c1:=kA h1;have c2:=kA h2;generalize ku1 _=u1 at c1 e;generalize ku2 _=h at c2 e;generalize psU A u1=n at c1 e;generalize psU c h=o at c2 e;show Tr P (bq p (ai fn)) st (dz P (bE p (ai fn) Bs []) Q);unfold cuR at e;split at e;rotate_left
 .cases e
 rename_i id ops hc;split at e;rotate_left
 .cases e
 rename_i s1 i;split at e;rotate_left
 .cases e
 rename_i s2 d;split at e;rotate_left
 .cases e
 rename_i s3 j;split at e;rotate_left
 .cases e
 rename_i t r4;cases e;rw[hc];have q1:=Mz i c1;have l:=Mz j c2;have l1:=sR d (wR O);have l2:=sR r4 (wR f);have ho:ops=(ops.toList.take k++ops.toList.drop k).toArray:=aC;generalize ops.toList.take k=x at*;generalize ops.toList.drop k=y at*;subst ho;exact λcx a w R r m=>wpIn_region_lit (Sf y (λs a' w' hs r'=>xK (λst' a2 g q d=>m .normal b a2 g kk (l2 cx a2 g (by rw[<-q];exact d))) y _ a' w' l (l1 cx a' w' (by rw[<-hs];exact r'))) x st a w q1 r)
end
end
def nzs:Nat->G->G->G
 |0,g,_=>g
 |n+1,g,t=>match g,t with
  | .lit (.slice none 0 0),.sl _ _=> .sl [] 0
  | .sl l m,.sl l' _=>bif Nat.beq l.length l'.length then .sl (OX (nzs n) l l') m else g
  | .agg l,.agg l'=>bif Nat.beq l.length l'.length then .agg (OX (nzs n) l l')else g
  |_,_=>g
theorem Acl{S:Fs}{w:World}:∀(n:Nat) (g t:G) (v:Value),IV S w g v->IV S w (nzs n g t) v
 |0,g,t,v,h=>h
 |n+1,g,t,v,h=>by
  unfold nzs;split
  .cases h;exact .sl [] 0 none 0 (λ_=>undef) (Dl _) (Nat.zero_le _) aC aC aC
  .rename_i l m d _;cases hb:Nat.beq l.length d.length with
   |false=>exact h
   |true=>
    have hl:=bc hb;cases h with
    |sl _ _ a cap us hn hm ha h1 hr=>refine .sl _ _ a cap us hn hm (by grind [SG]) (by grind [SG]) λi e hg=>?_;obtain⟨g,c,b,rfl⟩:=sS _ _ hl i e hg;exact Acl n g c _ (hr i g b)
  .rename_i l d;cases hb:Nat.beq l.length d.length with
   |false=>exact h
   |true=>
    have hl:=bc hb;cases h with
    |agg _ us h2 h1 hr=>refine .agg _ us (by grind [SG]) h1 λi e u hg hu=>?_;obtain⟨g,c,b,rfl⟩:=sS _ _ hl i e hg;exact Acl n g c u (by grind)
  .exact h
theorem AjB{P:Bu}{gl:CB}{f:FuncId}{r:G}{ts:Bn}(gs:Bn)(h:ba P gl f ts r)(hl:gs.length=ts.length:=by rfl)(e:OX (nzs 20) gs ts=ts:=by kernel_rfl):ba P gl f gs r:=λw S vs hS hG hsz a=>by refine h w S vs hS hG aa λi g u hg hu=>?_;grind [sS,Acl]
def JV:Mj:=(ql [1,2]).getD []
theorem Ad4:ql [1,2]=some JV:=aH
theorem aaa:JV.all KK=true:=aH
theorem Xg:JV.length=2:=aH
theorem Acm:xf JV:=OM aH
theorem AnR:JV.map (·.Device)=[1,2]:=aH
attribute [irreducible] JV
theorem wf0{cs:Mj}(hl:cs.length<=1000)(hc:cs.all KK=true):GR ⟨cs,[],[],[],[]⟩ where
 nL:=aC
 nI:=rfl
 nU:=rfl
 nN:=rfl
 nC:=hl
 cards:=by grind [KK,c8,fS]
 up:=by grind
 rows:=by grind
 inlt:=by grind [Re]
 ops:=by grind
 ids:=by grind
 nd:=aC
 one:=by grind
 tr:=by grind
 la:=by grind [Re]
def oL:Bq:=⟨1,1,1,0,[],0,0,0,0,[⟨77,[]⟩],⟨0,0,0⟩,0,[],[],⟨0,0,0⟩,[],0,0,[],0,[],⟨0,0⟩⟩
theorem AiC:Bg oL:=by constructor<;>simp[oL,c8,fS];all_goals grind [I4,fS,JS,c8]
def oX:Bq:=(nR oL).getD oL
theorem AiD:nR oL=some oX:=aH
def rL:Ba×Int:=(AO ⟨JV,[],[],[],[]⟩ oX).getD (⟨[],[],[],[],[]⟩,1)
theorem AiE:AO ⟨JV,[],[],[],[]⟩ oX=some rL:=aH
theorem AlN:rL.2=0:=aH
theorem AlO:qo rL.1 oX=some [1]:=aH
attribute [irreducible] rL oX
theorem Ahr:∃(b:Nat->I1) (N:IX) (x:Ab),rL.1.L=[oX]/\rL.1.IDs=[x]/\rL.1.Cards=JV/\pV oX=some x/\Abf rL.1 b N/\Pg rL.1 (b 1) N:=by
 obtain⟨v,e,s,rfl,h1,h2⟩:=Io AiC;have e:=Bo (AiD.symm.trans e);have so:Bg oX:=e▸AiC.sig s;have hs:fS oX.Sig.S:=by grind
 have w0:=wf0 (cs:=JV) (by rw[Xg];decide) aaa;obtain⟨v,ev,w,ha⟩:=QG w0 so hs;obtain rfl:=Bo (AiE.symm.trans ev);rcases ha with⟨h,_⟩|⟨x,up,row,_,a,hid,hrow,hg⟩
 .grind [AlN]
 have gr:Lu ⟨JV,[],[],[],[]⟩ rL.1:=by grind [Lu]
 obtain⟨b,N,c,_,h3,h4⟩:=OL gr rfl rfl Acm;have hL:rL.1.L=[oX]:=by rw[hg];rfl
 rw[hL] at h4;exact⟨b,N,x,hL,by rw[hg];rfl,c,hid,h3,(by grind [Afs,Xg,aaa,AnR])⟩
abbrev oG2:aQ:=[ob 0 33 (aI ⟨JV,[],[],[],[]⟩)]
def xL:Ab:=(pV oX).getD ⟨0,0,0⟩
theorem Aln:pV oX=some xL:=aH
abbrev nL:Aj:=⟨xL,0⟩
def mL1:FM Aj Nat:=CA (O4 5) nL 9
def mL2:FM Aj Nat:=MJ mL1 NR
theorem Anq:YF (O4 5) [NR]:=⟨It Ael (k:=NR) 5,Cd,λa h=>by rw[List.perm_singleton.1 h];kernel_rfl,rfl⟩
theorem Alo{a b:α}(h:l.Perm [a,b]):l=[a,b]\/l=[b,a]:=by
 match l,h.length_eq with
 |[x,y],_=>
  have hx:x∈[a,b]:=h.mem_iff.1 aC;simp at hx;rcases hx with rfl|rfl
  .exact .inl (by rw[List.perm_singleton.1 (List.perm_cons _|>.1 h)])
  .have h2:[x,y].Perm [x,a]:=h.trans (List.Perm.swap ..);exact .inr (by rw[List.perm_singleton.1 (List.perm_cons _|>.1 h2)])
theorem Alp:YF mL1 [NR,nL]:=⟨It (It Ael (k:=NR) 5) 9,D5 aH,λa h=>by rcases Alo (h.trans (show(mL1.es.map (·.1)).Perm [NR,nL] from(show mL1.es.map (·.1)=[NR,nL] by kernel_rfl)▸ .refl _)) with rfl|rfl<;>kernel_rfl,aH⟩
theorem Anr:YF mL2 [nL]:=⟨S8 (It (It Ael (k:=NR) 5) 9),D5 aH,λa h=>by rw[List.perm_singleton.1 (h.trans (show(mL2.es.map (·.1)).Perm [nL] from(show mL2.es.map (·.1)=[nL] by kernel_rfl)▸ .refl _))];kernel_rfl,aH⟩
def X7:MY:=⟨1,⟨0,0,0⟩,1,0⟩
def YZ:MY:=⟨3,xL,0,0⟩
def pb5:Nat:=(mg 5).getD 0
theorem AeO:mg 5=some pb5:=aH
theorem Ans:Nn rL.1 xL=some true:=aH
theorem Alq:[NR,nL].map (C4 1)=[X7,YZ]:=aH
theorem Alr:[nL].map (C4 1)=[YZ]:=aH
theorem Ant:pi [X7,YZ] [X7,YZ]=some true:=aH
theorem Anu:pi [X7] [X7]=some true:=aH
theorem Anv:pi [YZ] [YZ]=some true:=aH
theorem Als:xL.By=1:=aH
theorem Anw:decide (nL=NR)=false:=aH
attribute [irreducible] xL X7 YZ pb5
abbrev Zv(g:G)(r:Fr)(hm:FM Aj Nat):St:=(s0 90 fI ([(1,.ptr (aI rL.1) 0),(2,.ptr (aJ oX) 0),(4,g),(5,.ref 0 0)]++r) (σH 1 hm) 2 0)
theorem Ab2:ba prog fI 11 [] (bG true):=by
 obtain⟨b,N,x,hL,n,t,hid,hR,P⟩:=Ahr;obtain rfl:=Bo (hid.symm.trans Aln);have w:=P.w;have hof:=ZC hR;have hnl:=P.p.len;rw[hL] at hof hnl;have hnl:N.length=1:=hnl;obtain⟨y,rfl⟩:∃y,N=[y]:=List.length_eq_one_iff.1 hnl;have so:=(w.ops 0 oX (by rw[hL];rfl)).1;have hk:oX.Kind=1:=aH;have hBy:oX.By=1:=aH;have h14:rL.1.L.length<=15:=by grind
 have k1:Kn oX:=λh=>by grind
 have hkn:∀(k:Nat) (o:Bq),rL.1.L[k]?=some o->Kn o:=by grind
 obtain⟨_,_,_,r,e,_⟩:=Afb P h14 so k1 (by grind);rw[AlO] at e;obtain⟨u,q⟩:=P.op (i:=0) (o:=oX) (x:=xL) (by rw[hL];rfl) (by rw[n];rfl);have es:stL rL.1 oX=[[1]]:=by unfold stL;rw[<-Bo e,hk,hBy];kernel_rfl
 obtain⟨al,ids,row,cs,R,D,sen,_,_,a2,_,s,_,_,_,hcs,_,hS,f⟩:=AeN P h14 hkn;rw[n] at a2;obtain rfl:=List.perm_singleton.1 a2;obtain rfl:=List.perm_singleton.1 s;have hst:=(hS xL).2.symm.trans Ans;have hst:=Bo hst;have hcm:isC rL.1 (CO rL.1 (b 1) [y]) xL=true:=by unfold isC;rw[q,es];kernel_rfl
 rw[List.filter_cons_of_pos hcm,List.filter_nil] at hcs;subst hcs;rw[List.filter_cons_of_pos hst,List.filter_nil] at f;have g:=(hS xL).1;rw[hst] at g;have hss:ssG rL.1 (b 1) [y] xL=[[1]]:=by unfold ssG;rw[q,es]
 have hself:(CO rL.1 (b 1) [y]).bef xL xL=false:=by
  have hi:rL.1.IDs[0]?=some xL:=by rw[n];rfl
  rw[P.bef hi hi];cases c:Re rL.1 0 0 with
  |false=>rfl
  |true=>have:=(w.inlt _ _ c).1;omega
 have g0:TD (CO rL.1 (b 1) [y]) 1 (ssG rL.1 (b 1) [y]) [xL] NR=true:=by unfold TD c1B Aa2 Y5;rw[List.any_cons,Als];kernel_rfl
 have g1:TD (CO rL.1 (b 1) [y]) 1 (ssG rL.1 (b 1) [y]) [xL] nL=false:=by unfold TD c1B;rw[List.any_cons,List.any_nil,Anw,Be,hself];cases Y5 _ _<;>rfl
 have hcl:=f (d:=1) Alp Cd aC;generalize TD (CO rL.1 (b 1) [y]) 1 (ssG rL.1 (b 1) [y]) [xL]=gn at g0 g1 hcl;rw[show R7 gn 1 [NR,nL]=[X7] by
  unfold R7;rw[List.filter_cons_of_pos g0,List.filter_cons_of_neg (by rw[g1];simp),List.filter_nil];kernel_rfl,show Wv gn [NR,nL] mL1=mL2 by
  unfold Wv;rw[List.filter_cons_of_pos g0,List.filter_cons_of_neg (by rw[g1];simp),List.filter_nil];rfl] at hcl
 change jg _ _ _ _ _ _ _ [(0,oG rL.1.Cards 1 2),(1,oM (b 1)),(2,zQ [y])] 3 at hof;have j:=R4 fI (d:=1) Alp;have l:=R4 fI (d:=1) Anr;rw[Alq] at j;rw[Alr] at l;generalize b 1=m at*;refine Gh func11 ?_;refine pO [1,0] (s0 90 fI [] [] 0 0) [] [] ?_;refine dCu 1 (s0 90 fI [(13,aE cZ [1,2])] [] 0 0) (s0 90 fI [(1,.ref 0 0)] oG2 1 0) [] [hf 14 (bT.fo (GQ fI Ad4)),hf 15 (M8 fI (cards:=JV) rfl)] [hc (rZ.al [1,2])] [] ?_;refine pO 1110 (s0 90 fI [(1,.ref 0 0)] oG2 1 0) [] [] ?_;refine dCu 2 (s0 90 fI [(1,.ref 0 0),(17,.sl [uG 77,Iy] 1)] oG2 1 0) (s0 90 fI [(1,.ref 0 0),(2,.ptr (aJ oX) 0)] oG2 1 0) [] [hf 19 (AjB [.agg ((bF [4,14,15,19,22,24] (aJ oL)).set 9 (.sl [uG 77,Iy] 1))] (E8 fI AiD))] [hc (p:=[uG 77,Iy].length=1*2/\(∀x∈[uG 77,Iy],bB x)/\1=1) ⟨rfl,eB aH,rfl⟩] [hc (eB (gs:=aJ oX) aH)] ?_;refine pO 111111100 (s0 90 fI [(1,.ptr (aI rL.1) 0),(2,.ptr (aJ oX) 0),(3,iG rL.2),(4,Z8 rL.1.Cards m [y]),(5,.ref 0 0)] (σH 1 (O4 5)) 2 0) [hf 23 (M9 fI AiE),tN 27 [] 1 [] [.agg (aI rL.1)] [ob 0 134 [aE bv rL.1.Cards,.mref 2,.rsl 3 0 1],(1,oM m),(2,zQ [y])] hof trivial ⟨⟨rfl,.inl rfl⟩,⟨rfl,rfl,rfl,rfl,.inr ⟨rfl,cf _⟩⟩,⟨rfl,.inr ⟨rfl,az.imm _⟩⟩,trivial⟩,tN 28 [] 4 [] [iG 1,uG 5] [(0,oH 1 5),(1,eI (O4 5))] (Lm fI 1 5) trivial ⟨⟨rfl,.inl rfl⟩,⟨rfl,rfl,rfl,rfl,.inr ⟨rfl,JH _⟩⟩,trivial⟩] [hc (eB (gs:=aI rL.1) aH),hc (cf m),hc (az.al [y]),hc (eB (gs:=[aE bv rL.1.Cards,gMp m,aE d7 [y]]) aH),hc (JH (O4 5))] ?_;refine pO 1111111110 (Zv (Z8 rL.1.Cards m [y]) [(6,uG 5),(7,bG true)] (O4 5)) [hr 37 (show decide (rL.2≠0)=false by rw[AlN];rfl),hf 41 (yv fI AeO),tN 42 [0,1] 2 (σH 1 (O4 5)) [.ref 0 0,uG pb5] (σH 1 (O4 5)) (Uh fI Anq (d:=1) (pub:=pb5) (x:= .inr 5) (a:=5) (is:=true) (by refine T.eq (T.loop (λk=>k=0) (λk=>1-k) rfl Cd λk hk=>?_);subst hk;unfold MZ;rw[show[NR][0]?=some NR from rfl];dsimp only;rw[show((O4 5).get NR).getD 0=5 by kernel_rfl,AeO,aL,C5 rfl];exact .some rfl) (λh=>by cases h) (λv h=>by cases h;exact⟨rfl,rfl⟩)) AdK ⟨⟨rfl,.inl rfl⟩,⟨rfl,rfl,rfl,rfl,.inr ⟨rfl,JH _⟩⟩,trivial⟩] [hc (JH (O4 5))] ?_
 refine pO 11111111110 (Zv (Z8 rL.1.Cards m [y]) [(6,uG 5),(7,bG true)] mL1) [hf 47 (AI fI hid),tN 48 [0,1] 2 (σH 1 (O4 5)) [.ref 0 0,.agg (aj xL),iG 0,uG 9] (σH 1 mL1) (RT fI xL 0 9) AdK ⟨⟨rfl,.inl rfl⟩,⟨rfl,rfl,rfl,rfl,.inr ⟨rfl,JH _⟩⟩,trivial⟩] [hc (JH mL1)] ?_;refine pO 111111111110 (Zv (Z8 rL.1.Cards m [y]) [(6,uG 5),(7,bG true),(8,aE fT [X7,YZ])] mL1) [tN 50 [0,1] 2 (σH 1 mL1) [.ref 0 0] [(0,oH 1 1),(1,eI mL1),(2,oTm [X7,YZ])] j AdK ⟨⟨rfl,.inl rfl⟩,⟨rfl,rfl,rfl,rfl,.inr ⟨rfl,JH _⟩⟩,⟨rfl,.inr ⟨rfl,fL.imm _⟩⟩,trivial⟩] [hc (fL.al [X7,YZ]),hc (JH mL1)] ?_;refine pO 1111111111110 (Zv (Z8 rL.1.Cards m [y]) [(6,uG 5),(7,bG true),(8,aE fT [X7,YZ]),(9,aE fT [X7])] mL2) [tN 53 [0,1] 2 (σH 1 mL1) [.ref 0 0,Z8 rL.1.Cards m [y]] [(0,oH 1 1),(1,eI mL2),(2,oTm [X7])] hcl AdK ⟨⟨rfl,.inl rfl⟩,⟨rfl,rfl,rfl,rfl,.inr ⟨rfl,JH _⟩⟩,⟨rfl,.inr ⟨rfl,fL.imm _⟩⟩,trivial⟩] [hc (fL.al [X7]),hc (JH mL2)] ?_;refine pO 11111111111110 (s0 90 fI [(2,.ptr (aJ oX) 0),(4,Z8 rL.1.Cards m [y]),(6,uG 5),(7,bG true),(8,aE fT [X7,YZ]),(9,aE fT [X7]),(10,aE fT [YZ])] [] 0 0) [tN 55 [0,1] 2 (σH 1 mL2) [.ref 0 0] [(0,oH 1 1),(1,eI mL2),(2,oTm [YZ])] l AdK ⟨⟨rfl,.inl rfl⟩,⟨rfl,rfl,rfl,rfl,.inr ⟨rfl,JH _⟩⟩,⟨rfl,.inr ⟨rfl,fL.imm _⟩⟩,trivial⟩] [hc (fL.al [YZ])] ?_;exact Ar [hf 58 (AI fI hid),hf 68 (AI fI hid),hf 69 g,hq 76 [aE fT [X7,YZ],aE fT [X7,YZ]] [hc (fL.al [X7,YZ])] (zx fI Ant),hq 82 [aE fT [X7],aE fT [X7]] [hc (fL.al [X7])] (zx fI Anu),hq 88 [aE fT [YZ],aE fT [YZ]] [hc (fL.al [YZ])] (zx fI Anv)] []
abbrev Uz:List (String×DataW Unit):=[("huddle/roll.asks",Rows.laid_huddle_roll_asks),("huddle/op.kinds",Rows.laid_huddle_op_kinds)]
theorem Y8:Tryz.prog.globalNamed "huddle/roll.asks" =some 1:=aH
theorem WB:Tryz.prog.globalNamed "huddle/op.kinds" =some 0:=aH
theorem Y9:(Tryz.prog.globals[1]?).map (·.type)=some 383:=aH
theorem WC:(Tryz.prog.globals[0]?).map (·.type)=some 228:=aH
theorem AdU{v:α}(h:l[i]?=some v):(l.drop (i*1)).take 1=[v]:=by rw[Nat.mul_one];obtain⟨hi,rfl⟩:=cr h;rw[List.drop_eq_getElem_cons hi];rfl
theorem IL{P:Program}{sp:Nat->Bool}{fuel:Nat}{ps rs:Array TypeId}{va:Bool}{q:List MemPlace}(ht:P.underlying t=some (.func ps rs va))
  (h:DataW.trod (funcToken P) P w base sp true fuel t [v]=some (.nil,q)):v= .nilFunc:=by
 cases fuel with
 |zero=>simp[DataW.trod] at h
 |succ n=>cases v<;>simp[DataW.trod,ht] at h;rfl
theorem zo{H:Type}{enc:TypeId×Value->H}{P:Program}{sp:Nat->Bool}{a:Bool}{fuel n:Nat}{e:TypeId}{cs:Array Value}{ds:List (DataW H)}{p:List MemPlace}{nm:String}(ht:P.underlying t=some (.array n e))(hc:P.cellsOf e=1)(hn:P.cellsOf t=n)
  (hg:P.globalNamed nm=some g) (hv:w.var? P nm=some cs) (h:DataW.trod enc P w base sp a fuel t cs.toList=some (.agg ds,p)):∀i,i<n->∃v d m q,w.cell? ⟨g,i,none⟩=some v/\ds[i]?=some d/\DataW.trod enc P w base sp a m e [v]=some (d,q):=by
 obtain⟨xs,m,_,hx,hl,hlen,b⟩:=DataW.trod_array ht h
 simp only[Fq,DataW.agg.injEq] at hx
 intro i hi
 have hsz:cs.size=n:=by rw[<-hn,<-hl];simp
 have hcell:=World.var?_cell hg hv i
 have hci:cs[i]?=some (cs[i]'aa):=Array.getElem?_eq_getElem aa
 have hli:cs.toList[i]?=some (cs[i]'aa):=by rw[Array.getElem?_toList];exact hci
 have:=b i hi
 rw[hc,AdU hli] at this
 have hxi:xs[i]?=some (xs[i]'aa):=EA aa
 rw[hxi] at this
 refine⟨_,(xs[i]'aa).1,m,(xs[i]'aa).2,hcell.trans hci,?_,this⟩
 rw[hx.1,Nd,hxi]
 rfl
theorem ML(h:W.cell? ⟨g,i,none⟩=some v):g<W.heap.size:=by
 rcases Je g W.heap.size with h'|h'
 .exact h'
 .unfold World.cell? at h;simp[Array.getElem?_eq_none h'] at h
def IM:G->Value
 | .lit v=>v
 | .clo fn _ _=> .func fn #[] #[]
 |_=> .nilFunc
theorem WD{S:Nat->Prop}{g:G}(h:(∃v,g= .lit v)\/∃n,g= .clo (.func n) [] []):IV S W g (IM g):=by
 rcases h with⟨v,rfl⟩|⟨n,rfl⟩
 .exact .lit v
 .exact .clo _ [] [] #[] #[] rfl rfl aC aC
theorem MM{l:List G}(h0:g<W.heap.size)(hc:∀i x,l[i]?=some x->W.cell? ⟨g,i,none⟩=some (IM x))(hg:∀x∈l,((∃k z,x= .lit (.int k z))\/x= .lit .nilFunc)\/∃n,x= .clo (.func n) [] []):IV (λ_=>False) W (.ptr l 0) (.pointer (some ⟨g,0,none⟩)):=by
 have e:(⟨g,0,none⟩:Addr)=⟨g,0+0,none⟩:=rfl;refine .ptr l 0 g 0 (λi=>IM (l.getD i .junk)) (λh=>h) h0 (λi hi=>?_) (λi hi=>?_) (λi x hx=>?_)
 .rw[Nat.zero_add];refine hc i _ ?_;rw[List.getD_eq_getElem?_getD,EA hi];rfl
 .have hx:l[i]?=some (l[i]'hi):=EA hi;rw[List.getD_eq_getElem?_getD,hx];rcases hg _ (bO hx) with(⟨k,z,h⟩|h)|⟨n,h⟩<;>(simp only[Nf];rw[h];rfl)
 .rw[List.getD_eq_getElem?_getD,hx];simp only[Nf];refine WD ?_;rcases hg _ (bO hx) with(⟨k,z,h⟩|h)|⟨n,h⟩
  .exact .inl ⟨_,h⟩
  .exact .inl ⟨_,h⟩
  .exact .inr ⟨n,h⟩
theorem Ov(h:laidMetH Tryz.prog Uz W):IV (λ_=>False) W (.ptr (nG.flatMap cZ) 0) (.pointer (some ⟨0,0,none⟩)):=by
 have hm:laidMet Tryz.prog [("huddle/op.kinds",Rows.laid_huddle_op_kinds)] W:=h.1;obtain⟨ps,⟨g1,e,c,f1,f,q1,a,b,hv1,hd1,_,_⟩,_,_⟩:=hm;obtain rfl:=Bo (WB.symm.trans a);obtain rfl:=Bo (WC.symm.trans b);have hcells:=zo (n:=14) Tryz.underlying228 aH aH a hv1 hd1;have key:∀i x,(nG.flatMap cZ)[i]?=some x->W.cell? ⟨0,i,none⟩=some (IM x):=by
  intro i x hx;have hi:i<14:=(cr hx).1;obtain⟨v,d,m,q,hc,hd,hr⟩:=hcells i hi;obtain⟨k,e1,e2,_⟩:=DataW.trod_int Tryz.underlying3 hr;simp only[Fq] at e2;rw[hc];simp only[List.cons.injEq,and_true] at e1;rw[e1];rw[e2.1] at hd;match i,hi with
  |0,_|1,_|2,_|3,_|4,_|5,_|6,_|7,_|8,_|9,_|10,_|11,_|12,_|13,_=>cases hd;cases hx;rfl
 refine MM (ML (key 0 _ rfl)) key λx hx=> .inl (.inl ?_);obtain⟨z,_,hz⟩:=List.mem_flatMap.1 hx;cases List.mem_singleton.1 hz;exact⟨_,_,rfl⟩
noncomputable abbrev fby(l:List UInt8):List Nat:=(List.range Tryz.prog.funcs.size).filter λf=>(Tryz.prog.funcs[f]?).any (·.name.toUTF8.data.toList==l)
theorem aaJ:fby [104,117,100,100,108,101,47,114,111,108,108,46,97,115,107,115,36,49]=[434]:=aH
theorem aaK:fby [104,117,100,100,108,101,47,114,111,108,108,46,97,115,107,115,36,50]=[436]:=aH
theorem aaL:fby [104,117,100,100,108,101,47,114,111,108,108,46,97,115,107,115,36,51]=[437]:=aH
theorem aaM:fby [104,117,100,100,108,101,47,114,111,108,108,46,97,115,107,115,36,52]=[438]:=aH
theorem aaN:fby [104,117,100,100,108,101,47,114,111,108,108,46,97,115,107,115,36,53]=[439]:=aH
theorem aaO:fby [104,117,100,100,108,101,47,114,111,108,108,46,97,115,107,115,36,54]=[440]:=aH
theorem aaP:fby [40,42,104,117,100,100,108,101,47,114,111,108,108,46,82,111,108,108,41,46,111,119,110]=[442]:=aH
theorem aaQ:fby [104,117,100,100,108,101,47,114,111,108,108,46,97,115,107,115,36,55]=[443]:=aH
theorem aaR:fby [104,117,100,100,108,101,47,114,111,108,108,46,97,115,107,115,36,56]=[444]:=aH
theorem Rc(h:laidMetH Tryz.prog Uz W):IV (λ_=>False) W (.ptr IU 0) (.pointer (some ⟨1,0,none⟩)):=by
 obtain⟨g,t,cs,fuel,p,hg,ht,hv,a⟩:=h.funcs (List.mem_cons_self ..);obtain rfl:=Bo (Y8.symm.trans hg);obtain rfl:=Bo (Y9.symm.trans ht);have hd1:DataW.trod (funcToken Tryz.prog) Tryz.prog W 0 (λ_=>true) true fuel 383 cs.toList=some (.agg [.nil,.nil,.held [104,117,100,100,108,101,47,114,111,108,108,46,97,115,107,115,36,49],.held [104,117,100,100,108,101,47,114,111,108,108,46,97,115,107,115,36,50],.nil,.held [104,117,100,100,108,101,47,114,111,108,108,46,97,115,107,115,36,51],.held [104,117,100,100,108,101,47,114,111,108,108,46,97,115,107,115,36,52],.nil,.held [104,117,100,100,108,101,47,114,111,108,108,46,97,115,107,115,36,53],.held [104,117,100,100,108,101,47,114,111,108,108,46,97,115,107,115,36,54],.held [40,42,104,117,100,100,108,101,47,114,111,108,108,46,82,111,108,108,41,46,111,119,110],.held [104,117,100,100,108,101,47,114,111,108,108,46,97,115,107,115,36,55],.held [40,42,104,117,100,100,108,101,47,114,111,108,108,46,82,111,108,108,41,46,111,119,110],.held [104,117,100,100,108,101,47,114,111,108,108,46,97,115,107,115,36,56]],p):=a;have hcells:=zo (n:=14) Tryz.underlying383 aH aH hg hv hd1;have key:∀i x,IU[i]?=some x->W.cell? ⟨1,i,none⟩=some (IM x):=by
  intro i x hx;have hi:i<14:=(cr hx).1;obtain⟨v,d,m,q,hc,hd,hr⟩:=hcells i hi;match i,hi with
  |0,_|1,_|2,_|3,_|4,_|5,_|6,_|7,_|8,_|9,_|10,_|11,_|12,_|13,_=>
   cases hd;cases hx;rw[hc];first
    |(rw[IL Tryz.underlying382 hr];rfl)
    |(rw[func_of_trod (f0:=434) Tryz.underlying382 aaJ hr];rfl)
    |(rw[func_of_trod (f0:=436) Tryz.underlying382 aaK hr];rfl)
    |(rw[func_of_trod (f0:=437) Tryz.underlying382 aaL hr];rfl)
    |(rw[func_of_trod (f0:=438) Tryz.underlying382 aaM hr];rfl)
    |(rw[func_of_trod (f0:=439) Tryz.underlying382 aaN hr];rfl)
    |(rw[func_of_trod (f0:=440) Tryz.underlying382 aaO hr];rfl)
    |(rw[func_of_trod (f0:=442) Tryz.underlying382 aaP hr];rfl)
    |(rw[func_of_trod (f0:=443) Tryz.underlying382 aaQ hr];rfl)
    |(rw[func_of_trod (f0:=444) Tryz.underlying382 aaR hr];rfl)
 refine MM (ML (key 0 _ rfl)) key λx hx=>?_;simp only[IU,EY,LD,or_false] at hx;rcases hx with rfl|rfl|rfl|rfl|rfl|rfl|rfl|rfl|rfl|rfl|rfl|rfl|rfl|rfl<;>first|exact .inl (.inr rfl)|exact .inr ⟨_,rfl⟩
theorem TK(h:laidMetH Tryz.prog Uz W):Gls fI (λ_=>False) W:=by
 intro g l hl;simp only[fI,List.lookup_cons] at hl;split at hl
 .rename_i e;cases hl;obtain rfl:=eq_of_beq e;exact Ov h
 .split at hl
  .rename_i e;cases hl;obtain rfl:=eq_of_beq e;exact Rc h
  .cases hl
end Go.Proofs.YtdpdicldkohflaaGreatDoor
