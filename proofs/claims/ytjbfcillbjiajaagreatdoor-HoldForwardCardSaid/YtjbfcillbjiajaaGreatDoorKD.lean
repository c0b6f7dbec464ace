/- Texts. -/
import Derived.LaidHandle
import Derived.LaidMore
import Derived.OpenShut
import Derived.ProofKit
import Derived.Test.YtjbfcillbjiajaaGreatDoorRows
import Derived.Test.YtjbfcillbjiajaaGreatDoorJG
namespace Go.Proofs.YtjbfcillbjiajaaGreatDoor
set_option linter.unusedSectionVars false
set_option linter.unusedVariables false
set_option linter.unusedSimpArgs false
open Go.RowKit Go.Proofs.Tryz Go.Sort Go.ChangeShapes Go.WideShapes Go.ChangeAt
attribute [local irreducible] Tr dz Gp
variable (gl:CC)
variable {base g i:Nat}{m:FM Aj Nat}{l:Bn}{d:Int}{N:I4}{x:Aj}{r:Bool}{W w:World}{t:TypeId}{v:Value}
def UO(d:Int)(ss:Ab->K4)(x:Aj):Bn:=bif x=LL then[d]else bif x.n<ah (ss x.commit)then(aS (ss x.commit) x.n).getD [] else[]
def c1B(I:Gi)(set:Bn)(x:Aj)(v:Ab):Bool:=bif LR set v.By then(bif x=LL then true else I.bef x.commit v)else false
def Pm(I:Gi)(d:Int)(ss:Ab->K4)(a:Ba)(x:Aj):Bool:=a.any (c1B I (UO d ss x) x)
section
variable {gg:Az} {I:Gi} (h:Np fI gg I)
include h
theorem Ag8{g:G}{set:Bn}(hs:g=aE cZ set\/g=Iy)(hg:∀d,ba prog fI 31 [g,iG d] (bG (LR set d)))(x:Aj)(v:Ab):ba prog fI 30 [.agg (aj v),.ptr [g] 0,.ptr (bj x) 0,bxG gg] (bG (c1B I set x v)):=by
 have h1:=hg v.By;have h2:=h.bef x.commit v;refine Gh func30 ?_;unfold c1B;rcases hs with rfl|rfl
 all_goals cases c1:LR set v.By with
 |false=>rw[c1] at h1;exact Ar [hf 9 h1] []
 |true=>
  rw[c1] at h1
  cases c2:decide (x=LL) with
  |true=>exact Ar [hf 9 h1,hV 13 (yV x LL c2)] []
  |false=>exact Ar [hf 9 h1,hV 13 (yV x LL c2),hf 19 h2] []
theorem abe{g:G}{set:Bn}(hs:g=aE cZ set\/g=Iy)(hg:∀d,ba prog fI 31 [g,iG d] (bG (LR set d)))(hi:bB (.ptr [g] 0))(x:Aj){stl:Ba}(hn:stl.length<=1000):ba prog fI 29 [aE aj stl,.clo (.func 30) [] [.ptr [g] 0,.ptr (bj x) 0,bxG gg]] (bG (stl.any (c1B I set x))):=
 kP fI (f:=λv=>some (c1B I set x v)) ⟨aH,bf,aY hi (aY (aG 20 (.ptr (bj x) 0) aH) (aY (aG 20 (bxG gg) aH) bf)),(by grind [Ag8])⟩ (by grind [Abt])
end
def SF(g:Aj->Bool)(l:List Aj)(m:FM Aj Nat):FM Aj Nat:=(l.filter g).foldl LS m
def RG(g:Aj->Bool)(d:Int)(l:List Aj):List HD:=(l.filter g).map (C4 d)
abbrev frC(gg:Az)(a:Ba)(n k:Nat)(srt:List Aj):Fr:=[(0,.ref 0 0),(3,bxG gg),(5,aE aj a),(10,.rsl 2 0 n),(40,aE bj srt),(41,iG (ah srt)),(42,iG (k:Int))]
theorem AlN{zs:List Value}{k:Nat}(hk:zs.length=k)(h0:0<k):∀n,bN zs (n*k)=(List.replicate n zs).flatten
 |0=>by rw[Nat.zero_mul];rfl
 |n+1=>by
  have e:=AlN hk h0 n;unfold bN at e⊢;rw[Nat.succ_mul,List.range_add,List.map_append,e,List.replicate_succ',List.flatten_append,Hk];congr 1;rw[List.flatten_singleton];refine List.ext_getElem (by simp[hk]) λi h1 h2=>?_;have:(n*k+i)%k=i:=by grind [Nat.mul_comm,Nat.mul_add_mod,LO]
  grind
theorem AlO{n:Nat}(h:n<=1000):tI prog 77 (iG (n:Int)) (iG (n:Int))=some (57,(List.replicate n LL).flatMap bj,n):=by
 unfold tI;dsimp only;rw[show dp prog 77=some 57 by kernel_rfl];dsimp only;rw[show bw prog 57=some 4 by kernel_rfl,show jj prog 57=some [.int .i64 0,.int .i64 0,.int .u64 0,.int .i64 0] by kernel_rfl,show(prog.info? 57).map (·.bytes)=some 32 by kernel_rfl];dsimp only;rw[Nat.beq_refl,show Nat.ble (32*n) 281474976710656=true from Nk aa,show Nat.ble n 9223372036854775807=true from Nk aa,AlN (k:=4) rfl BU];show some (_,_,n)=_;rw[show((List.replicate n [Value.int .i64 0,.int .i64 0,.int .u64 0,.int .i64 0]).flatten).map G.lit=(List.replicate n LL).flatMap bj by
  induction n with
  |zero=>rfl
  |succ n ih=>rw[List.replicate_succ,List.replicate_succ,List.flatten_cons,List.flatMap_cons,List.map_append,ih aa];rfl]
abbrev hc7{gg:Az}{stl:Ba}{g:G}{x:Aj}{b:Bool}(O:List HP)(t:ba prog fI 29 [aE aj stl,.clo (.func 30) [] [.ptr [g] 0,.ptr (bj x) 0,bxG gg]] (bG b)):HP:=hq 70 [aE aj stl,.clo (.func 30) [] [.ptr [g] 0,.ptr (bj x) 0,bxG gg]] O t
abbrev AlQ(m:FM Aj Nat)(x:Aj):HP:=hmd 16 (Akf (P:=prog) (σ:=[(1,eI m)]) (t:=GI) (t':=GI) (et:=36) (vg:=uGn) (i:=1) LF aH (k:=x) (gk:= .agg (bj x)) rfl (m:=m) NP)
abbrev AlR(d:Int)(m:FM Aj Nat)(x:Aj):HP:=hq 79 [.ptr [iG d,Ug m] 0,.agg (bj x)] [hc (Ho m)] (R3 fI d (Ug m) x)
abbrev stC(gg:Az)(a:Ba)(d:Int)(m:FM Aj Nat)(srt z:List Aj):St:=(s0 84 fI [(38,.rsl 2 0 srt.length),(37,.rsl 3 0 srt.length),(0,.ref 0 0),(3,bxG gg),(5,aE aj a),(8,.rsl 2 0 srt.length),(9,.rsl 3 0 srt.length)] (σH d m++[(2,pU srt),(3,pU z)]) 4 2)
theorem AeY{gg:Az}{I:Gi}(h:Np fI gg I){al cs:Ba}(hA:ba prog fI 8 [.ptr (Ag gg) 0] (aE aj al))(b:ba prog fI 7 [.ptr (Ag gg) 0,aE aj al] (aE aj cs))(hn:cs.length<=1000){sb:Ab->Bool}(hS:∀x∈cs,ba prog fI 14 [.ptr (Ag gg) 0,.agg (aj x)] (bG (sb x))){ss:Ab->K4}(hT:∀x,ba prog fI 9 [.ptr (Ag gg) 0,.agg (aj x)] (aE Jc (ss x)))(hl:∀x,∀s∈ss x,s.length<=1000000){d:Int}{srt:List Aj}(hm:Ju m srt)(h0:0<srt.length)(a:∀x∈srt,0<=x.n):jg prog fI 12 [.ref 0 0,.ptr (Ag gg) 0] (σH d m) 2 (.rsl 2 0 (RG (Pm I d ss (cs.filter sb)) d srt).length) [(0,oH d 1),(1,eI (SF (Pm I d ss (cs.filter sb)) srt m)),(2,oTm (RG (Pm I d ss (cs.filter sb)) d srt))] 3:=by
 have hsn:srt.length<=1000:=by grind [Ju,Ju.len]
 refine pP func12 ?_;have hfl:(cs.filter sb).length<=1000:=by grind
 refine Ix 11101 (s0 84 fI [(0,.ref 0 0),(3,bxG gg),(5,aE aj (cs.filter sb))] (σH d m) 2 2) ?_ λi=>?_;rotate_left
 .refine XU (l:=cs) aa (λk:Nat=>(s0 84 fI [(0,.ref 0 0),(3,bxG gg),(5,.rsl 2 0 ((cs.take k).filter sb).length),(18,aE aj cs),(19,iG (ah cs)),(20,iG (k:Int))] (σH d m++[(2,BA ((cs.take k).filter sb))]) 3 2)) 1110122 [hf 17 hA,hf 18 b] [hc (eB (gs:=[.ptr (Ag gg) 0]) aH),hc (Ho m),hc (ac.imm [])] (λB k x hx hz k5=>?_) (λB=>?_) [41]
  .have hk:=(cr hx).1;have h1:=hS x (bO hx);have hll:((cs.take k).filter sb).length<=1000:=by grind
   rw[show(cs.take (k+1)).filter sb=(cs.take k).filter sb++(bif sb x then[x] else[]) by grind [JD]] at k5
   generalize (cs.take k).filter sb=l at hll k5⊢;cases c:sb x with
   |false=>rw[c] at h1 k5;rw[Bf,LP] at k5;exact jw [hr 21 (CB hx),AB 22 (ac.ixZ hz),AB 23 (ac.ptZ aW hz),hf 26 h1,hbb 31 (Xl (q:=k) aa)] [hc (el l),hc (Ho m),hc (ac.imm l)] k5
   |true=>rw[c] at h1 k5;rw[ax] at k5;exact jw [hr 21 (CB hx),AB 22 (ac.ixZ hz),AB 23 (ac.ptZ aW hz),hf 26 h1,Tn 30 ac 24 l x aa,hbb 31 (Xl (q:=k) aa)] [hc (el (l++[x])),hc (Ho m),hc (ac.imm (l++[x]))] k5
  .rw[EZ];exact yl 11101 [hr 21 (DS (s:=cs))] [hc (ac.al (cs.filter sb)),hc (Ho m)] i
 generalize cs.filter sb=stl at hfl⊢;refine pO 1111110 (s0 84 fI [(0,.ref 0 0),(3,bxG gg),(5,aE aj stl),(8,.rsl 2 0 srt.length),(9,.rsl 3 0 srt.length)] (σH d m++[(2,pU srt),(3,pU (List.replicate srt.length LL))]) 4 2) [hnm fI d 33 2 hm,hk 36 ((List.replicate srt.length LL).flatMap bj) srt.length (AlO hsn)] [hc (el srt),hc (el srt),hc (Ho m),hc (Bq.imm srt),hc (Bq.imm (List.replicate srt.length LL))] ?_;have hG:∀o:Oper,o.op= .call {callee:= .builtin .copy,args:= #[.tmp 37,.tmp 38],argTypes:= #[77,77]}->o.dst=some 39->GS prog o (stC gg stl d m srt (List.replicate srt.length LL)) ({stC gg stl d m srt (List.replicate srt.length LL) with σ:=(3,pU srt)::(stC gg stl d m srt (List.replicate srt.length LL)).σ}.put o.dst (iG (srt.length:Int))):=λo e1 e2=>Tc e1 (by grind) (Ajp Bq (l:=srt) (z:=List.replicate srt.length LL) rfl rfl rfl aC h0 aH);refine dGs 2 [] (d:=some 39) (λo e1 e2=>e2▸hG o e1 e2) ?_;have eM:∀(k:Nat) (x:Aj),srt[k]?=some x->SF (Pm I d ss stl) (srt.take (k+1)) m=(bif Pm I d ss stl x then LS (SF (Pm I d ss stl) (srt.take k) m) x else SF (Pm I d ss stl) (srt.take k) m)/\RG (Pm I d ss stl) d (srt.take (k+1))=RG (Pm I d ss stl) d (srt.take k)++(bif Pm I d ss stl x then[C4 d x] else[]):=by grind [SF,RG,JD]
 refine XU (l:=srt) aa (λk:Nat=>(s0 84 fI (frC gg stl (RG (Pm I d ss stl) d (srt.take k)).length k srt) [(0,oH d 1),(1,eI (SF (Pm I d ss stl) (srt.take k) m)),(2,oTm (RG (Pm I d ss stl) d (srt.take k)))] 3 2)) 111111110122 [] [hc (Bq.al srt),hc (Ho m),hc (fL.imm [])] (λB k x hx hz k5=>?_) (λB=>?_) [49]
 .have hk:=(cr hx).1;have hol:(RG (Pm I d ss stl) d (srt.take k)).length<=1000:=by grind [RG]
  rw[(eM k x hx).1,(eM k x hx).2] at k5;generalize RG (Pm I d ss stl) d (srt.take k)=out at hol k5⊢;generalize SF (Pm I d ss stl) (srt.take k) m=m at k5⊢;have hin:∀{set:Bn},set.length<=1000000->∀e,ba prog fI 31 [aE cZ set,iG e] (bG (LR set e)):=λhs e=>Al9 hs e;unfold Pm at k5;cases c0:decide (x=LL) with
  |true=>
   have hA:=abe h (g:=aE cZ [d]) (set:=[d]) (.inl rfl) (by simp_all) (aG 20 (.ptr [aE cZ [d]] 0) aH) x hfl;rw[show UO d ss x=[d] by grind [UO]] at k5;cases c:stl.any (c1B I [d] x) with
   |false=>rw[c] at hA k5;rw[Bf,Bf,LP] at k5;exact jw [hr 43 (CB hx),AB 44 (Bq.ixZ hz),AB 45 (Bq.ptZ ee hz),hV 53 (K0 x LL (r:=false) (by rw[c0];rfl)),hc7 [hc (rZ.al [d])] hA,hbb 82 (Xl (q:=k) aa)] [hc (el out),hc (Ho m),hc (fL.imm out)] k5
   |true=>rw[c] at hA k5;rw[ax,ax] at k5;exact jw [hr 43 (CB hx),AB 44 (Bq.ixZ hz),AB 45 (Bq.ptZ ee hz),hV 53 (K0 x LL (r:=false) (by rw[c0];rfl)),hc7 [hc (rZ.al [d])] hA,AlQ m x,AlR d (LS m x) x,Tn 81 fL 48 out (C4 d x) aa,hbb 82 (Xl (q:=k) aa)] [hc (el (out++[C4 d x])),hc (Ho (LS m x)),hc (fL.imm (out++[C4 d x]))] k5
  |false=>
   have ht:=hT x.commit;cases c1:decide (x.n<ah (ss x.commit)) with
   |true=>
    have f:=a x (bO hx);obtain⟨set,hset⟩:∃set,(ss x.commit)[x.n.toNat]?=some set:=⟨_,EA (by have:=DV c1;unfold ah at this;omega)⟩;have hsz:aS (ss x.commit) x.n=some set:=by grind [au]
    have hA:=abe h (g:=aE cZ set) (set:=set) (.inl rfl) (by grind) (aG 20 (.ptr [aE cZ set] 0) aH) x hfl;rw[show UO d ss x=set by grind [UO]] at k5;cases c:stl.any (c1B I set x) with
    |false=>rw[c] at hA k5;rw[Bf,Bf,LP] at k5;exact jw [hr 43 (CB hx),AB 44 (Bq.ixZ hz),AB 45 (Bq.ptZ ee hz),hV 53 (K0 x LL (r:=true) (by rw[c0];rfl)),hf 57 ht,hr 62 c1,AB 66 (nH.ixZ hsz),AB 67 (nH.p1Z Vs hsz),hc7 [] hA,hbb 82 (Xl (q:=k) aa)] [hc (el out),hc (Ho m),hc (fL.imm out)] k5
    |true=>rw[c] at hA k5;rw[ax,ax] at k5;exact jw [hr 43 (CB hx),AB 44 (Bq.ixZ hz),AB 45 (Bq.ptZ ee hz),hV 53 (K0 x LL (r:=true) (by rw[c0];rfl)),hf 57 ht,hr 62 c1,AB 66 (nH.ixZ hsz),AB 67 (nH.p1Z Vs hsz),hc7 [] hA,AlQ m x,AlR d (LS m x) x,Tn 81 fL 48 out (C4 d x) aa,hbb 82 (Xl (q:=k) aa)] [hc (el (out++[C4 d x])),hc (Ho (LS m x)),hc (fL.imm (out++[C4 d x]))] k5
   |false=>
    have hA:=abe h (g:=Iy) (set:=[]) (.inr rfl) (λe=>UY [Iy,iG e] (hin (set:=[]) aC e)) (aG 20 (.ptr [Iy] 0) aH) x hfl;rw[show UO d ss x=[] by grind [UO]] at k5;have hno:stl.any (c1B I [] x)=false:=by grind [c1B,LR]
    rw[hno] at hA k5;rw[Bf,Bf,LP] at k5;exact jw [hr 43 (CB hx),AB 44 (Bq.ixZ hz),AB 45 (Bq.ptZ ee hz),hV 53 (K0 x LL (r:=true) (by rw[c0];rfl)),hf 57 ht,hr 62 c1,hc7 [] hA,hbb 82 (Xl (q:=k) aa)] [hc (el out),hc (Ho m),hc (fL.imm out)] k5
 .rw[EZ];generalize RG (Pm I d ss stl) d srt=out;generalize SF (Pm I d ss stl) srt m=m;exact mt .ret (s0 84 fI [(4,.rsl 2 0 out.length)] [(0,oH d 1),(1,eI m),(2,oTm out)] 3 2) [.rsl 2 0 out.length] [hr 43 (DS (s:=srt))] [hc (el out),hc (Ho m),hc (fL.imm out)]
theorem AeT{I:Gi}{id:Ab}(l:Ba):EY ((Pu I id l).get id.By)=true:=by
 have key:∀(l:Ba) (M:FM Int Bool),EY (M.get id.By)=true->EY ((l.foldl (λm x=>bif aa8 I id x then CA m x.By true else m) M).get id.By)=true:=by
  intro l;induction l with
  |nil=>exact λM h=>h
  |cons a r ih=>
   intro M h;refine ih _ ?_;show EY ((bif aa8 I id a then CA M a.By true else M).get id.By)=true;cases aa8 I id a with
   |false=>exact h
   |true=>
    rw[ax,Bz];split
    .rfl
    .exact h
 exact key l _ (by rw[Bz,BB rfl];rfl)
section
variable {P:Bu} {α σ X V:Type} {A:List HP} {r:α} [M:Mix P] {fn:Func} {Q:Exit->St->Prop} {Bs:List (St->Prop)} {m:Bool} {p:Br} {st:St}
theorem rdN{step:σ->Option (σ⊕(X⊕V))}{s0:σ}{F:X->Option α}{rs:V->α}{Z:V->Prop}(b:Br)(S:σ->St->St)(O:List HP)(K:∀q,r=rs q->Z q)(h:∀{B:St->Prop} {v:σ⊕(X⊕V)} (s:σ),(∀s',v= .inl s'->B (S s' st))->(∀q,v= .inr (.inr q)->Z q)->RD [] (step s) v (Gp P fn Q (Bs++[B]) false b (S s st)))(hF:∀x,F x=none)(vs:List Bj:=[])(ρ:DH:=[])(kd:List (Nat×Rk):=[])(k:Yy P fn Bs m p b A O vs ρ kd (S s0 st) st:=by exact⟨⟨aH,aH⟩,λ_=>aH⟩):RD A ((AH step s0).bind λx=>ma x F λq=>some (rs q)) r (Gp P fn Q Bs m p st):=λh0=>by obtain⟨x,e1,h1⟩:=bS h0;refine pN (λs=>S s st) b e1 A O (λB s v hv h5 h4=>h s h5 (λz hz=>?_) hv) vs ρ kd k.1 k.2;have:=h4 _ hz;subst this;exact K z (Bp h1).symm
end
def PJ(n:Int)(s1:Int):Option ((Int)⊕(Int)):=
 bif wI (2*s1)<n then(some (.inl (wI (s1*2))))else(some (.inr s1))
def SP(n:Int):JQ:=
 (AH (PJ n) 1).bind λa=>some a
theorem Aba{n}:DL prog gl (SP n) 301 [iG n] iG:=
 cy func301 λK=>I5 1110 (λa=>sg [] [(3,iG a)]) (λs1=>sf [] [(3,iG s1)]) [] (λa=>rv K) λs1 k5 b=>aF 7 (rb k5)<|aA c1 b []
def Nw(a:Bn):Option (Bn×Bn):=
 bif ah a<2 then(some ([],[]))else((SP (ah a)).bind λv2=>(tq a v2).bind λc=>(fF c).bind λd=>(mc a v2).bind λe=>(fF e).bind λb=>some (d,b))
theorem Abb{leaves}:DL prog gl (Nw leaves) 200 [aE cZ leaves] (λr=> .tup [aE cZ r.1,aE cZ r.2]):=
 cy func200 λK=>aF 7 (rv K)<|BG 10 (Aba gl) λv2=>rdv 13 rZ.preZI λb=>JI 14 rZ (uK gl) λc=>rdv 17 rZ.sufZI λd=>JI 18 rZ (uK gl) λa=>rv K
def PK(device:Int)(c:Bn×K4×K4):Option ((Bn×K4×K4)⊕(Unit⊕(K4×K4))):=
 (fF c.1).bind λd=>(aT 24 c.2.1 [d]).bind λb=>(Nw c.1).bind λa=>bif ah a.2=0 then(some (.inr (.inr (b,c.2.2))))else((Acc a.1 device).bind λe=>bif e then((aT 24 c.2.2 [a.2]).bind λf=>some (.inl (a.1,b,f)))else((aT 24 c.2.2 [a.1]).bind λv25=>some (.inl (a.2,b,v25))))
def PL(a:Bn)(device:Int):Option (K4×K4):=
 (Acc a device).bind λv1=>bif(!v1)then(some ([],[]))else((AH (PK device) (a,[],[])).bind λb=>ma b (λc=>none) (λq=>some q))
theorem Abc{leaves device}:DL prog gl (PL leaves device) 116 [aE cZ leaves,iG device] (λr=> .tup [aE Jc r.1,aE Jc r.2]):=
 cy func116 λK=>BG 10 (DF gl) λv1=>aF 11 (rv K)<|rdN 11122 (λb=>so [] [(0,aE cZ b.1),(4,.rsl 0 0 b.2.1.length),(5,.rsl 1 0 b.2.2.length)] [ob 0 22 (b.2.1.flatMap Jc),ob 1 22 (b.2.2.flatMap Jc)] 2) [hc (nH.imm []),hc (nH.imm [])] K (λb k8 k9=>JI 14 rZ (uK gl) λf=>Gd (dg 16 nH) λa=>BG 19 (Abb gl) λg=>aF 30 (aP c3 k9 [hc (nH.al a),hc (nH.al b.2.2)])<|ak λh d=>kV (λc=>Gd (dg 41 nH) λe=>aw [hf 36 (cF (DF gl d) c)]<|cj k8 [hc (el a),hc (el e),hc (nH.imm a),hc (nH.imm e)]) λc=>Gd (dg 26 nH) λv25=>aw [hf 36 (cF (DF gl d) c)]<|cj k8 [hc (el a),hc (el v25),hc (nH.imm a),hc (nH.imm v25)]) (λ_=>rfl) [22,22] [(0,0),(1,1)] [(0,.row),(1,.row)]
section
variable {gl:CC}
abbrev oLs(l:K4):Option Ob:=some ⟨22,l.flatMap Jc,none⟩
def AdZ(s:K4×Nat×Nat):Option ((K4×Nat×Nat)⊕K4):=bif (s.2.1:Int)<(s.2.2:Int)-1 then(bif Nat.ble s.1.length 4000 then(swZ s.1 s.2.1 (s.2.2-1)).bind λw=>some (.inl (w,s.2.1+1,s.2.2-1))else none)else some (.inr s.1)
theorem Al7{q:Nat}(h:q<1000000):lD .sub (iG (q:Int)) (iG 1)=some (iG ((q:Int)-1)):=by grind [sb]
theorem AjQ{l r:K4}(hn:l.length<=4000)(h:AH AdZ (l,0,l.length)=some r):jg prog gl 202 [.rsl 0 0 l.length] [(0,oLs l)] 1 (.tup []) [(0,oLs r)] 1:=by
 refine pP func202 ?_;refine pN (λs:K4×Nat×Nat=>(s0 28 gl [(0,.rsl 0 0 s.1.length),(2,iG (s.2.1:Int)),(3,iG ((s.2.2:Int)-1))] [(0,oLs s.1)] 1 1)) 1122 h [hbb 6 (Al7 (q:=l.length) aa)] [hc (el l),hc (nH.imm l)] (λB s w hs k5 b=>?_);obtain⟨l1,i,j⟩:=s;unfold AdZ at hs;dsimp only at hs;rcases bC hs with⟨b1,hs⟩|⟨b1,hs⟩
 .rcases bC hs with⟨b2,hs⟩|⟨b2,hs⟩;rotate_left;· cases hs
  obtain⟨a,e0,hs⟩:=bS hs;obtain rfl:=Bp hs;obtain⟨j,rfl⟩:∃c,j=c+1:=⟨j-1,by have:=DV b1;omega⟩;rw[Nat.add_sub_cancel] at e0 k5;obtain⟨x,y,hx,hy,e1⟩:=I1 e0;have hw1:l1.length=a.length:=by rw[e1,List.length_set,List.length_set]
  have hi:=(cr hx).1;have hj:=(cr hy).1;have hl:=Ef b2;rw[show((j+1:Nat):Int)-1=(j:Int) by omega] at b1⊢;exact jw [hr 9 b1,AB 20 (nH.ixrZ 0 (Bt hy)),AB 21 (nH.p10Z Vs (Bt hy)),AB 24 (nH.ixrZ 0 (Bt hx)),AB 25 (nH.p10Z Vs (Bt hx)),AB 26 (nH.ixsZ 0 (stZ (x:=y) hx)),hw 26 ((l1.set i y).flatMap Jc) (nH.putZ (stZ (x:=y) hx)),AB 27 (nH.ixsZ 0 (stZ (x:=x) hy)),hw 27 (a.flatMap Jc) (e1▸nH.putZ (Ail (w:=x) (x:=x) (z:=y) (i:=i) hy)),hbb 11 (Xl (q:=i) aa),hbb 13 (Al7 (q:=j) aa)] [hc hw1,hc (nH.imm a)] (k5 _ rfl)
 .obtain rfl:=Bp hs;obtain rfl:=b _ rfl;exact mt .normal (s0 28 gl [] [(0,oLs l1)] 1 1) [] [hr 9 b1] [hc (nH.imm l1)] (kd:=[(0,.row)])
def MI(s:K4):Option K4:=aT 24 [] s
theorem SW{s:K4}:M5 prog gl (MI s) 201 [aE Jc s] 22 Jc:=λr h=>by
 unfold MI at h;refine OW func201 ?_;refine pO 1100 (s0 8 gl [(0,aE Jc s)] [] 0 0) [] [] ?_;refine IA 0 3 4 27 22 rfl (Ef aH) (Ef aH) λb hb=>?_;cases b
 .exact EI [eu 7 nH h] (nH.imm _)
 .obtain rfl:=nH.isNil (hb rfl);obtain rfl:=mV h;exact EI [] (nH.imm [])
theorem Ad0{l r:K4}(hn:l.length<=4000)(h:AH AdZ (l,0,l.length)=some r)(hl:r.length=l.length):ba prog gl 117 [aE Jc l] (aE Jc r):=by refine Gh func117 ?_;have a:=SW (gl:=gl) (s:=l) (r:=l) (by unfold MI;grind [aT]);have hM:=AjQ (gl:=gl) hn h;rw[<-hl] at a hM;exact Ar [hz 5 [] (VA (c:=0) aH a (eB aH) (nH.imm l)),tN 7 [0] 1 [(0,oLs l)] [.rsl 0 0 r.length] [(0,oLs r)] hM ⟨⟨rfl,.inr ⟨rfl,nH.imm l⟩⟩,trivial⟩ ⟨⟨rfl,.inr ⟨rfl,nH.imm r⟩⟩,trivial⟩] [hc (nH.al r)]
theorem Adh{a b r:K4}(hd:PL l d=some (a,b))(hn:a.length<=4000)(h:AH AdZ (a,0,a.length)=some r)(hl:r.length=a.length):ba prog gl 60 [aE cZ l,iG d] (aE Jc r):=by refine Gh func60 ?_;exact Ar [hf 10 (Abc gl hd),hf 14 (Ad0 (gl:=gl) hn h hl)] []
end
theorem Ahm(n:Int):SP n=zZ n:=by
 have:PJ n=AE n:=by grind [PJ,AE]
 grind [SP,zZ]
def lfN(n:Nat):Nat:=((zZ (n:Int)).getD 0).toNat
theorem aad{n:Nat}(h:2<=n)(hn:n<=1000000):zZ (n:Int)=some ((lfN n:Nat):Int)/\1<=lfN n/\lfN n<n:=by obtain⟨v,e,k,rfl,h1,h2⟩:=Oc h hn;grind [lfN]
def OR:Nat->Bn->K4
 |0,_=>[]
 |n+1,l=>if l.length=0 then[]else if l.length=1 then[l]else l::(OR n (l.take (lfN l.length))++OR n (l.drop (lfN l.length)))
def Zb(d:Int):Nat->Bn->K4
 |0,_=>[]
 |n+1,l=>if l.length<=1 then[l]else l::(if d∈l.take (lfN l.length)then Zb d n (l.take (lfN l.length))else Zb d n (l.drop (lfN l.length)))
theorem S7(d:Int):∀(n m:Nat) (l:Bn),l.length<n->l.length<m->l.length<=1000000->Zb d n l=Zb d m l
 |0,_,_,h,_,_=>(by grind)
 |_,0,_,_,h,_=>(by grind)
 |n+1,m+1,l,h,h',hl=>by
  unfold Zb;split
  .rfl
  .obtain⟨_,k1,k2⟩:=aad (n:=l.length) aa hl;rw[S7 d n m (l.take (lfN l.length)) cq cq cq,S7 d n m (l.drop (lfN l.length)) cq cq cq]
theorem abl:∀(nn:Nat) (l:Bn),l.length<nn->l.length<=1000000->KZ nn l=some (OR nn l)/\(OR nn l).length<=2*l.length-1
 |0,_,h,_=>absurd h (Nat.not_lt_zero _)
 |nn+1,l,h,hl=>by
  unfold KZ OR;by_cases h0:l.length=0
  .simp[ah,h0]
  by_cases h1:l.length=1
  .simp[ah,h1]
  obtain⟨e,k1,k2⟩:=aad (n:=l.length) aa hl;obtain⟨e2,n2⟩:=abl nn (l.take (lfN l.length)) cq cq;obtain⟨e3,a⟩:=abl nn (l.drop (lfN l.length)) cq cq;rw[show decide (ah l=0)=false from Dl (by unfold ah;omega),show decide (ah l=1)=false from Dl (by unfold ah;omega),Bf,Bf,show ah l=(l.length:Int) from rfl,e,aL,BX h0,BX h1];rw[Lv] at n2;rw[List.length_drop] at a;constructor
  .refine T.eq (.bind (.pre aa aa ?_));rw[Fw,e2,aL];refine .bind (.app (by simp only[List.length_singleton];omega) (.bind (.suf aa aa ?_)));rw[Fw,e3,aL];exact .bind (.app (by simp only[UQ,List.length_singleton];omega) (.some aC))
  grind
theorem Un:∀(nn:Nat) (l:Bn),∀s∈OR nn l,∀x∈s,x∈l
 |0,_=>by simp[OR]
 |nn+1,l=>by
  intro s hs x hx;unfold OR at hs;split at hs
  .cases hs
  split at hs
  .grind
  .rcases EG.1 hs with rfl|hs
   .exact hx
   rcases JF.1 hs with hs|hs
   .exact List.mem_of_mem_take (Un nn _ s hs x hx)
   .exact List.mem_of_mem_drop (Un nn _ s hs x hx)
theorem abm(d:Int):∀(nn:Nat) (l:Bn),l.length<nn->l.length<=1000000->l.Nodup->(OR nn l).filter (λs=>decide (d∈s))=if d∈l then Zb d nn l else[]
 |0,_,h,_,_=>(by grind)
 |nn+1,l,h,hl,hnd=>by
  by_cases hd:d∈l
  .rw[BB hd];have hp:0<l.length:=List.length_pos_of_mem hd;unfold OR Zb;rw[BX aa];by_cases h1:l.length=1
   .grind
   rw[BX h1,BX aa];obtain⟨_,k1,k2⟩:=aad (n:=l.length) aa hl;generalize lfN l.length=k at k1 k2;have e2:=abm d nn (l.take k) cq cq (by grind);have e3:=abm d nn (l.drop k) cq cq (by grind);grind [Pw]
  grind [List.filter_eq_nil_iff,Un]
theorem Afi{l:K4}(hl:l.length<=4000):AH AdZ (l,0,l.length)=some l.reverse:=by
 refine T.eq (T.loop (λs=>s.2.1+s.2.2=l.length/\s.1.length=l.length/\∀k,k<l.length->s.1[k]?=if s.2.1<=k/\k<s.2.2 then l[k]? else l.reverse[k]?) (λs=>s.2.2) (by grind) (by grind) ?_);rintro⟨w,i,j⟩ ⟨h1,h2,h3⟩;simp only at h1 h2 h3;unfold AdZ;refine .dec (λh0=>?_) λh0=> .some (show w=l.reverse from ?_)
 .have h0:(i:Int)<(j:Int)-1:=h0;rw[show Nat.ble (w,i,j).1.length 4000=true from(by grind [Nk]),ax];have hi:i<w.length:=aa;have hj:j-1<w.length:=aa;have e:swZ w i (j-1)=some ((w.set i (w[j-1]'hj)).set (j-1) (w[i]'hi)):=by grind [swZ]
  show T ((swZ w i (j-1)).bind _) _;rw[e,aL];refine .some ⟨⟨by grind,by simp[h2],λk hk=>?_⟩,by grind⟩;have ei:=h3 i aa;have ej:=h3 (j-1) aa;have ek:=h3 k hk;rw[BB (by grind)] at ei;rw[BB (by grind)] at ej;show((w.set i _).set (j-1) _)[k]?=if i+1<=k/\k<j-1 then _ else _
  rw[List.getElem?_set,List.getElem?_set];by_cases k1:j-1=k
  .grind
  grind
 .have h0:¬(i:Int)<(j:Int)-1:=h0;refine List.ext_getElem? λk=>?_;grind
theorem Ahn(hl:l.length<=3000)(hd:d∈l):∃b,PL l d=some (Zb d (l.length+1) l,b):=by
 unfold PL;rw[Tk aa,aL,show(l.any λy=>decide (d=y))=true from(by grind),Bool.not_true,Bf];obtain⟨R,hR⟩:∃R,Zb d (l.length+1) l=R:=⟨_,rfl⟩;rw[hR];have key:T (AH (PK d) (l,[],[])) λv=>∃b,v= .inr (R,b):=by
  refine T.loop (λs:Bn×K4×K4=>d∈s.1/\s.1.length<=3000/\s.2.1.length+s.1.length<=6000/\s.2.2.length+s.1.length<=6000/\s.2.1++Zb d (s.1.length+1) s.1=R) (λs=>s.1.length) (by grind) (by grind) ?_;rintro⟨c,a,f⟩ ⟨h1,h2,h3,h4,h5⟩;simp only at h1 h2 h3 h4 h5;have hp:0<c.length:=List.length_pos_of_mem h1;unfold PK fF;dsimp only;refine .bind (.app (by grind) (.bind (.app (by grind) ?_)));rw[Px];unfold Zb at h5;by_cases hc:c.length<2
  .rw[show Nw c=some ([],[]) by grind [Nw,ah],aL];rw[BB aa] at h5;exact .some ⟨f,by rw[<-h5]⟩
  obtain⟨e,k1,k2⟩:=aad (n:=c.length) aa aa;rw[BX aa] at h5;generalize lfN c.length=k at e k1 k2 h5;have eK:Nw c=some (c.take k,c.drop k):=by unfold Nw fF;rw[Dl (by grind [ah]),Bf,show ah c=(c.length:Int) from rfl,Ahm,e,aL];refine T.eq (.bind (.pre aa aa ?_));grind [T.bind,T.app,T.suf,T.some]
  have lt:(c.take k).length=k:=by grind
  have ld:(c.drop k).length=c.length-k:=List.length_drop;rw[eK,aL];dsimp only;rw[show decide (ah (c.drop k)=0)=false from(by grind [ah]),Bf,Tk aa,aL];have hx:d∈c.take k\/d∈c.drop k:=by grind [Pw]
  rw[S7 d c.length ((c.take k).length+1) (c.take k) aa aa aa,S7 d c.length ((c.drop k).length+1) (c.drop k) aa aa aa] at h5;by_cases ht:d∈c.take k
  .rw[show((c.take k).any λy=>decide (d=y))=true from(by grind),ax];rw[BB ht] at h5;refine .bind (.app (by grind) (.some (by constructor<;>grind)));all_goals grind
  .rw[show((c.take k).any λy=>decide (d=y))=false from(by grind),Bf];rw[BX ht] at h5;refine .bind (.app (by grind) (.some (by constructor<;>grind)));all_goals grind
 obtain⟨v,e,b,rfl⟩:=key;rw[e];exact⟨b,rfl⟩
theorem Afj(hl:l.length<=3000):N6 l d=some ((OR (l.length+1) l).filter λs=>decide (d∈s)).reverse:=by
 obtain⟨e0,hn⟩:=abl (l.length+1) l aa aa;obtain⟨v,e1,_,hy⟩:=u6 (l.length+1) l aa aa;rw[e0] at e1;obtain rfl:=Bp e1;unfold N6 Vp;rw[e0,aL];generalize OR (l.length+1) l=v1 at hn hy;have e:wI (ah v1-1)=ah v1-1:=by grind [bM,ah]
 rw[e];refine T.eq (.bind (T.mono (T.loop (Q:=λr:K4=>r=(v1.filter λs=>decide (d∈s)).reverse) (λs=> -1<=s.2/\s.2<(v1.length:Int)/\s.1=((v1.drop (s.2+1).toNat).filter λs=>decide (d∈s)).reverse) (λs=>(s.2+1).toNat) ⟨by unfold ah;omega,by unfold ah;omega,?_⟩ (by grind [ah]) ?_) λ_ h=> .some h))
 .grind [List.drop_eq_nil_of_le,ah]
 rintro⟨a,i⟩ ⟨i1,c,b⟩;simp only at i1 c b;unfold AF;refine .dec (λh0=>?_) λh0=> .some (show a=_ from ?_)
 .replace h0:0<=i:=h0;obtain⟨k,rfl⟩:=Int.eq_ofNat_of_zero_le h0;have hk:k<v1.length:=aa;have hw:wI ((k:Int)-1)=(k:Int)-1:=bM aa aa;have hz:aS v1 (k:Int)=some (v1[k]'hk):=Bt (EA hk);have ha:a.length<=6000:=by grind
  dsimp only;rw[hz,aL,cX (by grind),aL,JK,hw];have ed:v1.drop k=v1[k]'hk::v1.drop (k+1):=List.drop_eq_getElem_cons hk;rw[show((k:Int)+1).toNat=k+1 by omega] at b;by_cases hd:d∈v1[k]'hk
  .rw[C6 hd,ax,aL];refine .bind (.app (by grind) (.some ⟨⟨by show-1<=(k:Int)-1;omega,by show(k:Int)-1<_;omega,?_⟩,by show((k:Int)-1+1).toNat<((k:Int)+1).toNat;omega⟩));show a++[v1[k]'hk]=((v1.drop ((k:Int)-1+1).toNat).filter _).reverse;rw[show((k:Int)-1+1).toNat=k by omega,ed,List.filter_cons_of_pos (by simp[hd]),List.reverse_cons,b]
  .rw[Dl hd,Bf];refine .some ⟨⟨by show-1<=(k:Int)-1;omega,by show(k:Int)-1<_;omega,?_⟩,by show((k:Int)-1+1).toNat<((k:Int)+1).toNat;omega⟩;show a=((v1.drop ((k:Int)-1+1).toNat).filter _).reverse;rw[show((k:Int)-1+1).toNat=k by omega,ed,List.filter_cons_of_neg (by simp[hd]),b]
 .replace h0:¬0<=i:=h0;rw[b,show(i+1).toNat=0 by omega,List.drop_zero]
theorem VB(d:Int):∀(n:Nat) (l:Bn),l.length<n->l.length<=1000000->(Zb d n l).length<=l.length+1
 |0,_,h,_=>(by grind)
 |n+1,l,h,hl=>by
  unfold Zb;split
  .simp
  .obtain⟨_,k1,k2⟩:=aad (n:=l.length) aa hl;have a:=VB d n (l.take (lfN l.length)) cq cq;have b:=VB d n (l.drop (lfN l.length)) cq cq;grind
theorem Afk(d:Int):∀(n:Nat) (l:Bn),l.length<n->l.length<=1000000->d∈l->l.Nodup->(∀s∈Zb d n l,d∈s/\s.length<=l.length/\s.Nodup)/\((Zb d n l).Pairwise λa b=>b.length<a.length)/\(Zb d n l).getLast?=some [d]
 |0,_,h,_,_,_=>(by grind)
 |n+1,l,h,hl,hd,hn=>by
  unfold Zb;split
  .match l,hd,hn with
   |[a],hd,hn=>simp_all
   |a::b::r,_,_=>simp at*
  .obtain⟨_,k1,k2⟩:=aad (n:=l.length) aa hl;have hx:d∈l.take (lfN l.length)\/d∈l.drop (lfN l.length):=by grind [Pw]
   have key:∀q:Bn,q.length<l.length->d∈q->q.Nodup->(∀s∈l::Zb d n q,d∈s/\s.length<=l.length/\s.Nodup)/\((l::Zb d n q).Pairwise λa b=>b.length<a.length)/\(l::Zb d n q).getLast?=some [d]:=λq h1 h2 h3=>by obtain⟨a,b,c⟩:=Afk d n q aa aa h2 h3;refine⟨λs hs=>?_,(by grind [List.pairwise_cons]),by grind⟩;grind
   split
   .grind
   grind
def tpL(d:Int)(l:Bn):K4:=if d∈l then(Zb d (l.length+1) l).reverse else[]
structure Aaa (d:Int) (ss:K4):Prop where
 n:ss.length<=3000
 m:∀s∈ss,d∈s/\s.length<=3000/\s.Nodup
 p:ss.Pairwise λa b=>a.length<b.length
 f:∀s,ss[0]?=some s->s=[d]
theorem Aab:Aaa d []:=⟨aC,aC,.nil,aC⟩
theorem AjR(hl:l.length<=2000)(hn:l.Nodup):Aaa d (tpL d l):=by
 unfold tpL;split
 .rename_i hd;obtain⟨a,b,c⟩:=Afk d (l.length+1) l aa aa hd hn;have:=VB d (l.length+1) l aa aa;constructor<;>grind
 .exact Aab
theorem Afl(hl:l.length<=3000)(hn:l.Nodup):N6 l d=some (tpL d l):=by grind [Afj,abm,tpL]
theorem Afm{gl:CC}(hl:l.length<=3000):ba prog gl 60 [aE cZ l,iG d] (aE Jc (tpL d l)):=by
 unfold tpL;by_cases hd:d∈l
 .grind [Ahn,VB,Adh,Afi]
 .rw[BX hd];refine Adh (a:=[]) (b:=[]) ?_ aC (by grind [Afi]) rfl;grind [PL,Tk]
def AjS(k:Int):Bool:=(Fa k).getD false
theorem Afn{k:Int}(h:0<=k/\k<=13):Fa k=some (AjS k)/\ba prog fI 59 [iG k] (bG (AjS k)):=by
 have:k=0\/k=1\/k=2\/k=3\/k=4\/k=5\/k=6\/k=7\/k=8\/k=9\/k=10\/k=11\/k=12\/k=13:=aa;rcases this with rfl|rfl|rfl|rfl|rfl|rfl|rfl|rfl|rfl|rfl|rfl|rfl|rfl|rfl
 all_goals
  refine⟨aH,Gh func59 ?_⟩
  exact Ar [] []
def Afo(g:Bc)(o:Bo):Bn:=(qo g o).getD []
def stL(g:Bc)(o:Bo):K4:=bif AjS o.Kind then tpL o.By (Afo g o) else[]
theorem Afp{g:Bc}{m:Jb}(P:Pg g m N)(h14:g.L.length<=15){o:Bo}(so:Be o)(hk:Kn o)(h13:0<=o.Kind/\o.Kind<=13):ba prog fI 25 [.ptr (Ag ⟨g.Cards,m,N⟩) 0,.agg (aJ o)] (aE Jc (stL g o))/\jm g o=some (stL g o)/\Aaa o.By (stL g o)/\ba prog fI 61 [.ptr (Ag ⟨g.Cards,m,N⟩) 0,.agg (aJ o)] (aE cZ (Afo g o))/\qo g o=some (Afo g o)/\(Afo g o).length<=12:=by
 obtain⟨l,hA,e,hl,hn⟩:=Ads P h14 so hk;obtain⟨c1,c2⟩:=Afn h13;have hA':ba prog fI 61 [.ptr (Ag ⟨g.Cards,m,N⟩) 0,.agg (aJ o)] (aE cZ l):=by grind [AQ.fo,rZ,Ag,RJ]
 grind [Afo,stL,Adq,Afm,jm,cX,JK,Afl,tpL,Aab,AjR]
section
set_option maxHeartbeats 2000000
def No(g:Bc)(v1:Ba)(s3:Ba×Int):Option ((Ba×Int)⊕Ba):=
 bif s3.2<ah v1 then((aS v1 s3.2).bind λc=>(fC g c).bind λa=>bif a<0 then(some (.inl (s3.1,wI (s3.2+1))))else((aS g.L a).bind λd=>(jm g d).bind λb=>(bif 0<ah b then((aS g.L a).bind λe=>some (decide (ah b=ah e.Path)))else(some false)).bind λf=>bif f then((aS v1 s3.2).bind λh=>(aT 24 s3.1 [h]).bind λi=>some (.inl (i,wI (s3.2+1))))else(some (.inl (s3.1,wI (s3.2+1))))))else(some (.inr s3.1))
def Xi(g:Bc)(ids:Ba):Option Ba:=
 (n8 g ids).bind λv1=>(AH (No g v1) ([],0)).bind λa=>some a
def Aac(g:Bc)(commit:Ab):Option K4:=
 (fC g commit).bind λv1=>bif v1<0 then(some [])else((aS g.L v1).bind λa=>(jm g a).bind λb=>some b)
end
section
variable {g:Bc} {m:Jb} {N:I4} (P:Pg g m N) (h14:g.L.length<=15) (hkn:∀(k:Nat) (o:Bo),g.L[k]?=some o->Kn o)
include P h14 hkn
theorem Afq(x:Ab):ba prog fI 25 [.ptr (Ag ⟨g.Cards,m,N⟩) 0,.agg (aJ ((Dd g m N).o x))] (aE Jc (stL g ((Dd g m N).o x)))/\Aaa x.By (stL g ((Dd g m N).o x))/\(x∉g.IDs->stL g ((Dd g m N).o x)=[])/\Aac g x=some (stL g ((Dd g m N).o x)):=by
 have w:=P.w;have nI:=w.nI;have nL:=w.nL;by_cases hx:x∈g.IDs
 .obtain⟨i,o,e1,e2,e3,_,so,a⟩:=w.place (lj.2 hx);obtain⟨h1,h2,h3,_⟩:=Afp P h14 so (hkn i o e3) (by have:=a.kind;omega);rw[(P.op e3 e2).2];rw[<-(PN so (w.ids i o x e3 e2)).1] at h3;refine⟨h1,h3,λh=>absurd hx h,?_⟩;unfold Aac;rw[dC aa,aL,e1,show decide ((i:Int)<0)=false from Dl aa,Bf,au,e3,aL,h2];rfl
 .have e:(Dd g m N).o x=ip:=by unfold Gi.o;rw[Agv w P.p,jv.2 hx];rfl
  have hp:gO g x<0:=Int.not_le.1 λh=>hx (lj.1 h);have e2:stL g ip=[]:=rfl;rw[e,e2];refine⟨Adq (b:=false) (l:=[]) (ss:=[]) (Afn (k:=0) BU).2 (λh=>by cases h) (λh=>by cases h),Aab,λ_=>rfl,?_⟩;unfold Aac;rw[dC aa,aL,C6 hp,ax]
theorem Al8(x:Ab):ba prog fI 9 [.ptr (Ag ⟨g.Cards,m,N⟩) 0,.agg (aj x)] (aE Jc (stL g ((Dd g m N).o x))):=by
 obtain⟨h1,_,h2,_⟩:=Afq P h14 hkn x;have h:=AfH (Xj (UG P.w P.p)) h1;by_cases hx:x∈g.IDs
 .obtain⟨i,o,_,e2,e3,_⟩:=P.w.place (lj.2 hx);rw[show((Dd g m N).op x).isSome=true by rw[(P.op e3 e2).1];rfl] at h;exact h
 .rw[show((Dd g m N).op x).isSome=false by rw[Agv P.w P.p,jv.2 hx];rfl] at h;rw[h2 hx];exact h
include P h14 hkn
def isC(g:Bc)(I:Gi)(x:Ab):Bool:=Acm (stL g (I.o x)).length (I.o x)
theorem Afr{v:Ba}(hv:Fm g v)(a:v.Nodup):∃row:Ba,ba prog fI 7 [.ptr (Ag ⟨g.Cards,m,N⟩) 0,aE aj v] (aE aj (row.filter (isC g (Dd g m N))))/\Xi g v=some (row.filter (isC g (Dd g m N)))/\row.Perm v/\(row.Pairwise λx y=>M3 (Dd g m N) x y<0)/\row.length<=15:=by
 have w:=P.w;have nI:=w.nI;have hI:=Xj (UG w P.p);have hv14:v.length<=15:=by have:=EC a hv.sub;omega
 obtain⟨row,j,b,f⟩:=UI w P.p aa a hv.sub;have hrl:row.length<=15:=by rw[b.length_eq];exact hv14
 have hO:ba prog fI 22 [.ptr (Ag ⟨g.Cards,m,N⟩) 0,aE aj v] (aE aj row):=by obtain⟨r,e,l,q⟩:=Uy (aae (Dd g m N)) a hv14;have:r=row:=Wy (aae (Dd g m N)).tr XI (l.trans b.symm) q f;grind [AbI,UG,Pg.p,List.Perm.length_eq]
 refine⟨row,Acn hI (by grind [Afq]) hO aa,?_,b,f,hrl⟩;unfold Xi;rw[j,aL];refine T.eq (.bind (T.mono (T.forA (Q:=λr:Ba=>r=row.filter (isC g (Dd g m N))) row.length (λk acc=>acc=(row.take k).filter (isC g (Dd g m N))) aa aC (λk acc hk hj=>?_) λacc hj=>?_) λ_ h=> .some h))
 .obtain⟨x,hx⟩:∃x,row[k]?=some x:=by simp_all
  obtain⟨i,o,e1,e2,e3,_,so,s⟩:=w.place (lj.2 (hv.sub x (b.mem_iff.1 (bO hx))));obtain⟨_,hS,hl,_⟩:=Afp P h14 so (hkn i o e3) (by grind [Ga]);have hl:=hl.n;have ha:acc.length<=15:=by grind
  unfold No;dsimp only;rw[eA hk,ax,au,hx,aL,dC aa,aL,e1,show decide ((i:Int)<0)=false from(by simp_all),Bf,au,e3,aL,hS,aL];have hc:(bif 0<ah (stL g o)then(((some o:Option Bo)).bind λd=>some (decide (ah (stL g o)=ah d.Path)))else(some false))=some (isC g (Dd g m N) x):=by unfold isC;rw[(P.op e3 e2).2];grind [Acm,ah]
  rw[hc,aL,JD,hx,Option.toList_some,Se];cases c:isC g (Dd g m N) x with
  |true=>rw[ax,aL,show List.filter (isC g (Dd g m N)) [x]=[x] by simp[c]];exact .bind (.app (by grind) (.some ⟨aq aa,by rw[hj]⟩))
  |false=>rw[Bf,show List.filter (isC g (Dd g m N)) [x]=[] by simp[c],LP];exact .some ⟨aq aa,hj⟩
 .unfold No;dsimp only;rw[eF,Bf];exact .some (show acc=_ by grind)
end
theorem Ahp{N:I4}{u:Bn}{j:Int}(h:j∈u):lvN N j<lvF N u:=by
 have key:∀(u:Bn) (a:Int),a<=u.foldl (λa j=>Fv a (lvN N j+1)) a/\∀j∈u,lvN N j+1<=u.foldl (λa j=>Fv a (lvN N j+1)) a:=by intro u;induction u<;>grind [Fv]
 have:=(key u 1).2 j h;unfold lvF;omega
section
variable {g:Bc} {m:Jb} {N:I4} (P:Pg g m N)
include P
theorem Afs:∀(d i k:Nat) {y z:C5},i-k<=d->RU g i k=true->N[i]?=some y->N[k]?=some z->z.level<y.level
 |0,i,k,y,z,hd,h,_,_=>absurd (P.w.inlt i k h).1 aa
 |d+1,i,k,y,z,hd,h,hy,hz=>by
  have w:=P.w;have one:∀{i:Nat} {u:Bn} {y:C5},N[i]?=some y->g.Up[i]?=some u->(k:Int)∈u->z.level<y.level:=λ{i u y} h1 h2 h3=>by rw[P.p.lv i y u h1 h2];have:=Ahp (N:=N) h3;grind [lvN]
  obtain⟨u,hu,h1|⟨j,v,h1,h2,h3⟩⟩:=w.la i k h
  .grind
  .have hj:=(w.inlt i j h1);obtain⟨q,hq⟩:∃q,N[j]?=some q:=by grind
   have hk:=(w.up j v h2).2 _ h3;exact Int.lt_trans (one hq h2 h3) (Afs d i j aa h1 hy hq)
theorem Ahq{x y:Ab}(h:(Dd g m N).bef x y=true):M3 (Dd g m N) x y<0:=by
 rw[Agw P.w P.p] at h;split at h
 .rename_i i j hi hj;obtain⟨hi,_⟩:=gb hi;obtain⟨hj,_⟩:=gb hj;obtain⟨a,a1,a2,_⟩:=Uq P.w P.p hi;obtain⟨b,b1,b2,_⟩:=Uq P.w P.p hj;have:=Afs P _ _ _ (Dk _) h b1 a1;exact Td.2 (by grind)
 .cases h
end
section
variable {g:Bc} {m:Jb} {N:I4} (P:Pg g m N) (h14:g.L.length<=15) (hkn:∀(k:Nat) (o:Bo),g.L[k]?=some o->Kn o)
include P h14
theorem AjT:∃al,ba prog fI 8 [.ptr (Ag ⟨g.Cards,m,N⟩) 0] (aE aj al)/\al.Perm g.IDs/\Fm g al/\al.Nodup:=by
 have w:=P.w;have nI:=w.nI;have pl:=P.p.len;have e:VC (λ_=>true) N=g.IDs:=by
  refine List.ext_getElem? λi=>?_;unfold VC;rw[List.filter_eq_self.2 aC,Mu,List.getElem?_zipIdx];cases h:N[i]? with
  |none=>rw[List.getElem?_eq_none_iff] at h;exact(List.getElem?_eq_none aa).symm
  |some y=>exact(P.p.nd i y h).2.1.symm
 obtain⟨r,h1,h2,_⟩:=Uy QK (l:=g.IDs) w.nd aa;refine⟨r,Aht (gg:=⟨g.Cards,m,N⟩) (by show N.length<=15;omega) (by show Pa GL (VC _ N)=_;rw[e];exact h1) (by show r.length=(VC _ N).length;rw[e];exact h2.length_eq),h2,⟨λx hx=>h2.mem_iff.1 hx,by rw[h2.length_eq];omega⟩,h2.nodup_iff.2 w.nd⟩
include hkn
end
def aa9(I:Gi)(R:Ad)(row al:Ba)(id:Ab):Bool:=bif I.lev id=0 then false else !(Hx R).any (Z2 I id row (Pu I id al))
section
variable {g:Bc} {m:Jb} {N:I4} (P:Pg g m N)
include P
theorem AlJ:∀(i:Nat) (o:Bo) (x:Ab),g.L[i]?=some o->g.IDs[i]?=some x->x.Seq=o.Seq:=λi o x ho hx=>(PN (P.w.ops i o ho).1 (P.w.ids i o x ho hx)).2
theorem AlK{id:Ab}:(Dd g m N).lev id=0↔id∉g.IDs:=by
 have nU:=P.w.nU;have nI:=P.w.nI;cases hk:bu id g.IDs with
 |none=>
  have h0:(Dd g m N).lev id=0:=by show(match M2 ⟨g.Cards,m,N⟩ id with|some y=>y.level|none=>0)=_;rw[Sw P.w P.p,hk];rfl
  exact⟨λ_=>jv.1 hk,λ_=>h0⟩
 |some k=>have hid:=(gb hk).1;obtain⟨y,a,c,_⟩:=Uq P.w P.p hid;have hkl:=(cr hid).1;obtain⟨u,hu,_⟩:=Hm (l:=g.Up) (k:=k) aa;have b:=P.p.lv k y u a hu;have:=Adl (N:=N) (u:=u);exact⟨λh=>aa,λh=>absurd (bO hid) h⟩
theorem AdO(h14:g.L.length<=15):∃(al ids row:Ba) (R:Ad),ba prog fI 8 [.ptr (Ag ⟨g.Cards,m,N⟩) 0] (aE aj al)/\al.Perm ids/\Fm g al/\al.Nodup/\ids.Perm g.IDs/\(zY g ids).bind lu=some (Hx R)/\∀id,ba prog fI 14 [.ptr (Ag ⟨g.Cards,m,N⟩) 0,.agg (aj id)] (bG (aa9 (Dd g m N) R row al id)):=by
 have w:=P.w;have nI:=w.nI;have hI:=Xj (UG w P.p);obtain⟨al,hA,ap,f,h⟩:=AjT P h14;obtain⟨ids,a1,a2,a3⟩:=Cz w;have v1:Fm g ids:=⟨λx hx=>a2.mem_iff.1 hx,by rw[a2.length_eq];omega⟩;have v2:ids.Nodup:=a2.nodup_iff.2 w.nd;have pm:al.Perm ids:=ap.trans a2.symm;obtain⟨row,vs,_,_,_,_,_,_,_,_,_,_,hrl,hS⟩:=Adp P h14 (AlJ P) v1 v2;obtain⟨R,D,sen,e,c,a,d6,b,_⟩:=Abk P h14 (AlJ P) v1 v2;have hal:al.length<=15:=by rw[ap.length_eq];omega
 exact⟨al,ids,row,R,hA,pm,f,h,a2,by rw[e,aL];exact Ajk (ZZ P d6 aa c a).z c a,λid=>AdN hI hA aa a (b al pm).1 (λd=>AeS hI (hS al pm).1 aa (Ajn aa)) id⟩
end
section
variable {g:Bc} {m:Jb} {N:I4} (P:Pg g m N) (h14:g.L.length<=15) (hkn:∀(k:Nat) (o:Bo),g.L[k]?=some o->Kn o)
include P h14 hkn
abbrev ssG(g:Bc)(m:Jb)(N:I4)(x:Ab):K4:=stL g ((Dd g m N).o x)
theorem Aa3:∃(al ids row a cs:Ba) (R:Ad),al.Perm ids/\ids.Perm g.IDs/\a.Perm al/\(zY g ids).bind lu=some (Hx R)/\cs=a.filter (isC g (Dd g m N))/\(∀id,ba prog fI 14 [Z8 g.Cards m N,.agg (aj id)] (bG (aa9 (Dd g m N) R row al id)))/\(∀{d:Int} {hm:FM Aj Nat} {srt:List Aj},Ju hm srt->0<srt.length->(∀x∈srt,0<=x.n)->jg prog fI 12 [.ref 0 0,Z8 g.Cards m N] (σH d hm) 2 (.rsl 2 0 (RG (Pm (Dd g m N) d (ssG g m N) (cs.filter (aa9 (Dd g m N) R row al))) d srt).length) [(0,oH d 1),(1,eI (SF (Pm (Dd g m N) d (ssG g m N) (cs.filter (aa9 (Dd g m N) R row al))) srt hm)),(2,oTm (RG (Pm (Dd g m N) d (ssG g m N) (cs.filter (aa9 (Dd g m N) R row al))) d srt))] 3)/\ba prog fI 8 [Z8 g.Cards m N] (aE aj al)/\ba prog fI 7 [Z8 g.Cards m N,aE aj al] (aE aj cs)/\(∀x,ba prog fI 9 [Z8 g.Cards m N,.agg (aj x)] (aE Jc (ssG g m N x))/\(∀s∈ssG g m N x,s.length<=1000000)/\∀y,ba prog fI 15 [Z8 g.Cards m N,.agg (aj x),.agg (aj y)] (bG ((Dd g m N).bef x y)))/\(cs.Pairwise λx y=>M3 (Dd g m N) x y<0)/\cs.length<=15/\∀x∈cs,x∈g.IDs:=by
 have hI:=Xj (UG P.w P.p);obtain⟨al,ids,row,R,hA,pm,b,c,a2,hD,hS⟩:=AdO P h14;obtain⟨a,c1,_,c2,c3,c4⟩:=Afr P h14 hkn b c;have hT:=λx=>Al8 P h14 hkn x;have hz:(.ptr (Ag ⟨g.Cards,m,N⟩) 0:G)=Z8 g.Cards m N:=by simp only[Ag,RJ]
 have hl:∀x,∀s∈ssG g m N x,s.length<=1000000:=λx s hs=>Nj ((Afq P h14 hkn x).2.1.m s hs).2.1 BU;have hcl:=Nj (Oa (isC g (Dd g m N)) a) c4;exact⟨al,ids,row,a,_,R,pm,a2,c2,hD,rfl,λx=>hz▸hS x,λ{d hm srt} h h0 hx=>hz▸AeY hI hA c1 aa (sb:=aa9 (Dd g m N) R row al) (λx _=>hS x) (ss:=ssG g m N) hT hl (d:=d) h h0 hx,hz▸hA,hz▸c1,λx=>⟨hz▸hT x,hl x,λy=>hz▸hI.bef x y⟩,c3.sublist List.filter_sublist,hcl,λx hx=>b.sub x (c2.mem_iff.1 (Hl.1 hx).1)⟩
end
def O0(d:Int)(c:Ab)(i:Nat)(ss:K4)(m:FM Aj Nat):Nat->FM Aj Nat
 |0=>m
 |n+1=>bif LR (ss.getD n []) d then CA (O0 d c i ss m n) ⟨c,(n:Int)⟩ (100+i*60+n)else O0 d c i ss m n
def Pv(d:Int)(ss:Ab->K4)(cs:Ba)(m:FM Aj Nat):Nat->FM Aj Nat
 |0=>m
 |i+1=>O0 d (cs.getD i ⟨0,0,0⟩) i (ss (cs.getD i ⟨0,0,0⟩)) (Pv d ss cs m i) (min (ss (cs.getD i ⟨0,0,0⟩)).length 60)
abbrev kyH(m:FM Aj Nat):List Aj:=m.es.map (·.1)
theorem Ajt{k:Aj}{p:Nat}:x∈kyH (CA m k p)↔x∈kyH m\/x=k:=by grind [Mh]
theorem Aju(h:Nr m):x∈kyH m↔m.get x≠none:=by
 constructor
 .intro hx;obtain⟨e,he,rfl⟩:=EO.1 hx;rw[IX h (k:=e.1) (v:=e.2.1) (n:=e.2.2) he];simp
 grind [FM.get]
theorem Ac3{d:Int}{c:Ab}{i:Nat}{ss:K4}{m:FM Aj Nat}(h:Nr m):∀n,Nr (O0 d c i ss m n)/\(O0 d c i ss m n).es.length<=m.es.length+n/\∀x,x∈kyH (O0 d c i ss m n)↔x∈kyH m\/∃j,j<n/\LR (ss.getD j []) d=true/\x=⟨c,(j:Int)⟩
 |0=>⟨h,Dk _,λx=>⟨.inl,λq=>q.elim id (by grind)⟩⟩
 |n+1=>by obtain⟨h1,h2,h3⟩:=Ac3 (d:=d) (c:=c) (i:=i) (ss:=ss) h n;grind [O0,Hj,Gq,Mh,Ajt]
theorem Ac4{d:Int}{ss:Ab->K4}{cs:Ba}{m:FM Aj Nat}(h:Nr m):∀n,n<=cs.length->Nr (Pv d ss cs m n)/\(Pv d ss cs m n).es.length<=m.es.length+60*n/\∀x,x∈kyH (Pv d ss cs m n)↔x∈kyH m\/∃(i j:Nat) (c:Ab),i<n/\cs[i]?=some c/\j<(ss c).length/\j<60/\LR ((ss c).getD j []) d=true/\x=⟨c,(j:Int)⟩
 |0,_=>⟨h,Dk _,λx=>⟨.inl,λq=>q.elim id (by grind)⟩⟩
 |n+1,hn=>by
  obtain⟨h1,h2,h3⟩:=Ac4 (d:=d) (ss:=ss) (cs:=cs) h n aa;obtain⟨c,hc⟩:∃c,cs[n]?=some c:=⟨_,EA aa⟩;have e:cs.getD n ⟨0,0,0⟩=c:=by grind
  unfold Pv;rw[e];obtain⟨k1,k2,k3⟩:=Ac3 (d:=d) (c:=c) (i:=n) (ss:=ss c) h1 (min (ss c).length 60);grind
theorem Ajv{l:List Aj}(hn:l.Nodup)(hb:∀x∈l,bdH x):∃r:List Aj,r.Perm l/\r.Pairwise λx y=>ltN x y=true:=by obtain⟨d,rfl⟩:∃d:List BN,d.map (·.1)=l:=⟨l.pmap (λx h=>⟨x,h⟩) hb,by rw[List.map_pmap];simp⟩;exact⟨_,AeW d hn⟩
theorem AlX(h:Nr m)(n:m.es.length<=1000)(hb:∀x∈kyH m,bdH x):∃srt,Ju m srt:=by obtain⟨r,h1,h2⟩:=Ajv h.kd hb;exact⟨r,h,n,hb,h1,h2⟩
theorem Ajw(h:Nr m):∀l:List Aj,Nr (l.foldl LS m)/\∀x,x∈kyH (l.foldl LS m)↔x∈kyH m/\x∉l:=λl=>by
 induction l generalizing m with
 |nil=>grind
 |cons a r ih=>grind [Re,Aju,MY]
theorem Ju.cln{m:FM Aj Nat}{srt:List Aj}(h:Ju m srt)(g:Aj->Bool):Ju (SF g srt m) (srt.filter λx=> !g x):=by
 obtain⟨k1,k2⟩:=Ajw h.ok (srt.filter g);have hsn:srt.Nodup:=h.pm.nodup_iff.2 h.ok.kd;have pm:(srt.filter λx=> !g x).Perm (kyH (SF g srt m)):=(List.perm_ext_iff_of_nodup (by grind) k1.kd).2 λx=>by rw[k2 x,Hl,Hl,<-h.pm.mem_iff];grind
 refine⟨k1,?_,(by grind [Ju]),pm,h.so.sublist List.filter_sublist⟩;grind [List.Perm.length_eq,Gq,Oa,len,n]
section
set_option maxHeartbeats 2000000
theorem O9:fg prog 49=some true:=aH
def vM(x:HD):List Value:=[.int .i64 x.Kind,.int .i64 x.Of.By,.int .i64 x.Of.Seq,.int .u64 (x.Of.Sum:Int),.int .i64 x.N,.int .i64 x.M]
theorem Pl(d:Nat)(i j:HD):bt prog (Op.equalIn (d+4) 49 (.agg (vM i).toArray) (.agg (vM j).toArray))=some (decide (i=j)):=by obtain⟨a0,a1,a2,a3⟩:=i;obtain⟨b0,b1,b2,b3⟩:=j;unfold vM;rw[xV (fs:= #[⟨ "Kind",3,0,false, "", "",0⟩,⟨ "Of",41,1,false, "", "",8⟩,⟨ "N",3,4,false, "", "",32⟩,⟨ "M",3,5,false, "", "",40⟩]) aH aH];simp only[Array.toList];rw[uJ (k:= .i64) (k':= .i64) (a:=a0) (b:=b0) BU aH aH aH];rw[Qs (d:=d+3) (f:=⟨ "Of",41,1,false, "", "",8⟩) (fs:=[⟨ "N",3,4,false, "", "",32⟩,⟨ "M",3,5,false, "", "",40⟩]) (us:=(Pe a1).toArray) (vs:=(Pe b1).toArray) BU aH aH (Pf d a1 b1)];rw[uJ (k:= .i64) (k':= .i64) (a:=a2) (b:=b2) BU aH aH aH];rw[uJ (k:= .i64) (k':= .i64) (a:=a3) (b:=b3) BU aH aH aH];simp only[HD.mk.injEq];by_cases h0:a0=b0<;>by_cases h1:a1=b1<;>by_cases h2:a2=b2<;>by_cases h3:a3=b3<;>simp[h0,h1,h2,h3,Op.eqFields,bz]
theorem Ac1(i j:HD)(h:decide (i=j)=r):∀p q:DC,b8 prog .eql 49 p q (.agg (fT i)) (.agg (fT j))=some (bG r):=λp q=>by subst h;exact Eo (us:=vM i) (vs:=vM j) aH aH aH (Pl 9996 i j)
theorem LK(i j:HD)(h:(!decide (i=j))=r):∀p q:DC,b8 prog .neq 49 p q (.agg (fT i)) (.agg (fT j))=some (bG r):=λp q=>by subst h;exact Cb (us:=vM i) (vs:=vM j) aH aH aH (Pl 9996 i j)
def gX(a:List HD)(b:List HD)(s2:Int):Option ((Int)⊕(Unit⊕Bool)):=
 bif s2<ah a then((aS a s2).bind λc=>(aS b s2).bind λd=>bif(!decide (c=d))then(some (.inr (.inr false)))else(some (.inl (wI (s2+1)))))else(some (.inr (.inl ())))
def pi(a:List HD)(b:List HD):Fo:=
 bif ah a≠ah b then(some false)else((AH (gX a b) 0).bind λc=>ma c (λd=>some true) (λq=>some q))
theorem zx{a b}:DL prog gl (pi a b) 48 [aE fT a,aE fT b] bG:=
 cy func48 λK=>aF 10 (aP c0 K [])<|qf 11101 1110122 (λh=>sg [] []) (λs2=>sf [] [(5,iG s2)]) [] K (λh=>aP c0 K []) λs2 k6 k5 i=>aF 14 (ak λd e=>ak λf g=>aw [AB 19 (fL.ixZ e),AB 20 (fL.ptZ O9 e),AB 23 (fL.ixZ g),AB 24 (fL.ptZ O9 g)]<|kV (λc=>aw [hV 25 (cV (LK d f rfl) c)]<|aP c3 i []) λc=>aw [hV 25 (cV (LK d f rfl) c)]<|cj k6 [])<|aA c2 k5 []
def JP(l:List HD)(t:HD)(s1:Int):Option ((Int)⊕(Unit⊕Bool)):=
 bif s1<ah l then((aS l s1).bind λa=>bif a=t then(some (.inr (.inr true)))else(some (.inl (wI (s1+1)))))else(some (.inr (.inl ())))
def Ja(l:List HD)(t:HD):Fo:=
 (AH (JP l t) 0).bind λa=>ma a (λb=>some false) (λq=>some q)
theorem O5{l t}:DL prog gl (Ja l t) 16 [aE fT l,.agg (fT t)] bG:=
 cy func16 λK=>qf 1101 110122 (λd=>sg [] []) (λs1=>so [1] [(3,.ref 0 0),(5,iG s1)] [ob 0 49 (fT t)] 1) [] K (λd=>aP c0 K []) λs1 k5 e k6=>aF 9 (ak λb c=>aw [AB 14 (fL.ixZ c),AB 15 (fL.ptZ O9 c)]<|kV (λa=>aw [hV 17 (cV (Ac1 b t rfl) a)]<|aP c3 k6 []) λa=>aw [hV 17 (cV (Ac1 b t rfl) a)]<|cj k5 [])<|aA c2 e []
end
theorem Ag9{l:List HD}(hn:l.length<=1000000)(t:HD):Ja l t=some (l.any λx=>decide (x=t)):=by unfold Ja;refine T.eq ((Mq l hn (rest:=false) (next:=λ_=>some false) (λk x hx hm hk=>?_) ?_ (.some rfl)).mono λv hv=>by simpa using hv);all_goals grind [JP,eA,au,aq,eF]
section
variable {I:Gi} {d:Int} {ss:Ab->K4} {cs stl:Ba} {M:FM Aj Nat} {srt:List Aj} (hs:stl.Sublist cs) (h0:∀c∈cs,c≠⟨0,0,0⟩) (hM:∀x,x∈kyH M↔x=LL\/∃c∈cs,∃j:Nat,j<(ss c).length/\j<60/\LR ((ss c).getD j []) d=true/\x=⟨c,(j:Int)⟩) (hd:Ju M srt)
theorem Aha(hn:cs.length<=15):∃srt,Ju (Pv d ss cs (O4 7) cs.length) srt/\0<srt.length/\(∀x∈srt,0<=x.n)/\∀x,x∈kyH (Pv d ss cs (O4 7) cs.length)↔x=LL\/∃c∈cs,∃j:Nat,j<(ss c).length/\j<60/\LR ((ss c).getD j []) d=true/\x=⟨c,(j:Int)⟩:=by
 obtain⟨h1,h2,h3⟩:=Ac4 (d:=d) (ss:=ss) (cs:=cs) (m:=O4 7) (Hj AcO (k:=LL) 7) cs.length (Dk _);have e:(O4 7).es.length=1:=rfl;have k:∀x,x∈kyH (Pv d ss cs (O4 7) cs.length)↔x=LL\/∃c∈cs,∃j:Nat,j<(ss c).length/\j<60/\LR ((ss c).getD j []) d=true/\x=⟨c,(j:Int)⟩:=by grind [O4,Gu]
 have b:∀x∈kyH (Pv d ss cs (O4 7) cs.length),bdH x:=by grind
 obtain⟨srt,hd⟩:=AlX h1 aa b;exact⟨srt,hd,List.length_pos_of_mem (hd.pm.mem_iff.2 ((k LL).2 (.inl rfl))),λx hx=>(b x (hd.pm.mem_iff.1 hx)).1,k⟩
include h0
theorem Ae0{c:Ab}{j:Nat}(hc:c∈cs)(hj:j<(ss c).length):decide ((⟨c,(j:Int)⟩:Aj)=LL)=false/\UO d ss ⟨c,(j:Int)⟩=(ss c).getD j []:=by grind [UO,ah,au]
include hs hM hd
theorem Ajx{v:Ab}(hv:v∈stl)(hb:v.By=d){t:HD}(ht:t∈(srt.filter λx=> !Pm I d ss stl x).map (C4 d)):decide (t.Kind=1)=false/\I.bef t.Of v=false:=by obtain⟨x,hx,rfl⟩:=EO.1 ht;obtain⟨hx,hg⟩:=Hl.1 hx;have go:∀{y:Aj},c1B I (UO d ss y) y v=true->Pm I d ss stl y=true:=λh=>List.any_eq_true.2 ⟨v,hv,h⟩;grind [Ju,c1B,UO,LR,Ae0,C4]
theorem Ajy{c:Ab}{j:Nat}(hc:c∈cs)(hj:j<(ss c).length)(hj6:j<60)(hb:∀v∈cs,I.bef c v=false):((srt.filter λx=> !Pm I d ss stl x).map (C4 d)).any (λx=>decide (x=⟨3,c,(j:Int),0⟩))=LR ((ss c).getD j []) d:=by
 obtain⟨e,e2⟩:=Ae0 h0 (d:=d) (ss:=ss) hc hj;have hg:Pm I d ss stl ⟨c,(j:Int)⟩=false:=List.any_eq_false.2 (by grind [c1B]);have ht:C4 d ⟨c,(j:Int)⟩=⟨3,c,(j:Int),0⟩:=by grind [C4]
 rw[Bool.eq_iff_iff,List.any_eq_true];constructor
 .grind [Ju,C4]
 grind [Ju]
end
theorem AdP{r:Bc}{ms:Nat->Jb}(e:vq l 14=some r)(h:Aae r ms N):jg prog fI 4 [aE cZ l] [] 0 (.tup [.ref 0 0,.agg (aI r)]) [(0,oG r.Cards r.L.length 2),(1,oM (ms r.L.length)),(2,oN3 N r.L.length)] 3:=by refine pP func4 ?_;exact mt .ret (s0 10 fI [(2,.ref 0 0),(3,.ptr (aI r) 0)] [(0,oG r.Cards r.L.length 2),(1,oM (ms r.L.length)),(2,oN3 N r.L.length)] 3 0) [.ref 0 0,.agg (aI r)] [hf 6 (Jm fI e),tN 8 [] 2 [] [.agg (aI r)] [ob 0 93 [aE bv r.Cards,.mref 3,.rsl 4 0 r.L.length],(1,oM (ms r.L.length)),(2,oN3 N r.L.length)] (ZC h.run) trivial ⟨⟨rfl,.inl rfl⟩,⟨rfl,rfl,rfl,rfl,.inr ⟨rfl,Dx _⟩⟩,⟨rfl,.inr ⟨rfl,az.imm _⟩⟩,trivial⟩] [hc (eB (gs:=aI r) aH),hc (rfl:r.L.length=r.L.length),hc (Dx (ms r.L.length)),hc (az.imm (N.take r.L.length))]
theorem AdQ(hl:l.length<=9223372036854775807)(hi:∀x∈l,c8 x):∃(r:Bc) (m:Jb) (N:I4),Pg r m N/\r.L.length<=15/\r.L≠[]/\(∀(k:Nat) (o:Bo),r.L[k]?=some o->Kn o)/\LC g0 r/\r.Cards=u7/\jg prog fI 4 [aE cZ l] [] 0 (.tup [.ref 0 0,.agg (aI r)]) [(0,oG r.Cards N.length 2),(1,oM m),(2,zQ N)] 3:=by
 obtain⟨r,b,N,c,hM⟩:=Xe hl hi;have a:=AdP c hM;have pl:=hM.pg.len;have eN:oN3 N r.L.length=zQ N:=by grind
 rw[eN,<-pl] at a;exact⟨r,b N.length,N,by rw[pl];exact Aml hM,Nat.le_succ_of_le hM.n14,hM.ne,λk o h=>(Amm hM h).2,hM.gr,hM.gC,a⟩
theorem Ajz(C:Mi)(m:Jb)(N:I4):ba prog fI 17 [Z8 C m N] (iG (ah N)):=by refine Gh func17 ?_;exact Ar [] []
abbrev frF(r:Bc)(m:Jb)(N:I4)(d:Int)(q:Fr):Fr:=[(5,Z8 r.Cards m N),(6,.ptr (aI r) 0),(7,iG d)]++q
theorem AjA{k j:Nat}(hk:k<=1000)(hj:j<=60):lD .mul (iG (k:Int)) (iG 60)=some (iG ((k*60:Nat):Int))/\lD .add (iG 100) (iG ((k*60:Nat):Int))=some (iG ((100+k*60:Nat):Int))/\lD .add (iG ((100+k*60:Nat):Int)) (iG (j:Int))=some (iG ((100+k*60+j:Nat):Int))/\some (G.lit (.int .u64 (IntKind.u64.wrap ((100+k*60+j:Nat):Int))))=some (uG ((100+k*60+j:Nat):Int)):=by
 refine⟨?_,ad aa aa,ad aa aa,?_⟩
 .show some (iG (IntKind.i64.wrap ((k:Int)*60)))=_;rw[Mx aa];simp
 .rw[C8,gP,LO aa]
theorem Ae2(D:ba prog fI 18 [] (bG true))(hl:l.length<=9223372036854775807)(hi:∀x∈l,c8 x){dv:Int}(hdv:c8 dv):ba prog fI 3 [aE cZ l,iG dv] (bG true):=by
 obtain⟨r,m,N,P,h14,_,hkn,_,_,hM⟩:=AdQ hl hi;have nI:=P.w.nI;have V:=P.p.len;obtain⟨a,ea,ha⟩:=eX hdv (show(0:Int)<6 by decide);obtain⟨d,hd⟩:∃d,d=1+a:=⟨_,rfl⟩;obtain⟨al,ids,row,_,cs,R,_,_,_,_,_,hS,g,hA,J,hT,hso,F,Q⟩:=Aa3 P h14 hkn;have hbc:∀x y,(Dd r m N).bef x y=true->M3 (Dd r m N) x y<0:=λx y=>Ahq P;have h0:∀c∈cs,c≠⟨0,0,0⟩:=λc hc e=>by obtain⟨i,hi⟩:=Gu (Q c hc);obtain⟨o,ho⟩:∃o,r.L[i]?=some o:=⟨_,EA (by have:=(cr hi).1;omega)⟩;have q:=P.od i o c ho hi;have:=q.i;have:=q.b;subst e;simp only at this;grind
 obtain⟨ss,hss⟩:∃ss,ss=ssG r m N:=⟨_,rfl⟩;rw[<-hss] at g;rw[<-hss] at hT;generalize aa9 (Dd r m N) R row al=stq at hS g;have h6:=Ajz r.Cards m N;have S:=(aae (Dd r m N)).tr;have H:=λc=>XI (I:=Dd r m N) c;generalize Dd r m N=I at*;have hsub:(cs.filter stq).Sublist cs:=List.filter_sublist;obtain⟨srt,f,hp,hn,hk⟩:=Aha (d:=d) (ss:=ss) F;have hcl:=g (d:=d) f hp hn;have u:=f.cln (Pm I d ss (cs.filter stq));have hold:=λv hv hb t ht=>Ajx (I:=I) hsub h0 hk f (v:=v) hv hb (t:=t) ht;have hnew:=λc j hc hj hj6 hb=>Ajy (I:=I) hsub h0 hk f (c:=c) (j:=j) hc hj hj6 hb;have ht:=R4 fI (d:=d) u;have hTn:((srt.filter λx=> !Pm I d ss (cs.filter stq) x).map (C4 d)).length<=1000:=by have:=u.len;have:=u.n;rw[Gq];omega
 generalize (srt.filter λx=> !Pm I d ss (cs.filter stq) x).map (C4 d)=T at*;generalize RG (Pm I d ss (cs.filter stq)) d srt=O at hcl;generalize SF (Pm I d ss (cs.filter stq)) srt (Pv d ss cs (O4 7) cs.length)=K2 at hcl ht;clear g hk f u;refine Gh func3 ?_;refine pO 1111110 (s0 171 fI (frF r m N d [(8,.ref 0 0)]) (σH d (O4 7)) 2 0) [tN 22 [] 0 [] [aE cZ l] [ob 0 93 [aE bv r.Cards,.mref 1,.rsl 2 0 N.length],(1,oM m),(2,zQ N)] hM trivial ⟨⟨rfl,.inl rfl⟩,⟨rfl,rfl,rfl,rfl,.inr ⟨rfl,Dx _⟩⟩,⟨rfl,.inr ⟨rfl,az.imm _⟩⟩,trivial⟩,hf 26 (iL fI ea),hbb 27 (ad hd.symm aa),tN 29 [] 4 [] [iG d,uG 7] [(0,oH d 5),(1,eI (O4 7))] (Lm fI d 7) trivial ⟨⟨rfl,.inl rfl⟩,⟨rfl,rfl,rfl,rfl,.inr ⟨rfl,Ho _⟩⟩,trivial⟩] [hc (Dx m),hc (az.al N),hc (eB (gs:=[aE bv r.Cards,gMp m,aE d7 N]) aH),hc (eB (gs:=aI r) aH),hc (Ho (O4 7))] ?_;refine Ix 111111101 (s0 171 fI (frF r m N d [(8,.ref 0 0),(9,aE aj cs)]) (σH d (Pv d ss cs (O4 7) cs.length)) 2 0) ?_ λU=>?_;rotate_left
 .refine XU (l:=cs) aa (λk:Nat=>(s0 171 fI (frF r m N d [(8,.ref 0 0),(9,aE aj cs),(10,iG (k:Int))]) (σH d (Pv d ss cs (O4 7) k)) 2 0)) 11111110122 [hf 38 hA,hf 39 J] [hc (Ho (O4 7))] (λB k x hx hz k5=>?_) (λB=>?_)
  .have hkc:=(cr hx).1;obtain⟨A,C,_⟩:=hT x;have ek:Pv d ss cs (O4 7) (k+1)=O0 d x k (ss x) (Pv d ss cs (O4 7) k) (min (ss x).length 60):=by show O0 _ (cs.getD k _) _ _ _ _=_;rw[show cs.getD k ⟨0,0,0⟩=x by rw[List.getD_eq_getElem?_getD,hx];rfl]
   rw[ek] at k5;generalize Pv d ss cs (O4 7) k=M at k5⊢;generalize ss x=s at A C k5;refine Ix 1111111012210211 (s0 171 fI (frF r m N d [(8,.ref 0 0),(9,aE aj cs),(10,iG (k:Int))]) (σH d (O0 d x k s M (min s.length 60))) 2 0) ?_ λE=>?_
   .exact jw [hbb 45 (Xl (q:=k) aa)] [hc (Ho (O0 d x k s M (min s.length 60)))] k5
   refine XU (l:=s.take 60) (by rw[Lv];omega) (λj:Nat=>(s0 171 fI (frF r m N d [(8,.ref 0 0),(9,aE aj cs),(10,iG (k:Int)),(11,aE Jc s),(12,iG (j:Int))]) (σH d (O0 d x k s M j)) 2 0)) 111111101221021122 [hr 43 (CB hx),AB 49 (ac.ixZ hz),AB 50 (ac.ptZ aW hz),hf 51 A] [hc (Ho M)] (λB j y hy hw k6=>?_) (λB=>?_)
   .have hj6:j<60:=by have:=(cr hy).1;rw[Lv] at this;omega
    rw[List.getElem?_take_of_lt hj6] at hy;have hw:aS s (j:Int)=some y:=by rw[au];exact hy
    have hh:=DD fI (cX (C y (bO hy)) d);rw[JK] at hh;change ba _ _ _ _ (bG (LR y d)) at hh;rw[show O0 d x k s M (j+1)=bif LR y d then CA (O0 d x k s M j) ⟨x,(j:Int)⟩ (100+k*60+j)else O0 d x k s M j by show(bif LR (s.getD j []) d then _ else _)=_;rw[List.getD_eq_getElem?_getD,hy];rfl] at k6
    generalize O0 d x k s M j=M at k6⊢;obtain⟨u1,W,X,Y⟩:=AjA (k:=k) (j:=j) aa aa;cases c:LR y d with
    |false=>rw[c] at hh k6;exact jw [hr 55 (CB hy),hr 58 (C6 (show(j:Int)<60 by omega)),AB 64 (nH.ixZ hw),AB 65 (nH.p1Z Vs hw),hf 67 hh,hbb 61 (Xl (q:=j) aa)] [hc (Ho M)] k6
    |true=>rw[c] at hh k6;exact jw [hr 55 (CB hy),hr 58 (C6 (show(j:Int)<60 by omega)),AB 64 (nH.ixZ hw),AB 65 (nH.p1Z Vs hw),hf 67 hh,AB 71 (ac.ixZ hz),AB 72 (ac.ptZ aW hz),hbb 75 u1,hbb 76 W,hbb 78 X,AB 79 Y,tN 80 [0,1] 2 (σH d M) [.ref 0 0,.agg (aj x),iG (j:Int),uG ((100+k*60+j:Nat):Int)] (σH d (CA M ⟨x,(j:Int)⟩ (100+k*60+j))) (RT fI x j (100+k*60+j)) abd ⟨⟨rfl,.inl rfl⟩,⟨rfl,rfl,rfl,rfl,.inr ⟨rfl,Ho _⟩⟩,trivial⟩,hbb 61 (Xl (q:=j) aa)] [hc (Ho (CA M ⟨x,(j:Int)⟩ (100+k*60+j)))] k6
   .rw[Lv,Nat.min_comm];by_cases h:s.length<=60
    .rw[Nat.min_eq_left h] at E⊢;exact yl 1111111012210211 [hr 55 (DS (s:=s))] [hc (Ho (O0 d x k s M s.length))] E
    .rw[Nat.min_eq_right aa] at E⊢;exact yl 1111111012210211 [hr 55 (C6 (show((60:Nat):Int)<ah s by unfold ah;omega)),hr 58 (Dl (show¬((60:Nat):Int)<60 by omega))] [hc (Ho (O0 d x k s M 60))] E
  .exact yl 111111101 [hr 43 (DS (s:=cs))] [hc (Ho (Pv d ss cs (O4 7) cs.length))] U
 generalize Pv d ss cs (O4 7) cs.length=K at hcl⊢;refine pO 1111111110 (s0 171 fI (frF r m N d [(8,.ref 0 0),(9,aE aj cs)]) (σH d K2) 2 0) [tN 83 [0,1] 2 (σH d K) [.ref 0 0,Z8 r.Cards m N] [(0,oH d 1),(1,eI K2),(2,oTm O)] hcl abd ⟨⟨rfl,.inl rfl⟩,⟨rfl,rfl,rfl,rfl,.inr ⟨rfl,Ho _⟩⟩,⟨rfl,.inr ⟨rfl,fL.imm _⟩⟩,trivial⟩] [hc (Ho K2)] ?_;refine Ix 111111111101 (s0 171 fI (frF r m N d [(9,aE aj cs),(13,aE fT T)]) [] 0 0) ?_ λU=>?_;rotate_left
 .refine XU (l:=cs) aa (λk:Nat=>(s0 171 fI (frF r m N d [(9,aE aj cs),(13,aE fT T),(14,iG (k:Int))]) [] 0 0)) 11111111110122 [tN 85 [0,1] 2 (σH d K2) [.ref 0 0] [(0,oH d 1),(1,eI K2),(2,oTm T)] ht abd ⟨⟨rfl,.inl rfl⟩,⟨rfl,rfl,rfl,rfl,.inr ⟨rfl,Ho _⟩⟩,⟨rfl,.inr ⟨rfl,fL.imm _⟩⟩,trivial⟩] [hc (fL.al T)] (λB k x hx hz k5=>?_) (λB=>?_)
  .have hkc:=(cr hx).1;have h1:=hS x;cases c1:decide (x.By≠d) with
   |true=>exact jw [hr 89 (CB hx),AB 94 (ac.ixZ hz),AB 95 (ac.ptZ aW hz),hr 99 c1,hbb 91 (Xl (q:=k) aa)] [] k5
   |false=>
    cases c2:stq x with
    |false=>rw[c2] at h1;exact jw [hr 89 (CB hx),AB 94 (ac.ixZ hz),AB 95 (ac.ptZ aW hz),hr 99 c1,hf 103 h1,hbb 91 (Xl (q:=k) aa)] [] k5
    |true=>
     rw[c2] at h1;have hby:x.By=d:=Decidable.of_not_not (Ni c1);have hxm:=Hl.2 ⟨bO hx,c2⟩;refine Ix 11111111110122102111 (s0 171 fI (frF r m N d [(9,aE aj cs),(13,aE fT T),(14,iG (k:Int))]) [] 0 0) ?_ λE=>?_
     .exact jw [hbb 91 (Xl (q:=k) aa)] [] k5
     refine XU (l:=T) aa (λj:Nat=>(s0 171 fI (frF r m N d [(9,aE aj cs),(13,aE fT T),(14,iG (k:Int)),(15,.ptr (aj x) 0),(16,iG (j:Int))]) [] 0 0)) 1111111111012210211122 [hr 89 (CB hx),AB 94 (ac.ixZ hz),AB 95 (ac.ptZ aW hz),hr 99 c1,hf 103 h1] [hc (eB (gs:=aj x) aH)] (λB j y hy hw k6=>?_) (λB=>?_)
     .have Z:=(cr hy).1;obtain⟨q1,q2⟩:=hold x hxm hby y (bO hy);have hb:=(hT y.Of).2.2 x;rw[q2] at hb;exact jw [hr 109 (CB hy),AB 114 (fL.ixZ hw),AB 116 (fL.fdZ tZ 0 hw),hr 117 q1,AB 122 (fL.ixZ hw),AB 124 (fL.fsZ (n:=3) aW aH 1 BU hw),hf 126 hb,hbb 111 (Xl (q:=j) aa)] [] k6
     .exact yl 11111111110122102111 [hr 109 (DS (s:=T))] [] E
  .exact yl 111111111101 [hr 89 (DS (s:=cs))] [] U
 have h7:decide (ah r.IDs=ah N)=true:=C6 (by unfold ah;omega);rcases Nat.eq_zero_or_pos cs.length with z|z
 .exact Ar [hr 130 (Dl (show¬(0:Int)<ah cs by unfold ah;omega)),hf 166 h6,hr 167 h7,hf 169 D] []
 obtain⟨p,hpl⟩:∃p,cs.length=p+1:=⟨cs.length-1,aa⟩;obtain⟨x,hx⟩:∃x,cs[p]?=some x:=⟨_,EA aa⟩;have hz:aS cs (p:Int)=some x:=by rw[au];exact hx
 have hxm:=bO hx;have hbf:∀v∈cs,I.bef x v=false:=λv hv=>by
  cases e:I.bef x v with
  |false=>rfl
  |true=>
   have h1:=hbc _ _ e;obtain⟨i,hi⟩:=Gu hv;obtain⟨hi,rfl⟩:=cr hi;obtain⟨hx,rfl⟩:=cr hx;rcases JB i p with q|q
   .exact absurd (S _ _ _ h1 (List.pairwise_iff_getElem.1 hso i p _ _ q)) (H _)
   .obtain rfl:i=p:=aa;exact absurd h1 (H _)
 obtain⟨A,C,_⟩:=hT x;refine XU (l:=(ss x).take 60) (by rw[Lv];omega) (λj:Nat=>(s0 171 fI (frF r m N d [(13,aE fT T),(17,.ptr (aj x) 0),(18,aE Jc (ss x)),(19,iG (j:Int))]) [] 0 0)) 1111111111101311122 [hr 130 (C6 (show(0:Int)<ah cs by unfold ah;omega)),hbb 134 (sb (a:=ah cs) (b:=1) (z:=(p:Int)) (by unfold ah;omega) aa),AB 135 (ac.ixZ hz),AB 136 (ac.ptZ aW hz),hf 139 A] [hc (eB (gs:=aj x) aH)] (λB j y hy hw k6=>?_) (λB=>?_)
 .have hj6:j<60:=by have:=(cr hy).1;rw[Lv] at this;omega
  rw[List.getElem?_take_of_lt hj6] at hy;have hw:aS (ss x) (j:Int)=some y:=by rw[au];exact hy
  have hh:=DD fI (cX (C y (bO hy)) d);rw[JK] at hh;change ba _ _ _ _ (bG (LR y d)) at hh;have hq:=O5 fI (Ag9 (l:=T) aa ⟨3,x,(j:Int),0⟩);rw[hnew x j hxm (cr hy).1 hj6 hbf,show(ss x).getD j []=y by rw[List.getD_eq_getElem?_getD,hy];rfl] at hq;generalize LR y d=b at hh hq;have hb:∀p q:DC,b8 prog .neq 4 p q (bG b) (bG b)=some (bG false):=λp q=>by cases b<;>kernel_rfl
  exact jw [hr 143 (CB hy),hr 146 (C6 (show(j:Int)<60 by omega)),AB 152 (nH.ixZ hw),AB 153 (nH.p1Z Vs hw),hf 155 hh,hf 160 hq,hV 161 hb,hbb 149 (Xl (q:=j) aa)] [] k6
 .rw[Lv,Nat.min_comm];by_cases h:(ss x).length<=60
  .rw[Nat.min_eq_left h];exact Ar [hr 143 (DS (s:=ss x)),hf 166 h6,hr 167 h7,hf 169 D] []
  .rw[Nat.min_eq_right aa];exact Ar [hr 143 (C6 (show((60:Nat):Int)<ah (ss x) by unfold ah;omega)),hr 146 (Dl (show¬((60:Nat):Int)<60 by omega)),hf 166 h6,hr 167 h7,hf 169 D] []
section
variable {P:Bu} [M:Mix P] {st:St} {Q:Exit->St->Prop} {fn:Func} {Bs:List (St->Prop)} {p:Br}
theorem Sp{ops:Array Oper}{K:St->Prop}{cx:Cx}{R:Exit->Act->World->Prop}(l2:HE)(c:∀st a w,K st->mh P cx st a w->wpListIn cx.F cx.nn P ops R l2 a w):∀(l:HE) (st:St) (a:Act) (w:World),D8 P ops K l st->mh P cx st a w->wpListIn cx.F cx.nn P ops R (l++l2) a w
 |[],st,a,w,h,r=>c st a w h r
 |o::rest,st,a,w,h,r=>by
  obtain⟨β,rb⟩:=r;rcases h with⟨hg,d,hs,hr⟩|⟨hg,hd,hr⟩
  .refine wpListIn_step λK' b=>?_;rw[BB (cT rb hg)];exact hs cx a w K' R ⟨β,rb⟩ λa' w' r'=>b _ _ (Sp l2 c rest d a' w' hr r')
  .refine wpListIn_step λK' b=>?_;rw[BX (by rw[cT rb hg];simp)];exact⟨λf _=>rb.loose.fn f,b _ _ (Sp l2 c rest _ _ w hr ⟨β,rb.put o.dst hd (.imm _ _ (.lit _))⟩)⟩
def cuR(P:Bu)(hs a:List Hn)(c:Code)(k:Nat)(J b st:St)(ρ:DH)(kd:List (Nat×Rk)):Option (Prop×Br×JR×St×Prop×Br×JR×St):=match c with
 | .region _ ops false=>match qd P ops hs (ops.toList.take k) st with
  |some (C,u,s1)=>match Iw P [] [] [] J s1 with
   |some (L,s2)=>match qd P ops a (ops.toList.drop k) s2 with
    |some (d,e,s3)=>match Iw P [] ρ kd b s3 with
     |some (f,g)=>some (C,u,L,s2,d,e,f,g)
     |none=>none
    |none=>none
   |none=>none
  |none=>none
 |_=>none
def ku1(x:Option (Prop×Br×JR×St×Prop×Br×JR×St)):Br:=match x with|some (_,u,_)=>u|none=>[0]
def ku2(x:Option (Prop×Br×JR×St×Prop×Br×JR×St)):Br:=match x with|some (_,_,_,_,_,u,_)=>u|none=>[0]
section
attribute [local semireducible] Tr dz Gp
theorem dCu(k:Nat)(J b:St)(A c O f:List HP)(kk:Gp P fn Q Bs true p b)(ρ:DH:=[])(kd:List (Nat×Rk):=[])(h1:qe A (ku1 (cuR P (bK A) (bK c) (bq p (ai fn)) k J b st ρ kd))=true:=by kernel_rfl)(h2:qe c (ku2 (cuR P (bK A) (bK c) (bq p (ai fn)) k J b st ρ kd))=true:=by kernel_rfl)(e:cuR P (bK A) (bK c) (bq p (ai fn)) k J b st ρ kd=some (psU A (ku1 (cuR P (bK A) (bK c) (bq p (ai fn)) k J b st ρ kd)),ku1 (cuR P (bK A) (bK c) (bq p (ai fn)) k J b st ρ kd),pR O,J,psU c (ku2 (cuR P (bK A) (bK c) (bq p (ai fn)) k J b st ρ kd)),ku2 (cuR P (bK A) (bK c) (bq p (ai fn)) k J b st ρ kd),pR f,b):=by kernel_rfl):Gp P fn Q Bs false p st:=by
 have c1:=kA h1;have c2:=kA h2;generalize ku1 _=u1 at c1 e;generalize ku2 _=h at c2 e;generalize psU A u1=n at c1 e;generalize psU c h=o at c2 e;show Tr P (bq p (ai fn)) st (dz P (bE p (ai fn) Bs []) Q);unfold cuR at e;split at e;rotate_left
 .cases e
 rename_i id ops hc;split at e;rotate_left
 .cases e
 rename_i s1 i;split at e;rotate_left
 .cases e
 rename_i s2 d;split at e;rotate_left
 .cases e
 rename_i s3 j;split at e;rotate_left
 .cases e
 rename_i t r4;cases e;rw[hc];have q1:=Mz i c1;have l:=Mz j c2;have l1:=sR d (wR O);have l2:=sR r4 (wR f);have ho:ops=(ops.toList.take k++ops.toList.drop k).toArray:=aC;generalize ops.toList.take k=x at*;generalize ops.toList.drop k=y at*;subst ho;exact λcx a w R r m=>wpIn_region_lit (Sp y (λs a' w' hs r'=>xK (λst' a2 g q d=>m .normal b a2 g kk (l2 cx a2 g (by rw[<-q];exact d))) y _ a' w' l (l1 cx a' w' (by rw[<-hs];exact r'))) x st a w q1 r)
end
end
def nzs:Nat->G->G->G
 |0,g,_=>g
 |n+1,g,t=>match g,t with
  | .lit (.slice none 0 0),.sl _ _=> .sl [] 0
  | .sl l m,.sl l' _=>bif Nat.beq l.length l'.length then .sl (OX (nzs n) l l') m else g
  | .agg l,.agg l'=>bif Nat.beq l.length l'.length then .agg (OX (nzs n) l l')else g
  |_,_=>g
theorem Aco{S:Fu}{w:World}:∀(n:Nat) (g t:G) (v:Value),IV S w g v->IV S w (nzs n g t) v
 |0,g,t,v,h=>h
 |n+1,g,t,v,h=>by
  unfold nzs;split
  .cases h;exact .sl [] 0 none 0 (λ_=>undef) (Dk _) (Nat.zero_le _) aC aC aC
  .rename_i l m c _;cases hb:Nat.beq l.length c.length with
   |false=>exact h
   |true=>
    have hl:=bc hb;cases h with
    |sl _ _ a cap us hn hm ha h1 hr=>refine .sl _ _ a cap us hn hm (by grind [SO]) (by grind [SO]) λi d hg=>?_;obtain⟨g,t0,b,rfl⟩:=sS _ _ hl i d hg;exact Aco n g t0 _ (hr i g b)
  .rename_i l c;cases hb:Nat.beq l.length c.length with
   |false=>exact h
   |true=>
    have hl:=bc hb;cases h with
    |agg _ us h2 h1 hr=>refine .agg _ us (by grind [SO]) h1 λi d u hg hu=>?_;obtain⟨g,t0,b,rfl⟩:=sS _ _ hl i d hg;exact Aco n g t0 u (by grind)
  .exact h
theorem Aj2{P:Bu}{gl:CC}{f:FuncId}{r:G}{ts:Bk}(gs:Bk)(h:ba P gl f ts r)(hl:gs.length=ts.length:=by rfl)(e:OX (nzs 20) gs ts=ts:=by kernel_rfl):ba P gl f gs r:=λw S vs hS hG hsz a=>by refine h w S vs hS hG aa λi g u hg hu=>?_;grind [sS,Aco]
def KI:Mi:=(ql [1,2]).getD []
theorem Aeb:ql [1,2]=some KI:=aH
theorem aah:KI.all KK=true:=aH
theorem XJ:KI.length=2:=aH
theorem Acp:xf KI:=OM aH
theorem Aon:KI.map (·.Device)=[1,2]:=aH
attribute [irreducible] KI
theorem wf0{cs:Mi}(hl:cs.length<=1000)(hc:cs.all KK=true):G9 ⟨cs,[],[],[],[]⟩ where
 nL:=aC
 nI:=rfl
 nU:=rfl
 nN:=rfl
 nC:=hl
 cards:=by grind [KK,c8,fS]
 up:=by grind
 rows:=by grind
 inlt:=by grind [RU]
 ops:=by grind
 ids:=by grind
 nd:=aC
 one:=by grind
 tr:=by grind
 la:=by grind [RU]
def oL:Bo:=⟨1,1,1,0,[],0,0,0,0,[⟨77,[]⟩],⟨0,0,0⟩,0,[],[],⟨0,0,0⟩,[],0,0,[],0,[],⟨0,0⟩⟩
theorem AiT:Be oL:=by constructor<;>simp[oL,c8,fS];all_goals grind [Jd,fS,Ko,c8]
def oX:Bo:=(nR oL).getD oL
theorem AiU:nR oL=some oX:=aH
def rL:Bc×Int:=(AO ⟨KI,[],[],[],[]⟩ oX).getD (⟨[],[],[],[],[]⟩,1)
theorem AiV:AO ⟨KI,[],[],[],[]⟩ oX=some rL:=aH
theorem Ami:rL.2=0:=aH
theorem Amj:qo rL.1 oX=some [1]:=aH
attribute [irreducible] rL oX
theorem AhF:∃(b:Nat->Jb) (N:I4) (x:Ab),rL.1.L=[oX]/\rL.1.IDs=[x]/\rL.1.Cards=KI/\pV oX=some x/\Abe rL.1 b N/\Pg rL.1 (b 1) N:=by
 obtain⟨v,e,s,rfl,h1,h2⟩:=Io AiT;have e:=Bp (AiU.symm.trans e);have so:Be oX:=e▸AiT.sig s;have hs:fS oX.Sig.S:=by grind
 have w0:=wf0 (cs:=KI) (by rw[XJ];decide) aah;obtain⟨v,ev,w,ha⟩:=QG w0 so hs;obtain rfl:=Bp (AiV.symm.trans ev);rcases ha with⟨h,_⟩|⟨x,up,row,_,a,hid,hrow,hg⟩
 .grind [Ami]
 have gr:LC ⟨KI,[],[],[],[]⟩ rL.1:=by grind [LC]
 obtain⟨b,N,c,_,h3,h4⟩:=OL gr rfl rfl Acp;have hL:rL.1.L=[oX]:=by rw[hg];rfl
 rw[hL] at h4;exact⟨b,N,x,hL,by rw[hg];rfl,c,hid,h3,(by grind [AfI,XJ,aah,Aon])⟩
abbrev oG2:aQ:=[ob 0 30 (aI ⟨KI,[],[],[],[]⟩)]
def xL:Ab:=(pV oX).getD ⟨0,0,0⟩
theorem AlS:pV oX=some xL:=aH
abbrev nL:Aj:=⟨xL,0⟩
def mL1:FM Aj Nat:=CA (O4 5) nL 9
def mL2:FM Aj Nat:=LS mL1 LL
theorem AlT:ltN LL nL=true:=aH
theorem k_1:mL1.es.map (·.1)=[LL,nL]:=aH
theorem k_2:mL2.es.map (·.1)=[nL]:=aH
theorem Ajs:∀x∈[LL,nL],bdH x:=by intro x hx;simp at hx;rcases hx with rfl|rfl<;>exact⟨BU,BU⟩
theorem AnX:Ju (O4 5) [LL]:=⟨Hj AcO (k:=LL) 5,BU,λx hx=>Ajs x (by rw[List.mem_singleton.1 hx];simp),.refl _,aC⟩
theorem AlU:Ju mL1 [LL,nL]:=⟨Hj (Hj AcO (k:=LL) 5) 9,Ef aH,k_1▸Ajs,k_1▸ .refl _,by simp[AlT]⟩
theorem AnY:Ju mL2 [nL]:=⟨Re (Hj (Hj AcO (k:=LL) 5) 9),Ef aH,λx hx=>Ajs x (by rw[k_2] at hx;rw[List.mem_singleton.1 hx];simp),k_2▸ .refl _,aC⟩
def Ye:HD:=⟨1,⟨0,0,0⟩,1,0⟩
def Y3:HD:=⟨3,xL,0,0⟩
def pb5:Nat:=(mg 5).getD 0
theorem AeZ:mg 5=some pb5:=aH
theorem AnZ:(zY rL.1 [xL]).bind lu=some [1]:=aH
theorem AlV:[LL,nL].map (C4 1)=[Ye,Y3]:=aH
theorem AlW:[nL].map (C4 1)=[Y3]:=aH
theorem An0:pi [Ye,Y3] [Ye,Y3]=some true:=aH
theorem An1:pi [Ye] [Ye]=some true:=aH
theorem An2:pi [Y3] [Y3]=some true:=aH
theorem AiG:xL.By=1:=aH
theorem An3:decide (nL=LL)=false:=aH
attribute [irreducible] xL Ye Y3 pb5
abbrev Zv(g:G)(r:Fr)(hm:FM Aj Nat):St:=(s0 90 fI ([(1,.ptr (aI rL.1) 0),(2,.ptr (aJ oX) 0),(4,g),(5,.ref 0 0)]++r) (σH 1 hm) 2 0)
theorem Ab3:ba prog fI 18 [] (bG true):=by
 obtain⟨b,N,x,hL,n,u,hid,hR,P⟩:=AhF;obtain rfl:=Bp (hid.symm.trans AlS);have w:=P.w;have hof:=ZC hR;have hnl:=P.p.len;rw[hL] at hof hnl;have hnl:N.length=1:=hnl;obtain⟨y,rfl⟩:∃y,N=[y]:=List.length_eq_one_iff.1 hnl;have so:=(w.ops 0 oX (by rw[hL];rfl)).1;have hk:oX.Kind=1:=aH;have hBy:oX.By=1:=aH;have h14:rL.1.L.length<=15:=by grind
 have k1:Kn oX:=λh=>by grind
 have hkn:∀(k:Nat) (o:Bo),rL.1.L[k]?=some o->Kn o:=by grind
 obtain⟨_,_,_,r,e,_⟩:=Afp P h14 so k1 (by grind);rw[Amj] at e;obtain⟨z,q⟩:=P.op (i:=0) (o:=oX) (x:=xL) (by rw[hL];rfl) (by rw[n];rfl);have es:stL rL.1 oX=[[1]]:=by unfold stL;rw[<-Bp e,hk,hBy];kernel_rfl
 obtain⟨al,ids,row,t,cs,R,a1,a2,s,hD,hcs,hS,f,_⟩:=Aa3 P h14 hkn;rw[n] at a2;obtain rfl:=List.perm_singleton.1 a2;obtain rfl:=List.perm_singleton.1 a1;obtain rfl:=List.perm_singleton.1 s;have hst:aa9 (Dd rL.1 (b 1) [y]) R row [xL] xL=true:=by have h1:=AeT (I:=Dd rL.1 (b 1) [y]) (id:=xL) [xL];rw[AiG] at h1;unfold aa9 Z2;rw[Dl λe=>(AlK P).1 e (by rw[n];simp),Bp (hD.symm.trans AnZ),List.any_cons,h1];rfl
 have hcm:isC rL.1 (Dd rL.1 (b 1) [y]) xL=true:=by unfold isC;rw[q,es];kernel_rfl
 rw[List.filter_cons_of_pos hcm,List.filter_nil] at hcs;subst hcs;rw[List.filter_cons_of_pos hst,List.filter_nil] at f;have g:=hS xL;rw[hst] at g;have hss:ssG rL.1 (b 1) [y] xL=[[1]]:=by unfold ssG;rw[q,es]
 have hself:(Dd rL.1 (b 1) [y]).bef xL xL=false:=by
  have hi:rL.1.IDs[0]?=some xL:=by rw[n];rfl
  rw[P.bef hi hi];cases c:RU rL.1 0 0 with
  |false=>rfl
  |true=>have:=(w.inlt _ _ c).1;omega
 have g0:Pm (Dd rL.1 (b 1) [y]) 1 (ssG rL.1 (b 1) [y]) [xL] LL=true:=by unfold Pm c1B UO LR;rw[List.any_cons,AiG];kernel_rfl
 have g1:Pm (Dd rL.1 (b 1) [y]) 1 (ssG rL.1 (b 1) [y]) [xL] nL=false:=by unfold Pm c1B;rw[List.any_cons,List.any_nil,An3,Bf,hself];cases LR _ _<;>rfl
 have hcl:=f (d:=1) AlU BU aC;generalize Pm (Dd rL.1 (b 1) [y]) 1 (ssG rL.1 (b 1) [y]) [xL]=gn at g0 g1 hcl;rw[show RG gn 1 [LL,nL]=[Ye] by
  unfold RG;rw[List.filter_cons_of_pos g0,List.filter_cons_of_neg (by rw[g1];simp),List.filter_nil];kernel_rfl,show SF gn [LL,nL] mL1=mL2 by
  unfold SF;rw[List.filter_cons_of_pos g0,List.filter_cons_of_neg (by rw[g1];simp),List.filter_nil];rfl] at hcl
 change jg _ _ _ _ _ _ _ [(0,oG rL.1.Cards 1 2),(1,oM (b 1)),(2,zQ [y])] 3 at hof;have j:=R4 fI (d:=1) AlU;have l:=R4 fI (d:=1) AnY;rw[AlV] at j;rw[AlW] at l;generalize b 1=m at*;refine Gh func18 ?_;refine pO [1,0] (s0 90 fI [] [] 0 0) [] [] ?_;refine dCu 1 (s0 90 fI [(13,aE cZ [1,2])] [] 0 0) (s0 90 fI [(1,.ref 0 0)] oG2 1 0) [] [hf 14 (bT.fo (GQ fI Aeb)),hf 15 (M8 fI (cards:=KI) rfl)] [hc (rZ.al [1,2])] [] ?_;refine pO 1110 (s0 90 fI [(1,.ref 0 0)] oG2 1 0) [] [] ?_;refine dCu 2 (s0 90 fI [(1,.ref 0 0),(17,.sl [uG 77,Iy] 1)] oG2 1 0) (s0 90 fI [(1,.ref 0 0),(2,.ptr (aJ oX) 0)] oG2 1 0) [] [hf 19 (Aj2 [.agg ((bF [4,14,15,19,22,24] (aJ oL)).set 9 (.sl [uG 77,Iy] 1))] (E8 fI AiU))] [hc (p:=[uG 77,Iy].length=1*2/\(∀x∈[uG 77,Iy],bB x)/\1=1) ⟨rfl,eB aH,rfl⟩] [hc (eB (gs:=aJ oX) aH)] ?_;refine pO 111111100 (s0 90 fI [(1,.ptr (aI rL.1) 0),(2,.ptr (aJ oX) 0),(3,iG rL.2),(4,Z8 rL.1.Cards m [y]),(5,.ref 0 0)] (σH 1 (O4 5)) 2 0) [hf 23 (M9 fI AiV),tN 27 [] 1 [] [.agg (aI rL.1)] [ob 0 93 [aE bv rL.1.Cards,.mref 2,.rsl 3 0 1],(1,oM m),(2,zQ [y])] hof trivial ⟨⟨rfl,.inl rfl⟩,⟨rfl,rfl,rfl,rfl,.inr ⟨rfl,Dx _⟩⟩,⟨rfl,.inr ⟨rfl,az.imm _⟩⟩,trivial⟩,tN 28 [] 4 [] [iG 1,uG 5] [(0,oH 1 5),(1,eI (O4 5))] (Lm fI 1 5) trivial ⟨⟨rfl,.inl rfl⟩,⟨rfl,rfl,rfl,rfl,.inr ⟨rfl,Ho _⟩⟩,trivial⟩] [hc (eB (gs:=aI rL.1) aH),hc (Dx m),hc (az.al [y]),hc (eB (gs:=[aE bv rL.1.Cards,gMp m,aE d7 [y]]) aH),hc (Ho (O4 5))] ?_;refine pO 1111111110 (Zv (Z8 rL.1.Cards m [y]) [(6,uG 5),(7,bG true)] (O4 5)) [hr 37 (show decide (rL.2≠0)=false by rw[Ami];rfl),hf 41 (yv fI AeZ),tN 42 [0,1] 2 (σH 1 (O4 5)) [.ref 0 0,uG pb5] (σH 1 (O4 5)) (Uh fI AnX (d:=1) (pub:=pb5) (x:= .inr 5) (a:=5) (is:=true) (by refine T.eq (T.loop (λk=>k=0) (λk=>1-k) rfl BU λk hk=>?_);subst hk;unfold MZ;rw[show[LL][0]?=some LL from rfl];dsimp only;rw[show((O4 5).get LL).getD 0=5 by kernel_rfl,AeZ,aL,C6 rfl];exact .some rfl) (λh=>by cases h) (λv h=>by cases h;exact⟨rfl,rfl⟩)) abd ⟨⟨rfl,.inl rfl⟩,⟨rfl,rfl,rfl,rfl,.inr ⟨rfl,Ho _⟩⟩,trivial⟩] [hc (Ho (O4 5))] ?_
 refine pO 11111111110 (Zv (Z8 rL.1.Cards m [y]) [(6,uG 5),(7,bG true)] mL1) [hf 47 (AI fI hid),tN 48 [0,1] 2 (σH 1 (O4 5)) [.ref 0 0,.agg (aj xL),iG 0,uG 9] (σH 1 mL1) (RT fI xL 0 9) abd ⟨⟨rfl,.inl rfl⟩,⟨rfl,rfl,rfl,rfl,.inr ⟨rfl,Ho _⟩⟩,trivial⟩] [hc (Ho mL1)] ?_;refine pO 111111111110 (Zv (Z8 rL.1.Cards m [y]) [(6,uG 5),(7,bG true),(8,aE fT [Ye,Y3])] mL1) [tN 50 [0,1] 2 (σH 1 mL1) [.ref 0 0] [(0,oH 1 1),(1,eI mL1),(2,oTm [Ye,Y3])] j abd ⟨⟨rfl,.inl rfl⟩,⟨rfl,rfl,rfl,rfl,.inr ⟨rfl,Ho _⟩⟩,⟨rfl,.inr ⟨rfl,fL.imm _⟩⟩,trivial⟩] [hc (fL.al [Ye,Y3]),hc (Ho mL1)] ?_;refine pO 1111111111110 (Zv (Z8 rL.1.Cards m [y]) [(6,uG 5),(7,bG true),(8,aE fT [Ye,Y3]),(9,aE fT [Ye])] mL2) [tN 53 [0,1] 2 (σH 1 mL1) [.ref 0 0,Z8 rL.1.Cards m [y]] [(0,oH 1 1),(1,eI mL2),(2,oTm [Ye])] hcl abd ⟨⟨rfl,.inl rfl⟩,⟨rfl,rfl,rfl,rfl,.inr ⟨rfl,Ho _⟩⟩,⟨rfl,.inr ⟨rfl,fL.imm _⟩⟩,trivial⟩] [hc (fL.al [Ye]),hc (Ho mL2)] ?_;refine pO 11111111111110 (s0 90 fI [(2,.ptr (aJ oX) 0),(4,Z8 rL.1.Cards m [y]),(6,uG 5),(7,bG true),(8,aE fT [Ye,Y3]),(9,aE fT [Ye]),(10,aE fT [Y3])] [] 0 0) [tN 55 [0,1] 2 (σH 1 mL2) [.ref 0 0] [(0,oH 1 1),(1,eI mL2),(2,oTm [Y3])] l abd ⟨⟨rfl,.inl rfl⟩,⟨rfl,rfl,rfl,rfl,.inr ⟨rfl,Ho _⟩⟩,⟨rfl,.inr ⟨rfl,fL.imm _⟩⟩,trivial⟩] [hc (fL.al [Y3])] ?_;exact Ar [hf 58 (AI fI hid),hf 68 (AI fI hid),hf 69 g,hq 76 [aE fT [Ye,Y3],aE fT [Ye,Y3]] [hc (fL.al [Ye,Y3])] (zx fI An0),hq 82 [aE fT [Ye],aE fT [Ye]] [hc (fL.al [Ye])] (zx fI An1),hq 88 [aE fT [Y3],aE fT [Y3]] [hc (fL.al [Y3])] (zx fI An2)] []
abbrev UE:List (String×DataW Unit):=[("huddle/roll.asks",Rows.laid_huddle_roll_asks),("huddle/op.kinds",Rows.laid_huddle_op_kinds)]
theorem Y8:Tryz.prog.globalNamed "huddle/roll.asks" =some 1:=aH
theorem WB:Tryz.prog.globalNamed "huddle/op.kinds" =some 0:=aH
theorem Y9:(Tryz.prog.globals[1]?).map (·.type)=some 284:=aH
theorem WC:(Tryz.prog.globals[0]?).map (·.type)=some 191:=aH
theorem Ad2{α:Type}{l:List α}{v:α}(h:l[i]?=some v):(l.drop (i*1)).take 1=[v]:=by rw[Nat.mul_one];obtain⟨hi,rfl⟩:=cr h;rw[List.drop_eq_getElem_cons hi];rfl
theorem IL{P:Program}{sp:Nat->Bool}{fuel:Nat}{ps rs:Array TypeId}{va:Bool}{q:List MemPlace}(ht:P.underlying t=some (.func ps rs va))
  (h:DataW.trod (funcToken P) P w base sp true fuel t [v]=some (.nil,q)):v= .nilFunc:=by
 cases fuel with
 |zero=>simp[DataW.trod] at h
 |succ n=>cases v<;>simp[DataW.trod,ht] at h;rfl
theorem zo{H:Type}{enc:TypeId×Value->H}{P:Program}{sp:Nat->Bool}{a:Bool}{fuel n:Nat}{e:TypeId}{cs:Array Value}{ds:List (DataW H)}{p:List MemPlace}{nm:String}(ht:P.underlying t=some (.array n e))(hc:P.cellsOf e=1)(hn:P.cellsOf t=n)
  (hg:P.globalNamed nm=some g) (hv:w.var? P nm=some cs) (h:DataW.trod enc P w base sp a fuel t cs.toList=some (.agg ds,p)):∀i,i<n->∃v d m q,w.cell? ⟨g,i,none⟩=some v/\ds[i]?=some d/\DataW.trod enc P w base sp a m e [v]=some (d,q):=by
 obtain⟨xs,m,_,hx,hl,hlen,b⟩:=DataW.trod_array ht h
 simp only[Ft,DataW.agg.injEq] at hx
 intro i hi
 have hsz:cs.size=n:=by rw[<-hn,<-hl];simp
 have hcell:=World.var?_cell hg hv i
 have hci:cs[i]?=some (cs[i]'aa):=Array.getElem?_eq_getElem aa
 have hli:cs.toList[i]?=some (cs[i]'aa):=by rw[Array.getElem?_toList];exact hci
 have:=b i hi
 rw[hc,Ad2 hli] at this
 have hxi:xs[i]?=some (xs[i]'aa):=EA aa
 rw[hxi] at this
 refine⟨_,(xs[i]'aa).1,m,(xs[i]'aa).2,hcell.trans hci,?_,this⟩
 rw[hx.1,Mu,hxi]
 rfl
theorem ML(h:W.cell? ⟨g,i,none⟩=some v):g<W.heap.size:=by
 rcases JB g W.heap.size with h'|h'
 .exact h'
 .unfold World.cell? at h;simp[Array.getElem?_eq_none h'] at h
def IM:G->Value
 | .lit v=>v
 | .clo fn _ _=> .func fn #[] #[]
 |_=> .nilFunc
theorem WD{S:Nat->Prop}{g:G}(h:(∃v,g= .lit v)\/∃n,g= .clo (.func n) [] []):IV S W g (IM g):=by
 rcases h with⟨v,rfl⟩|⟨n,rfl⟩
 .exact .lit v
 .exact .clo _ [] [] #[] #[] rfl rfl aC aC
theorem MM{l:List G}(h0:g<W.heap.size)(hc:∀i x,l[i]?=some x->W.cell? ⟨g,i,none⟩=some (IM x))(hg:∀x∈l,((∃k z,x= .lit (.int k z))\/x= .lit .nilFunc)\/∃n,x= .clo (.func n) [] []):IV (λ_=>False) W (.ptr l 0) (.pointer (some ⟨g,0,none⟩)):=by
 have e:(⟨g,0,none⟩:Addr)=⟨g,0+0,none⟩:=rfl;refine .ptr l 0 g 0 (λi=>IM (l.getD i .junk)) (λh=>h) h0 (λi hi=>?_) (λi hi=>?_) (λi x hx=>?_)
 .rw[Nat.zero_add];refine hc i _ ?_;rw[List.getD_eq_getElem?_getD,EA hi];rfl
 .have hx:l[i]?=some (l[i]'hi):=EA hi;rw[List.getD_eq_getElem?_getD,hx];rcases hg _ (bO hx) with(⟨k,z,h⟩|h)|⟨n,h⟩<;>(simp only[Nt];rw[h];rfl)
 .rw[List.getD_eq_getElem?_getD,hx];simp only[Nt];refine WD ?_;rcases hg _ (bO hx) with(⟨k,z,h⟩|h)|⟨n,h⟩
  .exact .inl ⟨_,h⟩
  .exact .inl ⟨_,h⟩
  .exact .inr ⟨n,h⟩
theorem Ov(h:laidMetH Tryz.prog UE W):IV (λ_=>False) W (.ptr (nG.flatMap cZ) 0) (.pointer (some ⟨0,0,none⟩)):=by
 have hm:laidMet Tryz.prog [("huddle/op.kinds",Rows.laid_huddle_op_kinds)] W:=h.1;obtain⟨ps,⟨g1,e,c,f1,f,q1,a,b,hv1,hd1,_,_⟩,_,_⟩:=hm;obtain rfl:=Bp (WB.symm.trans a);obtain rfl:=Bp (WC.symm.trans b);have hcells:=zo (n:=14) Tryz.underlying191 aH aH a hv1 hd1;have key:∀i x,(nG.flatMap cZ)[i]?=some x->W.cell? ⟨0,i,none⟩=some (IM x):=by
  intro i x hx;have hi:i<14:=(cr hx).1;obtain⟨v,d,m,q,hc,hd,hr⟩:=hcells i hi;obtain⟨k,e1,e2,_⟩:=DataW.trod_int Tryz.underlying3 hr;simp only[Ft] at e2;rw[hc];simp only[List.cons.injEq,and_true] at e1;rw[e1];rw[e2.1] at hd;match i,hi with
  |0,_|1,_|2,_|3,_|4,_|5,_|6,_|7,_|8,_|9,_|10,_|11,_|12,_|13,_=>cases hd;cases hx;rfl
 refine MM (ML (key 0 _ rfl)) key λx hx=> .inl (.inl ?_);obtain⟨z,_,hz⟩:=List.mem_flatMap.1 hx;cases List.mem_singleton.1 hz;exact⟨_,_,rfl⟩
noncomputable abbrev fby(l:List UInt8):List Nat:=(List.range Tryz.prog.funcs.size).filter λf=>(Tryz.prog.funcs[f]?).any (·.name.toUTF8.data.toList==l)
theorem aaJ:fby [104,117,100,100,108,101,47,114,111,108,108,46,97,115,107,115,36,49]=[411]:=aH
theorem aaK:fby [104,117,100,100,108,101,47,114,111,108,108,46,97,115,107,115,36,50]=[413]:=aH
theorem aaL:fby [104,117,100,100,108,101,47,114,111,108,108,46,97,115,107,115,36,51]=[414]:=aH
theorem aaM:fby [104,117,100,100,108,101,47,114,111,108,108,46,97,115,107,115,36,52]=[415]:=aH
theorem aaN:fby [104,117,100,100,108,101,47,114,111,108,108,46,97,115,107,115,36,53]=[416]:=aH
theorem aaO:fby [104,117,100,100,108,101,47,114,111,108,108,46,97,115,107,115,36,54]=[417]:=aH
theorem aaP:fby [40,42,104,117,100,100,108,101,47,114,111,108,108,46,82,111,108,108,41,46,111,119,110]=[419]:=aH
theorem aaQ:fby [104,117,100,100,108,101,47,114,111,108,108,46,97,115,107,115,36,55]=[420]:=aH
theorem aaR:fby [104,117,100,100,108,101,47,114,111,108,108,46,97,115,107,115,36,56]=[421]:=aH
theorem Rc(h:laidMetH Tryz.prog UE W):IV (λ_=>False) W (.ptr IU 0) (.pointer (some ⟨1,0,none⟩)):=by
 obtain⟨g,t,cs,fuel,p,hg,ht,hv,hd0⟩:=h.funcs (List.mem_cons_self ..);obtain rfl:=Bp (Y8.symm.trans hg);obtain rfl:=Bp (Y9.symm.trans ht);have hd1:DataW.trod (funcToken Tryz.prog) Tryz.prog W 0 (λ_=>true) true fuel 284 cs.toList=some (.agg [.nil,.nil,.held [104,117,100,100,108,101,47,114,111,108,108,46,97,115,107,115,36,49],.held [104,117,100,100,108,101,47,114,111,108,108,46,97,115,107,115,36,50],.nil,.held [104,117,100,100,108,101,47,114,111,108,108,46,97,115,107,115,36,51],.held [104,117,100,100,108,101,47,114,111,108,108,46,97,115,107,115,36,52],.nil,.held [104,117,100,100,108,101,47,114,111,108,108,46,97,115,107,115,36,53],.held [104,117,100,100,108,101,47,114,111,108,108,46,97,115,107,115,36,54],.held [40,42,104,117,100,100,108,101,47,114,111,108,108,46,82,111,108,108,41,46,111,119,110],.held [104,117,100,100,108,101,47,114,111,108,108,46,97,115,107,115,36,55],.held [40,42,104,117,100,100,108,101,47,114,111,108,108,46,82,111,108,108,41,46,111,119,110],.held [104,117,100,100,108,101,47,114,111,108,108,46,97,115,107,115,36,56]],p):=hd0;have hcells:=zo (n:=14) Tryz.underlying284 aH aH hg hv hd1;have key:∀i x,IU[i]?=some x->W.cell? ⟨1,i,none⟩=some (IM x):=by
  intro i x hx;have hi:i<14:=(cr hx).1;obtain⟨v,d,m,q,hc,hd,hr⟩:=hcells i hi;match i,hi with
  |0,_|1,_|2,_|3,_|4,_|5,_|6,_|7,_|8,_|9,_|10,_|11,_|12,_|13,_=>
   cases hd;cases hx;rw[hc];first
    |(rw[IL Tryz.underlying283 hr];rfl)
    |(rw[func_of_trod (f0:=411) Tryz.underlying283 aaJ hr];rfl)
    |(rw[func_of_trod (f0:=413) Tryz.underlying283 aaK hr];rfl)
    |(rw[func_of_trod (f0:=414) Tryz.underlying283 aaL hr];rfl)
    |(rw[func_of_trod (f0:=415) Tryz.underlying283 aaM hr];rfl)
    |(rw[func_of_trod (f0:=416) Tryz.underlying283 aaN hr];rfl)
    |(rw[func_of_trod (f0:=417) Tryz.underlying283 aaO hr];rfl)
    |(rw[func_of_trod (f0:=419) Tryz.underlying283 aaP hr];rfl)
    |(rw[func_of_trod (f0:=420) Tryz.underlying283 aaQ hr];rfl)
    |(rw[func_of_trod (f0:=421) Tryz.underlying283 aaR hr];rfl)
 refine MM (ML (key 0 _ rfl)) key λx hx=>?_;simp only[IU,EG,K3,or_false] at hx;rcases hx with rfl|rfl|rfl|rfl|rfl|rfl|rfl|rfl|rfl|rfl|rfl|rfl|rfl|rfl<;>first|exact .inl (.inr rfl)|exact .inr ⟨_,rfl⟩
theorem TK(h:laidMetH Tryz.prog UE W):Gls fI (λ_=>False) W:=by
 intro g l hl;simp only[fI,List.lookup_cons] at hl;split at hl
 .rename_i e;cases hl;obtain rfl:=eq_of_beq e;exact Ov h
 .split at hl
  .rename_i e;cases hl;obtain rfl:=eq_of_beq e;exact Rc h
  .cases hl
end Go.Proofs.YtjbfcillbjiajaaGreatDoor
