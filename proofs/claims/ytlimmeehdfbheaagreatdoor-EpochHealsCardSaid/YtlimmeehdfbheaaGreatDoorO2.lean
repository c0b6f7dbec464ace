/- Texts. -/
import Derived.LaidHandle
import Derived.LaidMore
import Derived.OpenShut
import Derived.ProofKit
import Derived.Test.YtlimmeehdfbheaaGreatDoorRows
import Derived.Test.YtlimmeehdfbheaaGreatDoorJB
namespace Go.Proofs.YtlimmeehdfbheaaGreatDoor
set_option linter.unusedSectionVars false
set_option linter.unusedVariables false
set_option linter.unusedSimpArgs false
open Go.RowKit Go.Proofs.Tryz Go.ChangeShapes Go.WideShapes Go.ChangeAt
attribute [local irreducible] Tr dz Gp
variable (gl:CC)
variable {fi:FuncId}{fa fc:Bo}{l sen':Bj}{cs h ids row v:AH}{R R':Ad}{base i k:Nat}{x:List DR}{b g:AB}{r:List Bool}{d fw most sq t:Int}{m:Hj}{N:Hl}{s:N8}{I:Gi}{W w:World}
section
variable {gl:CC}
theorem AiQ{f:Ab->Fw}(hv:R3 prog gl fi fa fc (λx:Ab=>[.agg (aj x)]) (λb:Bool=>bG b) f){l:AH}{r:Int}(e:Vz l f=some r):oJ prog gl 206 [.rsl 0 0 l.length,.clo (.func fi) fa fc] [(0,Bt l)] 1 (iG r) [] 1:=
 OP aH (gS gl hv e) (lR _) rfl λst h i x y h1 h2=>by
  match i with
  |0=>
   cases h1;cases h2;exact FD (s:=3) (h 0 _ rfl) aH (by show 0+l.length*3<=(l.flatMap aj).length;rw[ac.len];omega) (ac.len l) λj g c a b=>by rw[Nat.zero_add] at a;rw[show(l.flatMap aj)[j]?=some g from a] at b;cases b;exact jB (ac.imm l g (bO a))
  |1=>cases h1;cases h2;exact jB hv.im
  |j+2=>cases h1
theorem Ab5{del:Ab->Bool}(hv:R3 prog gl fi fa fc (λx:Ab=>[.agg (aj x)]) (λb:Bool=>bG b) (λx=>some (del x))){l:AH}(hl:l.length<=1000):jg prog gl 112 [.rsl 0 0 l.length,.clo (.func fi) fa fc] [(0,Bt l)] 1 (.rsl 0 0 (l.filter λx=> !del x).length) [(0,Bt (l.filter λx=> !del x))] 1:=by
 refine pP func112 ?_;rcases AdD (s:=l) (p:=del) aa (λx _=>rfl) with⟨e,h0⟩|⟨i,e,h0⟩
 .have hi:=AiQ hv e;rw[Ai8 (by simpa using h0)];exact mt .ret (s0 42 gl [(4,.rsl 0 0 l.length)] [(0,Bt l)] 1 1) [.rsl 0 0 l.length] [hz 10 [0] hi] [hc (el l),hc (ac.imm l)] (ρ:=[(0,0)]) (kd:=[(0,.row)])
 .have hi:=AiQ hv e;have hlt:=(List.findIdx?_eq_some_iff_getElem.1 h0).1;have hkn:(l.filter λx=> !del x).length<l.length:=by have:=Akp (q:=λx=> !del x) (by simpa using h0);have h2:=W6 (q:=λx=> !del x) (l:=l);refine Nat.lt_of_le_of_ne (Nr _ _) λhe=>?_;have h3:=List.length_filter_eq_length_iff.1 he _ (List.getElem_mem hlt);have h4:=(List.findIdx?_eq_some_iff_getElem.1 h0).2.1;simp[h4] at h3
  refine pN (λs:Nat×Nat×AH=>(s0 42 gl [(0,.rsl 0 0 s.2.2.length),(1,.clo (.func fi) fa fc),(5,iG (s.2.1:Int)),(6,iG (s.1:Int))] [(0,Bt s.2.2)] 1 1)) 11110122 (Ai9 hl h0) [hz 10 [0] hi,hr 12 (show decide ((i:Int)= -1)=false from C3 aa),hbb 15 (Xl (q:=i) aa)] [hc (el l),hc hv.im,hc (ac.imm l)] (λB s w hs k5 g=>?_) [] [(0,0)] [(0,.row)];obtain⟨j,k,W⟩:=s;unfold dfT at hs;dsimp only at hs;cases b0:decide (W.length<=1000/\k<=j) with
  |false=>rw[b0] at hs;cases hs
  |true=>
  rw[b0,ax] at hs;obtain⟨g1,g2⟩:=DP b0;rcases bC hs with⟨b1,hs⟩|⟨b1,hs⟩
  .have hjl:=DP b1;unfold ah at hjl;obtain⟨x,a,hs⟩:=bS hs;have hcl:oJ prog gl fi (fa++[.agg (aj x)]++fc) [] 2 (bG (del x)) [] 2:=hv.cs (c:=2) rfl (aY (aG 20 (.agg (aj x)) aH) bf);have hjb:j<1000000:=aa;cases hd:del x with
   |true=>rw[hd] at hs hcl;obtain rfl:=Bh hs;exact jw [hr 19 b1,AA 24 (ac.ixrZ 0 a),AA 25 (ac.pt0Z aW a),hz 28 [] hcl,hbb 21 (Xl (q:=j) aa)] [hc (el W),hc hv.im,hc (ac.imm W)] (k5 _ rfl) [] [(0,0)] [(0,.row)]
   |false=>rw[hd] at hs hcl;obtain⟨d,e2,hs⟩:=bS hs;obtain rfl:=Bh hs;have hkb:k<1000000:=aa;exact jw [hr 19 b1,AA 24 (ac.ixrZ 0 a),AA 25 (ac.pt0Z aW a),hz 28 [] hcl,AA 33 (ac.ixsZ 0 e2),hw 33 (d.flatMap aj) (ac.putZ e2),hbb 35 (Xl (q:=k) aa),hbb 21 (Xl (q:=j) aa)] [hc (hZ e2),hc hv.im,hc (ac.imm d)] (k5 _ rfl) [] [(0,0)] [(0,.row)]
  .obtain rfl:=Bh hs;have ek:=g _ rfl;simp only[Gb] at ek;obtain⟨ek,f⟩:=ek;have hkW:k<W.length:=by rw[f,Aaw,ek];exact hkn
   have e:(zR W k).take (k*3)=(l.filter λx=> !del x).flatMap aj:=by rw[AdE (Nat.le_of_lt hkW),f,ek,W6.1]
   rw[<-ek];generalize (l.filter λx=> !del x)=F at e⊢;refine pO 1111110 (J:=(s0 42 gl [(0,.rsl 0 0 W.length),(5,iG (k:Int))] [ob 0 42 (zR W k)] 1 1)) [hr 19 b1,AA 38 (ac.sufZ 0 (l:=W) (i:=(k:Int)) (y:=W.drop k) (by unfold mc;rw[Bx ⟨aa,by rw[Fm];omega⟩,Fm])),Go.Proofs.YtlimmeehdfbheaaGreatDoor.hcl 1 (Ams (σ:=[]) hkW)] [hc (el W),hc (Agx W k)] ?_ [] [(0,0)] [(0,.row)];refine dSh 0 (k*3) ?_;show Gp _ _ _ _ _ _ (s0 42 gl [(0,.rsl 0 0 W.length),(5,iG (k:Int))] ((ob 0 42 ((zR W k).take (k*3)))::[ob 0 42 (zR W k)]) 1 1);rw[e];exact mt .ret (s0 42 gl [(4,.rsl 0 0 k)] [(0,Bt F)] 1 1) [.rsl 0 0 k] [AA 41 (ac.preZ 0 (l:=W) (i:=(k:Int)) (y:=W.take k) (by unfold tq;rw[Bx ⟨aa,by rw[Fm];omega⟩,Fm]))] [hc (rfl:k=k),hc (ac.imm F)] (ρ:=[(0,0)]) (kd:=[(0,.row)])
end
section
variable {gl:CC} {gg:Aj} {I:Gi} (hI:Sf gl gg I)
include hI
theorem Ahb(c d:Ab):ba prog gl 117 [.agg (aj d),.ptr [.ptr (Ag gg) 0] 0,.ptr (aj c) 0] (bG (I.bef c d)):=by refine Gh func117 ?_;exact Ar [hf 8 (hI.bef c d)] []
def On(I:Gi)(l:AH)(c:Ab):Bool:=l.any (I.bef c)
theorem Ahc{l:AH}(hl:l.length<=1000)(c:Ab):ba prog gl 115 [.agg (aj c),.ptr [aE aj l] 0,.ptr [.ptr (Ag gg) 0] 0] (bG (On I l c)):=by have hv:R3 prog gl 117 [] [.ptr [.ptr (Ag gg) 0] 0,.ptr (aj c) 0] (λz:Ab=>[.agg (aj z)]) (λb:Bool=>bG b) (λz=>some (I.bef c z)):=⟨aH,bf,eB aH,λz r e=>by cases e;exact Ahb hI c z⟩;have h:=kP gl hv (Adq (s:=l) (p:=I.bef c) aa λ_ _=>rfl);refine Gh func115 ?_;refine pO [1,0] (s0 8 gl [(1,.ptr [aE aj l] 0),(2,.ptr [.ptr (Ag gg) 0] 0),(3,.ptr (aj c) 0)] [] 0 0) [] [hc (eB (gs:=aj c) aH)] ?_;exact Ar [hf 7 h] []
theorem AeR{l:AH}(hl:l.length<=1000)(hC:ba prog gl 114 [.ptr (Ag gg) 0,aE aj ids] (aE aj l)):iV prog gl 49 [.ptr (Ag gg) 0,aE aj ids] 42 (l.filter λx=> !On I l x).length ((l.filter λx=> !On I l x).flatMap aj):=by
 have hv:R3 prog gl 115 [] [.ptr [aE aj l] 0,.ptr [.ptr (Ag gg) 0] 0] (λz:Ab=>[.agg (aj z)]) (λb:Bool=>bG b) (λz=>some (On I l z)):=⟨aH,bf,eB aH,λz r e=>by cases e;exact Ahc hI hl z⟩;have hcl:cU l=some l:=by grind [cU,aT]
 have hD:=Ab5 hv hl;generalize (l.filter λx=> !On I l x)=F at hD⊢;refine OW func49 ?_;refine pO 1110 (s0 13 gl [(2,.ptr [.ptr (Ag gg) 0] 0),(5,.ptr [aE aj l] 0)] [] 0 0) [hf 8 hC] [hc (eB (gs:=[.ptr (Ag gg) 0]) aH),hc (eB (gs:=[aE aj l]) aH)] ?_;exact EI [ho 10 [aE aj l] [] (jY gl hcl) (Zy _),tN 12 [0] 1 [(0,Bt l)] [.rsl 0 0 l.length,.clo (.func 115) [] [.ptr [aE aj l] 0,.ptr [.ptr (Ag gg) 0] 0]] [(0,Bt F)] hD ⟨⟨rfl,.inr ⟨rfl,ac.imm l⟩⟩,trivial⟩ ⟨⟨rfl,.inr ⟨rfl,ac.imm F⟩⟩,trivial⟩] (ac.imm F)
theorem AeS{c:Ab}(hA:iV prog gl 55 [.ptr (Ag gg) 0,.agg (aJ (I.o c))] 3 l.length (l.flatMap cZ)):iV prog gl 21 [.ptr (Ag gg) 0,.agg (aj c)] 3 l.length (l.flatMap cZ):=by refine OW func21 ?_;exact EI [hf 10 (hI.op c),ho 15 [.ptr (Ag gg) 0,.agg (aJ (I.o c))] [] hA (lZ l)] (rZ.imm l)
end
abbrev Vv(l:Bj):G:= .clo (.func 119) [] [.ptr [aE cZ l] 0]
theorem Ac0(l:Bj):ba prog gl 51 [aE cZ l] (Vv l):=by refine Gh func51 ?_;refine pO [1,0] (s0 4 gl [(1,.ptr [aE cZ l] 0)] [] 0 0) [] [hc (aY (aG 20 (aE cZ l) aH) bf)] ?_;exact Ar [] []
noncomputable abbrev Ahd(st:LoopState):Option Ob:=some ⟨0,[],some (.loop st none 13 [(2,.ref 0 0)] (Dy cAZ) (Dz cAZ) (DA cAZ))⟩
abbrev Ahe(l:Bj)(k:Nat):Fr:=[(0,.yld 1),(5,aE cZ l),(6,iG (ah l)),(7,iG (k:Int))]
noncomputable abbrev σVa(a:Bj):aQ:=[(0,X5 (.rsl 2 0 a.length)),(1,Ahd .ready),(2,JI a)]
noncomputable abbrev σVb(a:Bj):aQ:=[(0,X5 (.rsl 3 0 a.length)),(1,Ahd .busy),(3,JI a)]
theorem Ahf(hn:l.length<=1000):iV prog gl 156 [.lit (.slice none 0 0),Vv l] 3 l.length (l.flatMap cZ):=by
 refine OW func156 ?_;refine YR [1,0,1,2] (s0 13 gl [(2,.ref 0 0),(6,Vv l)] [(0,X5 (.lit (.slice none 0 0)))] 1 0) [] ?_;refine Xt (fst:=[]) (cap:=[.ptr [aE cZ l] 0]) Tryz.f119 func119 ?_;refine dLl (l:=l) aa (λk:Nat=>(s0 16 gl (Ahe l k) (σVa (l.take k)) 3 2)) 1122 [] [hc (rZ.imm [])] (λB k x hx hz k5=>?_) (λB=>?_) (vs:=[3]) (ρ:=rI 3) (kd:=[(2,.row)])
 .have hlt:=(cr hx).1;rw[Hv,hx,Option.toList_some] at k5;have hl:(l.take k).length<=k:=by simp;omega
  generalize l.take k=a at k5 hl⊢;refine pO 1122110210 (s0 16 gl ((4,iG x)::Ahe l k) (σVa a) 3 2) [hr 8 (Dk hx),AA 9 (rZ.ixZ hz),AA 10 (rZ.p1Z tZ hz)] [hc (rfl:a.length=a.length),hc (rZ.imm a)] ?_ (ρ:=rI 3) (kd:=[(2,.row)]);refine Xw (i:=1) (j:=2) (n:=13) (t:=0) (t2:=0) (pe:=none) (fr:=[(2,.ref 0 0)]) (ps:=Dy cAZ) (a:=Dz cAZ) (b:=DA cAZ) (s1:=(s0 16 gl ([(12,iG x),(11,.yld 1),(4,iG x)]++Ahe l k) (σVa a) 3 2))
   (s3:=(s0 16 gl ([(14,bG false),(13,bG true),(12,iG x),(11,.yld 1),(4,iG x)]++Ahe l k) ((1,Ahd .ready)::σVb (a++[x])) 4 2))
   (σVb (a++[x])) 4 (.loop .ready none 13 [(2,.ref 0 0)] (Dy cAZ) (Dz cAZ) (DA cAZ)) [] [] ?_ ?_
  .refine C9 .normal ⟨13,gl,[(2,.ref 0 0),(5,iG x)],σVa a,3,3,true⟩ [] [hc (rfl:a.length=a.length),hc (rZ.imm a)] (Xv Tryz.f156 ?_ rfl);exact C9 .normal ⟨13,gl,[],σVb (a++[x]),4,3,true⟩ [Tn 11 rZ 8 a x aa] [hc (el (a++[x])),hc (rZ.imm (a++[x]))] (by grind [jy]) (ρ:=rI 3++[(3,4)]) (kd:=[(3,.row)])
  .exact jw [hbb 15 (Xl (q:=k) aa)] [hc (el (a++[x])),hc (rZ.imm (a++[x]))] k5 (ρ:=[(0,0),(1,1),(2,3)]) (kd:=[(2,.row)])
 .rw[D5];refine C9 .normal (s0 16 gl [] [(0,X5 (.rsl 2 0 l.length)),(1,Ahd .ready),(2,JI l)] 3 2) [hr 8 (Fe (s:=l))] [hc (rfl:l.length=l.length),hc (rZ.imm l)] (Xu ?_ rfl) (kd:=[(2,.row)]);exact EI [] (rZ.imm l)
theorem Aa5{r:Bj}(hl:l.length<=12)(h:inZ l=some r)(hr:r.length=l.length):ba prog gl 30 [Vv l] (aE cZ r):=by
 have hC:iV prog gl 78 [Vv l] 3 l.length (l.flatMap cZ):=by refine OW func78 ?_;exact EI [ho 4 [.lit (.slice none 0 0),Vv l] [] (Ahf gl aa) (lZ l)] (rZ.imm l)
 refine iV.fn ?_ rZ.sz (rZ.len _) (rZ.imm _);rw[hr];refine OW func30 ?_;exact EI [ho 5 [Vv l] [] hC (lZ l),tN 7 [0] 1 [(0,JI l)] [.rsl 0 0 l.length] [(0,JI r)] (N4 gl hl h) ⟨⟨rfl,.inr ⟨rfl,rZ.imm l⟩⟩,trivial⟩ ⟨⟨rfl,.inr ⟨rfl,rZ.imm r⟩⟩,trivial⟩] (rZ.imm r)
theorem AeT{a b:Bj}(ha:a.length<=1000)(hb:b.length<=1000):ba prog gl 50 [aE cZ a,aE cZ b] (bG (decide (a=b))):=by
 refine Gh func50 ?_;by_cases hl:a.length=b.length
 .refine pN (λk:Nat=>(s0 26 gl [(0,aE cZ a),(1,aE cZ b),(12,iG (ah a)),(13,iG (k:Int))] [] 0 0)) 1110122 (AiP hl aa) [hr 10 (show decide (ah a≠ah b)=false by unfold ah;rw[hl];simp)] [] (λB k w hs k5 d=>?_);unfold eqQ at hs;cases hx:a[k]? with
  |none=>rw[hx] at hs;cases hs;have:=List.getElem?_eq_none_iff.1 hx;rw[<-d _ rfl];exact Ar [hr 14 (show decide ((k:Int)<ah a)=false from C3 (by unfold ah;omega))] []
  |some x=>
   have hlt:=(cr hx).1;obtain⟨y,hy⟩:∃y,b[k]?=some y:=⟨_,EA aa⟩;rw[hx,hy] at hs;have hz:=Bq hx;have hz':=Bq hy;cases c:decide (x≠y) with
   |true=>simp only[c,ax] at hs;cases hs;rw[<-d _ rfl];exact Ar [hr 14 (Dk hx),AA 18 (rZ.ixZ hz),AA 19 (rZ.p1Z tZ hz),AA 22 (rZ.ixZ hz'),AA 23 (rZ.p1Z tZ hz'),hr 24 c] []
   |false=>simp only[c,A9] at hs;cases hs;exact jw [hr 14 (Dk hx),AA 18 (rZ.ixZ hz),AA 19 (rZ.p1Z tZ hz),AA 22 (rZ.ixZ hz'),AA 23 (rZ.p1Z tZ hz'),hr 24 c,hbb 25 (Xl (q:=k) aa)] [] (k5 _ rfl) []
 .rw[show decide (a=b)=false from C3 λh=>hl (by rw[h])];exact Ar [hr 10 (show decide (ah a≠ah b)=true from CM (by unfold ah;omega))] []
def Vx(L:AH)(b:Bool):Ab×Bool:=match L with
 |[c]=>bif b then(c,true)else(⟨0,0,0⟩,false)
 |_=>(⟨0,0,0⟩,false)
theorem AeU{gg:Aj}{L:AH}{dv:Ab->Bj}{b:Bool}(hR:Bf R)
  (hC:ba prog fI 49 [.ptr (Ag gg) 0,aE aj ids] (aE aj L))
  (d:R4 prog fI 6 [.ptr (Ag gg) 0,aE aj ids] [] 0 0 (.ref 0 0) (Bz f0 R))
  (hD:∀c,L=[c]->ba prog fI 21 [.ptr (Ag gg) 0,.agg (aj c)] (aE cZ (dv c))/\(dv c).length<=12/\∃r,inZ (dv c)=some r/\r.length=(dv c).length/\decide (D3 R=r)=b):ba prog fI 16 [.ptr (Ag gg) 0,aE aj ids] (.tup [.agg (aj (Vx L b).1),bG (Vx L b).2]):=by
 refine Gh func16 ?_
 by_cases hL:L.length=1
 .obtain⟨c,rfl⟩:=List.length_eq_one_iff.1 hL
  obtain⟨h1,h2,r,h3,h4,h5⟩:=hD c rfl
  have hdl:(D3 R).length<=1000:=by rw[(IK hR).2.1.length_eq,Hm];have:=hR.len;omega
  have f:=AeT fI (a:=D3 R) (b:=r) hdl aa
  rw[h5] at f
  have hz:aS [c] 0=some c:=rfl
  cases b
  .exact Ar [hf 9 hC,hr 12 (show decide (([c].length:Int)≠1)=false by simp),hrn 16 1 [.ptr (Ag gg) 0,aE aj ids] hR d,hrr 17 (JN 1) 15 [] hR (MT fI hR),AA 20 (ac.ixZ hz),AA 21 (ac.ptZ aW hz),hf 22 h1,hf 23 (Ac0 fI (dv c)),hf 24 (Aa5 fI h2 h3 h4),hf 25 f] []
  .exact Ar [hf 9 hC,hr 12 (show decide (([c].length:Int)≠1)=false by simp),hrn 16 1 [.ptr (Ag gg) 0,aE aj ids] hR d,hrr 17 (JN 1) 15 [] hR (MT fI hR),AA 20 (ac.ixZ hz),AA 21 (ac.ptZ aW hz),hf 22 h1,hf 23 (Ac0 fI (dv c)),hf 24 (Aa5 fI h2 h3 h4),hf 25 f,AA 30 (ac.ixZ hz),AA 31 (ac.ptZ aW hz)] []
 .have e:Vx L b=(⟨0,0,0⟩,false):=by
   unfold Vx;split
   .simp at hL
   .rfl
  rw[e]
  exact Ar [hf 9 hC,hr 12 (show decide ((L.length:Int)≠1)=true from CM aa)] []
section
variable {g:AB} {m:Hj} {N:Hl} (P:Pg g m N) (h14:g.L.length<=15) (hkn:∀(k:Nat) (o:Bi),g.L[k]?=some o->Kn o)
include P
theorem AnH(a b:Ab):QL g a b=some ((BW g m N).bef a b):=by
 have w:=P.w;have nI:=w.nI;have nL:=w.nL;unfold QL;rw[dC aa,dC aa,aL,aL,AcI w P.p];unfold gO;cases ha:bu a g.IDs with
 |none=>rfl
 |some i=>
  cases hb:bu b g.IDs with
  |none=>grind
  |some j=>have h1:=(cr (gb ha).1).1;have h2:=(cr (gb hb).1).1;grind [Fv.cell,Fi,au,O9]
include h14 hkn
end
section
variable {g:AB} {m:Hj} {N:Hl} (P:Pg g m N)
include P
def Nv(I:Gi)(cs:AH):AH:=cs.filter λx=> !On I cs x
theorem AeV(hn:cs.length<=1000){x:Ab}(hx:cs[k]?=some x)(a:AH):AQ (KZ g cs (a,(k:Int))) (true,0)=some (!On (BW g m N) cs x):=by
 refine T.eq (T.forA cs.length (λj b=>b= !On (BW g m N) (cs.take j) x) aa (by simp[On]) (λj b hj hb=>?_) λb hb=>?_)
 .obtain⟨y,hy,_⟩:=dk hj;unfold KZ;dsimp only;rw[eA hj,ax,au,hx,aL,au,hy,aL,AnH P,aL];have e:On (BW g m N) (cs.take (j+1)) x=(On (BW g m N) (cs.take j) x||(BW g m N).bef x y):=by grind [On,Hv]
  cases c:(BW g m N).bef x y with
  |true=>exact .some ⟨aq aa,by grind⟩
  |false=>exact .some ⟨aq aa,by grind⟩
 .unfold KZ;dsimp only;rw[eF,A9];rw[D5] at hb;exact .some hb
theorem AlF(h:KJ g v=some cs)(hn:cs.length<=1000):LW g v=some (Nv (BW g m N) cs):=by
 unfold LW Nv;rw[h,aL];refine T.eq (.bind (T.mono (T.forA (Q:=λr:AH=>r=cs.filter λx=> !On (BW g m N) cs x) cs.length (λk acc=>acc=(cs.take k).filter λx=> !On (BW g m N) cs x) aa aC (λk acc hk hj=>?_) λacc hj=>?_) λ_ h=> .some h))
 .obtain⟨x,hx,_⟩:=dk hk;have ha:acc.length<=k:=by grind
  have e:(cs.take (k+1)).filter (λx=> !On (BW g m N) cs x)=acc++(bif !On (BW g m N) cs x then[x] else[]):=by grind [Hv]
  unfold Nk;dsimp only;rw[eA hk,ax,AeV P hn hx,aL,e];cases c:On (BW g m N) cs x with
  |true=>exact .some ⟨aq aa,aC⟩
  |false=>simp only[Bool.not_false,ax,au,hx,aL];exact .bind (.app cq (.some ⟨aq aa,rfl⟩))
 .unfold Nk;dsimp only;rw[eF,A9];rw[D5] at hj;exact .some hj
theorem XP:∀(i:Nat) (o:Bi) (x:Ab),g.L[i]?=some o->g.IDs[i]?=some x->x.Seq=o.Seq:=λi o x ho hx=>(I5 (P.w.ops i o ho).1 (P.w.ids i o x ho hx)).2
end
section
variable {g:AB} {m:Hj} {N:Hl} (P:Pg g m N) (h14:g.L.length<=15) (hkn:∀(k:Nat) (o:Bi),g.L[k]?=some o->Kn o)
include P h14 hkn
theorem Ac1{x:Ab}(hx:x∈g.IDs):LX g x=some (MG g ((BW g m N).o x))/\iV prog fI 21 [.ptr (Ag ⟨g.Cards,m,N⟩) 0,.agg (aj x)] 3 (MG g ((BW g m N).o x)).length ((MG g ((BW g m N).o x)).flatMap cZ)/\(MG g ((BW g m N).o x)).length<=12:=by have nI:=P.w.nI;have nL:=P.w.nL;obtain⟨i,o,e1,e2,e3,_,so,a⟩:=P.w.place (lj.2 hx);grind [Aah,MG,Pg.op,AeS,Wf,SN,Pg.w,Pg.p,Gi.o,Ag,RJ,LX,dC,au]
theorem AeW{v:AH}(v1:C5 g v)(v2:v.Nodup):∃(cs:AH) (R:Ad) (D:C7) (q:Ab×Bool),KJ g v=some cs/\(∀x,x∈cs↔x∈v/\isC g (BW g m N) x=true)/\cs.Nodup/\cs.length<=15/\(cs.Pairwise λx y=>M4 (BW g m N) x y<0)/\LW g v=some (Nv (BW g m N) cs)/\Oh g v=some q/\(q.2=false->q.1=⟨0,0,0⟩)/\(q.2=true->Nv (BW g m N) cs=[q.1]/\lg (MG g ((BW g m N).o q.1))=some (D3 R))/\Rr R D/\Bf R/\∀s:AH,s.Perm v->ba prog fI 114 [.ptr (Ag ⟨g.Cards,m,N⟩) 0,aE aj s] (aE aj cs)/\iV prog fI 49 [.ptr (Ag ⟨g.Cards,m,N⟩) 0,aE aj s] 42 (Nv (BW g m N) cs).length ((Nv (BW g m N) cs).flatMap aj)/\R4 prog fI 6 [.ptr (Ag ⟨g.Cards,m,N⟩) 0,aE aj s] [] 0 0 (.ref 0 0) (Bz f0 R)/\ba prog fI 16 [.ptr (Ag ⟨g.Cards,m,N⟩) 0,aE aj s] (.tup [.agg (aj q.1),bG q.2]):=by
 obtain⟨row,c1,c2,c3,c4,c5⟩:=Abj P h14 hkn v1 v2;obtain⟨R,D,sen,n,b,a,t,d,_⟩:=PM P h14 (XP P) v1 v2;have hS:∀s:AH,s.Perm v->ba prog fI 114 [.ptr (Ag ⟨g.Cards,m,N⟩) 0,aE aj s] (aE aj (row.filter (isC g (BW g m N)))):=λs hs=>by obtain⟨j,b1,_,b3,b4,_⟩:=Abj P h14 hkn (v:=s) (by constructor<;>grind [C5.sub,List.Perm.length_eq]) (hs.nodup_iff.2 v2);rw[JK (SP (BW g m N)).tr NQ (by grind) b4 c4] at b1;exact b1
 have hm:∀x,x∈row.filter (isC g (BW g m N))↔x∈v/\isC g (BW g m N) x=true:=by grind
 have hnd:=(c3.nodup_iff.2 v2).sublist (List.filter_sublist (p:=isC g (BW g m N)));have hln:(row.filter (isC g (BW g m N))).length<=15:=by grind
 have hpw:=c4.sublist (List.filter_sublist (p:=isC g (BW g m N)));generalize row.filter (isC g (BW g m N))=cs at*;have hL:=AlF P c2 aa;have hLm:∀x∈Nv (BW g m N) cs,x∈g.IDs:=λx hx=>v1.sub x ((hm x).1 (HE.1 hx).1).1;have hC:=λs hs=>AeR (Wf (SN P.w P.p)) aa (hS s hs);change∀s:AH,s.Perm v->iV prog fI 49 [.ptr (Ag ⟨g.Cards,m,N⟩) 0,aE aj s] 42 (Nv (BW g m N) cs).length ((Nv (BW g m N) cs).flatMap aj) at hC;have f:=λx (hx:x∈g.IDs)=>Ac1 P h14 hkn hx;have hdl:(D3 R).length<=1000:=by grind [List.Perm.length_eq,IK,Hm,Bf.len]
 have hIn:lg D.In=some (D3 R):=by have:=Ag3 (Vm P t aa b a).z b a;grind [lu]
 refine⟨cs,R,D,?_⟩;generalize Nv (BW g m N) cs=L at*;by_cases hl:L.length=1
 .obtain⟨c,rfl⟩:=List.length_eq_one_iff.1 hl;obtain⟨q1,u,A⟩:=f c (by grind);generalize hdv:MG g ((BW g m N).o c)=dv at*;obtain⟨r,B,i,C⟩:=Abz (l:=dv) aa;have hr:lg dv=some r:=T.eq ((ZL aa).mono λv hv=>Su (by grind) hv.2 C);have hrl:r.length<=1000:=by rw[i.length_eq];omega
  refine⟨Vx [c] (decide (D3 R=r)),c2,hm,hnd,hln,hpw,hL,?_,?_,?_,b,a,λs hs=>⟨hS s hs,hC s hs,(d s hs).1,AeU (dv:=λ_=>dv) a (ac.fo (hC s hs)) (d s hs).1 λc' hc=>?_⟩⟩
  .unfold Oh;rw[hL,aL,show decide (ah [c]≠1)=false by simp[ah],A9,n,aL,hIn,aL,show aS [c] 0=some c from rfl,aL,q1,aL,hr,aL];unfold Aa3 Vx;rw[CM ⟨hdl,hrl⟩,ax,aL];cases decide (D3 R=r)<;>rfl
  .grind [Vx]
  .cases h:decide (D3 R=r)<;>grind [Vx]
  .cases hc;exact⟨rZ.fo u,A,r,B,i.length_eq,rfl⟩
 .have e:Vx L false=(⟨0,0,0⟩,false):=by unfold Vx;split<;>rfl
  refine⟨Vx L false,c2,hm,hnd,hln,hpw,hL,?_,by rw[e];simp,by rw[e];simp,b,a,λs hs=>⟨hS s hs,hC s hs,(d s hs).1,AeU (dv:=λ_=>[]) a (ac.fo (hC s hs)) (d s hs).1 (by grind)⟩⟩;grind [Oh,ah]
end
theorem Ae1{g:AB}(w:Fv g){i j:Nat}(h:O9 g i j=true):∀(n k:Nat),j-k<=n->O9 g j k=true->O9 g i k=true
 |n,k,hn,hk=>by
  obtain⟨u,hu,h1|⟨c,v,h1,h2,h3⟩⟩:=w.la j k hk
  .grind [Fv.tr]
  .have a:=(w.inlt c k (w.one c k v h2 h3)).1;have b:=(w.inlt j c h1).1;match n with
   |0=>omega
   |n+1=>exact w.tr i c k v (Ae1 w h n c aa h1) h2 h3
section
variable {g:AB} {m:Hj} {N:Hl} (P:Pg g m N)
include P
end
theorem TG(w:Fv g){ids:AH}(h:C5 g ids)(d:Int):T (Fc g ids d) λn=>(∀x∈ids,x.By=d->x.Seq<n)/\(n=1\/∃x∈ids,x.By=d/\n=x.Seq+1):=by
 have hl:=h.len;unfold Fc;refine .bind (T.forA ids.length (λk n=>(0<=n/\n<=2147483647)/\(∀x∈ids.take k,x.By=d->x.Seq<=n)/\(n=0\/∃x∈ids,x.By=d/\n=x.Seq)) aa (by grind) (λk n hk hj=>?_) λn hj=>?_)
 .obtain⟨y,hy⟩:∃y,ids[k]?=some y:=by simp_all
  have a:=bO hy;obtain⟨i,o,_,_,_,_,_,_,e,_,b⟩:=w.name (h.sub y a);have:=(nD b.numbers).2.1;unfold xu;dsimp only;rw[eA hk,ax,au,hy,Hv,hy,Option.toList_some];simp only[aL];refine .dec (λhc=> .some ⟨aq aa,?_⟩) λhc=> .some ⟨aq aa,?_⟩
  .grind [Fi]
  .grind
 .unfold xu;dsimp only;rw[eF,A9];rw[D5] at hj;have hw:wI (n+1)=n+1:=by grind [bM]
  refine .some (.some ?_);grind
theorem Ab9(w:Fv g){ids:AH}(hl:ids.length<=1000):T (z8 g ids) λn=>∀(i:Nat) (p:Bi) (x:Ab),g.L[i]?=some p->g.IDs[i]?=some x->x∈ids->p.At<=n:=by
 have nL:=w.nL;have nI:=w.nI;unfold z8;refine .bind (T.forA ids.length (λk n=>∀(i:Nat) (p:Bi) (x:Ab),g.L[i]?=some p->g.IDs[i]?=some x->x∈ids.take k->p.At<=n) aa aC (λk n hk hj=>?_) λn hj=>?_)
 .obtain⟨y,hy⟩:∃y,ids[k]?=some y:=by simp_all
  unfold ue;dsimp only;rw[eA hk,ax,au,hy,aL,dC aa,aL,Hv,hy,Option.toList_some];have key:∀(i:Nat) (x:Ab),g.IDs[i]?=some x->bu x g.IDs=some i:=λi x hx=>by
   cases hk:bu x g.IDs with
   |none=>grind [jv]
   |some j=>rw[JX w.nd hx (gb hk).1]
  refine .dec (λhp=>?_) λhp=> .some ⟨aq aa,λi p x h1 h2 h3=>?_⟩
  .obtain⟨i,o,e,ei,ho,_,_,a⟩:=w.place hp;rw[e,au,ho,aL];refine .some ⟨aq aa,λb p x h1 h2 h3=>?_⟩;grind [Fi]
  grind [gO]
 .unfold ue;dsimp only;rw[eF,A9];rw[D5] at hj;exact .some (.some hj)
theorem Aa8(w:Fv g){o:Bi}(hr:r.length=g.L.length)(ho:1<=o.Seq/\o.Seq<=2147483648)(h1:∀(i:Nat) (p:Bi),g.L[i]?=some p->p.By=o.By->p.Seq<o.Seq)(h2:o.Seq=1\/∃(i:Nat) (p:Bi),g.L[i]?=some p/\r[i]?=some true/\p.By=o.By/\o.Seq=p.Seq+1):lA g o r=some true:=by
 have nL:=w.nL;have hw:wI (o.Seq-1)=o.Seq-1:=by grind [bM]
 unfold lA;refine T.eq (.bind (T.forA g.L.length (λk b=>∀(i:Nat) (p:Bi),i<k->g.L[i]?=some p->r[i]?=some true->p.By=o.By->o.Seq=p.Seq+1->b=true) aa (by grind) (λk b hk hj=>?_) λb hj=>?_))
 .obtain⟨p,hp,_⟩:=w.op hk;obtain⟨x,hx⟩:∃x,r[k]?=some x:=by simp_all
  unfold jK;dsimp only;rw[eA hk,ax,au,au,hx,hp];simp only[aL];have hcase:∀b':Bool,(b=true->b'=true)->(x=true->p.By=o.By->o.Seq=p.Seq+1->b'=true)->∀(i:Nat) (q:Bi),i<k+1->g.L[i]?=some q->r[i]?=some true->q.By=o.By->o.Seq=q.Seq+1->b'=true:=by grind
  cases x with
  |false=>exact .some (by constructor<;>grind [aq])
  |true=>
   by_cases c1:p.By=o.By
   .have:=h1 k p hp c1;simp only[c1,Bool.not_true,A9,ne_eq,not_true_eq_false,decide_false,aL,C3 (show¬o.Seq<=p.Seq by omega)];cases b with
    |true=>exact .some ⟨aq aa,hcase true id (λ_ _ _=>rfl)⟩
    |false=>refine .some ⟨aq aa,hcase _ (by intro h;cases h) λ_ _ e=>?_⟩;grind
   .simp only[c1,Bool.not_true,A9,ne_eq,not_false_eq_true,decide_true,aL,ax];exact .some (by constructor<;>grind [aq])
 .unfold jK;dsimp only;rw[eF,A9];refine .some ?_;show T ((bif o.Seq=1 then some true else some b).bind λj=>some j) (λv=>v=true);grind [T.some]
theorem Oo{g:AB}(w:Fv g){a h:AH}(ha:a.Perm g.IDs)(hm:∀x,x∈h↔x∈a/\x∈g.IDs/\¬∃k,g.IDs[k]?=some x/\uX g a k){up:Bj}(hup:∀x∈h,∀n:Nat,bu x g.IDs=some n->(n:Int)∈up):∀n k:Nat,g.L.length-k<=n->k<g.L.length->EP g up k
 |0,k,h0,hk=>aa
 |n+1,k,h0,hk=>by
  have nI:=w.nI;obtain⟨x,hx⟩:∃x,g.IDs[k]?=some x:=by simp_all
  have hxm:=bO hx;by_cases hh:x∈h
  .refine .inl (hup x hh k ?_);cases e:bu x g.IDs with
   |none=>grind [jv]
   |some j=>rw[JX w.nd hx (gb e).1]
  .have:∃k,g.IDs[k]?=some x/\uX g a k:=by grind
   obtain⟨k',e1,y,hy,m,e2,e3⟩:=this;obtain rfl:=JX w.nd hx e1;have hlt:=w.inlt _ _ e3;rcases Oo w ha hm hup n m aa hlt.2 with h1|⟨j,h1,h2⟩
   .exact .inr (by grind)
   .exact .inr ⟨j,h1,Ae1 w h2 _ _ (C6 _) e3⟩
theorem Ahi(w:Fv g)(hn:g.L.length<200)(ne:g.L≠[]){d:AH}(ha:d.Perm g.IDs)(v:qL g d=some h){o:Bi}(so:Bb o)(c:EH o)(hp:o.Past=h)(hk:o.Kind≠1){i:Ab}(hi:pV o=some i){cd:DF}(hc:mZ g o.By=(cd,true))(hs:jJ cd.Sign (qc o) o.Sig=some true)(hq:Fc g d o.By=some o.Seq)(hl:z8 g d=some o.At):∃up,Mj g o up/\∀k,k<g.L.length->EP g up k:=by
 have nI:=w.nI;have hal:d.length<=1000:=by rw[ha.length_eq];omega
 have hA:C5 g d:=⟨λx hx=>ha.mem_iff.1 hx,hal⟩;obtain⟨h',e',hh,hnd,hm,_⟩:=KH w (ids:=d) hal;rw[v] at e';cases e';obtain⟨s',e',s1,s2⟩:=TG w hA o.By;rw[hq] at e';cases e';obtain⟨t',e',r⟩:=Ab9 w (ids:=d) hal;rw[hl] at e';cases e';have key:∀(i:Nat) (x:Ab),g.IDs[i]?=some x->bu x g.IDs=some i:=λi x hx=>by
  cases hk:bu x g.IDs with
  |none=>grind [jv]
  |some j=>rw[JX w.nd hx (gb hk).1]
 have hup:∀z:Int,z∈h.map (λx=>(((bu x g.IDs).getD 0:Nat):Int))->∃x∈h,∃n:Nat,bu x g.IDs=some n/\z=n/\g.IDs[n]?=some x/\n<g.L.length:=λz hz=>by obtain⟨x,hx,rfl⟩:=E7.1 hz;obtain⟨n,hn⟩:=EO (hh.sub x hx);grind
 have hbh:∀k,k<g.L.length->EP g (h.map λx=>(((bu x g.IDs).getD 0:Nat):Int)) k:=λk hk=>Oo w ha hm (λx hx n hn=>E7.2 ⟨x,hx,by rw[hn];rfl⟩) _ k (C6 _) hk;have hlt:∀(j:Nat) (p:Bi),g.L[j]?=some p->∃x,g.IDs[j]?=some x/\x∈d/\x.By=p.By/\x.Seq=p.Seq:=λj p hp=>by have:=(cr hp).1;obtain⟨x,hx⟩:∃x,g.IDs[j]?=some x:=⟨_,EA aa⟩;have:=I5 (w.ops j p hp).1 (w.ids j p x hp hx);exact⟨x,hx,ha.mem_iff.2 (bO hx),this.1,this.2⟩
 have hll:h.length<=1000:=hh.len;obtain⟨row,A,s,C⟩:=yc w (up:=h.map λx=>(((bu x g.IDs).getD 0:Nat):Int)) (by grind) (λz hz=>by obtain⟨x,_,n,_,rfl,_,h4⟩:=hup z hz;omega)
 refine⟨_,⟨c,⟨i,hi,?_⟩,hn,⟨cd,hc,hs⟩,λe=>absurd e hk,?_,λk x hx=>?_,λz hz=>?_,λa b h1 h2=>?_,λa p h1 h2=>?_,row,A,?_⟩,hbh⟩
 .grind [jv,I5]
 .grind
 .rw[hp] at hx;obtain⟨n,hn⟩:=EO (hh.sub x (bO hx));grind
 .grind
 .obtain⟨x,f,n,l,m,q,_⟩:=hup _ h1;obtain⟨y,t,B,D,E,u,_⟩:=hup _ h2;obtain rfl:a=n:=aa;obtain rfl:b=B:=aa;cases hab:O9 g a b with
  |false=>rfl
  |true=>exact absurd ⟨b,u,x,((hm x).1 f).1,a,l,hab⟩ ((hm y).1 t).2.2
 .obtain⟨x,f,n,l,m,q,_⟩:=hup _ h1;obtain rfl:a=n:=aa;exact r a p x h2 q ((hm x).1 f).1
 .have hsq:=(nD c.numbers).2.1;refine Aa8 w s aa (λj p h1 h2=>?_) ?_
  .grind
  .rcases s2 with s2|⟨x,f,l,m⟩
   .exact .inl s2
   .obtain⟨j,hj⟩:=EO (ha.mem_iff.1 f);have hjl:j<g.L.length:=by grind
    grind [Fv.op]
theorem Ahg(w:Fv g)(k:Nat)(o:Bi)(ho:g.L[k]?=some o):Kn o:=by obtain⟨sm,a,_⟩:=w.ops k o ho;have f:=T1 a.numbers;have:=sm.nGuards;refine λhk=>?_;grind [OJ,ah]
def AdP(o:Bi)(d:Int)(c:Ab):Bool:=bif o.Kind=6 then bif o.By=d then decide (o.Epoch=c)else false else false
def XQ(I:Gi)(v:AH)(d:Int)(c:Ab):Nat:=(v.filter λx=>AdP (I.o x) d c).length
section
variable {g:AB} {m:Hj} {N:Hl} (P:Pg g m N)
include P
theorem Ajz(v1:C5 g v)(d:Int)(c:Ab):Sx g v d c=some (XQ (BW g m N) v d c:Int):=by
 have nI:=P.w.nI;have nL:=P.w.nL;have hl:=v1.len;unfold Sx;refine T.eq (.bind (T.mono (T.forA (Q:=λr:Int=>r=(XQ (BW g m N) v d c:Int)) v.length (λk acc=>acc=(XQ (BW g m N) (v.take k) d c:Int)) aa (by simp[XQ]) (λk acc hk hj=>?_) λacc hj=>?_) λ_ h=> .some h))
 .obtain⟨x,hx,hm⟩:=dk hk;obtain⟨i,o,e1,e2,e3,_⟩:=P.w.place (lj.2 (v1.sub x hm));have ha:XQ (BW g m N) (v.take k) d c<=k:=M1 (Nr ..) (by rw[Ns];omega);have e:XQ (BW g m N) (v.take (k+1)) d c=XQ (BW g m N) (v.take k) d c+(bif AdP o d c then 1 else 0):=by
   unfold XQ;rw[Hv,hx,Option.toList_some,O8,Sv];have eo:=(P.op e3 e2).2;cases q:AdP o d c with
   |true=>rw[List.filter_cons_of_pos (by rw[eo];exact q)];rfl
   |false=>rw[List.filter_cons_of_neg (by rw[eo,q];simp)];rfl
  subst hj;unfold Pw;dsimp only;rw[eA hk,ax,au,hx,aL,dC aa,aL,e1,show decide ((i:Int)<0)=false from C3 aa,A9,au,e3,aL,show(bif o.Kind=6 then(bif o.By=d then(some (decide (o.Epoch=c)))else(some false))else(some false))=some (AdP o d c) by unfold AdP;cases decide (o.Kind=6)<;>cases decide (o.By=d)<;>rfl,aL,e];cases AdP o d c with
  |true=>exact .some ⟨aq aa,aq aa⟩
  |false=>exact .some ⟨aq aa,rfl⟩
 .unfold Pw;dsimp only;rw[eF,A9];rw[D5] at hj;exact .some hj
theorem AeX(c:g.L.length<=15){o:Bi}(so:Bb {o with Path:=[]})(hk:Kn {o with Path:=[]}):T (LL g {o with Path:=[]}) λv=>∃x:List DR,v={o with Path:=x}/\x.length<=1000/\∀y∈x,Hz y:=by
 unfold LL;refine .bind ((zh _).mono λv1 _=> .ite (λ_=> .some ⟨[],rfl,aC,aC⟩) λ_=> .bind ((Iv (o:={o with Path:=[]}) (by obtain⟨_,_,e,h⟩:=Aah P c so hk;exact⟨_,e,aa⟩)).mono λd _=> .bind (T.mono (Q:=λx:List DR=>x.length<=1000/\∀y∈x,Hz y) (T.loop (λs=>∃j:Nat,s.2=(j:Int)/\j<=5/\s.1.length<=j/\∀y∈s.1,Hz y) (λs=>6-s.2.toNat) ⟨0,rfl,aa,aC,aC⟩ aC ?_) λx hx=> .some ⟨x,rfl,hx⟩)));rintro⟨a,i⟩ ⟨j,rfl,hj,ha,hs⟩;simp only at ha hs;have hwj:wI ((j:Int)+1)=((j+1:Nat):Int):=aq aa;unfold RY;refine .bind (T.mono (Q:=λb:Bool=>b=true->j<5) (.ite (λ_=> .some λe=>by grind) λ_=> .some λe=>by cases e) λb hb=> .ite (λe=>?_) λ_=> .some ⟨by grind,hs⟩);have:=hb e;refine .bind (.app cq (.some ⟨⟨j+1,hwj,aa,by simp;omega,λy hy=>?_⟩,by grind⟩));rcases Hp.1 hy with hy|hy
 .grind
 .simp at hy;subst hy;exact⟨Mp _,aC,aC⟩
end
theorem Aa6(hl:l.length<=9223372036854775807)(hi:∀x∈l,Fk x)(hm:most<=14)(hk:k<=1000)(w:Fv g)(gr:JS g0 g)(hg:g.L.length<=k):T (Md l most (g,(k:Int))) (Rd (λs'=>s'.2=((k+1:Nat):Int)/\(k:Int)<most/\Fv s'.1/\JS g0 s'.1/\(g.L≠[]->s'.1.L≠[])/\s'.1.L.length<=g.L.length+1) λv=>v=g/\(k=0->most<=0)):=by
 have e2:wI (2*(k:Int))=((2*k:Nat):Int):=by grind [bM]
 have e3:wI (((2*k:Nat):Int)+1)=((2*k+1:Nat):Int):=aq aa;have at_:∀(n:Nat) {Q:Int->Prop},(∀v,Fk v->Q v)->T (bif (n:Int)<ah l then((aS l (n:Int)).bind λt=>some t)else(some 0)) Q:=λn Q q=>by refine .dec (λhp=>?_) λ_=> .some (q 0 dP);refine .bind (.ixl aa (by unfold ah at hp;omega) λy _ hy=> .some (q y (hi y hy)))
 unfold Md;simp only[e2,e3];refine .bind (T.mono (Q:=λb:Bool=>(b=true->(k:Int)<most)/\(b=false->k=0->most<=0)) (.dec (λhp=>?_) λhp=> .some ⟨λe=>(by cases e),λ_ e=>(by subst e;exact Int.not_lt.1 hp)⟩) λb hb=> .ite (λe=>?_) λe=> .some ⟨rfl,hb.2 e⟩)
 .have:(k:Int)<most:=hp;refine .ite (λ_=> .some ⟨λ_=>this,λe=>(by cases e)⟩) λh4=> .some ⟨λ_=>this,λ_ e=>?_⟩;subst e;exact absurd h4 (λe=>Bool.noConfusion e)
 have hk':=hb.1 e;have hw:wI ((k:Int)+1)=((k+1:Nat):Int):=aq aa;refine .bind (at_ (2*k) λC u=> .bind (at_ (2*k+1) λE j=>?_));obtain⟨S,N,hC,_,_,h4⟩:=OL gr rfl rfl Ls;have P:=AfM w h4 gr rfl (by rw[hC];show GR.length<=1000;rw[KL];decide) (hC▸Og) (by rw[hC];show(GR.map (·.Device)).Nodup;rw[Aj3];decide);refine .bind (T.mono (Al3 (N2 w u j)) λi ⟨z,f⟩=> .bind ((AeX P aa f.nopath (AhR j i z)).mono λF A=>?_));obtain⟨x,rfl,hx⟩:=A;have hS:∀(c:Ab) (n:Int),JM c->Fk n->Bb {i with Path:=x,Epoch:=c,N:=n}:=λc n hc hn=>Hr f.iBy f.iSeq f.iKind f.iAt f.sPast f.iDevice f.iOld f.iMember f.iRole hx hc hn f.nBody f.sRefs f.of_ f.sGuards f.iNeed f.iWait f.sBoxes f.pub f.sHist;refine .bindc (.ite (λ_=> .bind ((eX j Cd).mono λ_ _=> .some trivial)) λ_=> .some trivial) λH _=> .bind (T.mono (Q:=λo:Bi=>Bb o) (.ite (λ_=>?_) λ_=> .some (hS _ _ f.epoch f.iN)) λI so=>?_)
 .refine .bind ((yf w (ids:=i.Past) (by have:=f.nPast;omega)).mono λv hv=>?_);obtain⟨v1,v2,_⟩:=hv;obtain⟨cs,R,D,q,_,J,_,_,_,_,K,U,M,_⟩:=AeW P aa (Ahg w) v1 v2;rw[K,aL];refine .bind (T.mono (Q:=λo:Bi=>Bb o) (.ite (λhq=>?_) λ_=> .some (hS _ _ f.epoch f.iN)) λ_ h=> .some h);have hL:=(M hq).1;have hin:q.1∈v:=((J q.1).1 (HE.1 (show q.1∈Nv _ cs by rw[hL];simp)).1).1;rw[Ajz P v1,aL];refine .some (hS _ _ (v1.smid w hin) ?_);have:∀d,XQ (BW g (S g.L.length) N) v d q.1<=1000:=λd=>M1 (Nr ..) v1.len;exact m7 ⟨aa,by have:=this i.By;show((XQ _ v i.By q.1:Nat):Int)<=_;omega⟩
 .refine .bind ((Io so).mono λO B=>?_);obtain⟨s,rfl,hr,hs⟩:=B;refine .bind ((QG w (so.sig s) hs).mono λp r=> .dec (λh0=> .some ⟨hw,hk',r.1,?_,?_,?_⟩) λ_=> .some ⟨hw,hk',w,gr,λh=>h,Nat.le_succ _⟩);all_goals rcases r.2 with⟨h,_⟩|⟨id,up,row,_,a,hid,hrow,hg⟩
  .grind
  .show JS g0 p.1;rw[hg];exact .step gr w (so.sig s) hr hs a hid hrow
  .grind
  .intro _;show p.1.L≠[];rw[hg];show g.L++[_]≠[];simp
  .grind
  .show p.1.L.length<=_;rw[hg];show(g.L++[_]).length<=_;simp
def AeY(c:Int):Option (AB×Int):=(LL g0 ({We c with Path:=[]})).bind λv=>bif v.Kind=6 then none else(nR v).bind λs=>AO g0 s
theorem AdQ:(([0,1,2,3]:Bj).all λc=>(AeY c).map (λr=>(r.2,r.1.L.length))==some (0,1))=true:=aH
theorem ZZ(hi:∀x∈l,Fk x)(h0:0<most){r:(AB×Int)⊕AB}(h:Md l most (g0,((0:Nat):Int))=some r):∃g,r= .inl (g,1)/\g.L.length=1:=by
 have at_:∀(n:Int),0<=n->∃v,Fk v/\(bif n<ah l then((aS l n).bind λd=>some d)else(some 0))=some v:=by grind [ah,aS,dP]
 have e2:wI (2*((0:Nat):Int))=0:=bM Cd Cd;have e3:wI ((0:Int)+1)=1:=bM Cd Cd;have e4:wI (((0:Nat):Int)+1)=1:=bM Cd Cd;obtain⟨a,ha,e⟩:=at_ 0 Cd;obtain⟨b,hb,eb⟩:=at_ 1 Cd;obtain⟨c,hc,f⟩:=Yv ha hb;have hq:=GE.1 AdQ c hc;unfold AeY at hq;unfold Md at h;simp only[e2,e3,e4] at h;rw[CM (by grind),CM (by grind),ax,ax,aL,ax,e,aL,eb,aL,f,aL] at h;cases hs:LL g0 ({We c with Path:=[]}) with
 |none=>rw[hs] at hq;cases hq
 |some v=>
  rw[hs,aL] at hq h;cases hv:decide (v.Kind=6) with
  |true=>rw[hv] at hq;cases hq
  |false=>
   rw[hv,A9] at hq;rw[hv,A9,aL,A9,aL] at h;cases hg:nR v with
   |none=>rw[hg] at hq;cases hq
   |some s=>
    rw[hg,aL] at hq h;cases hA:AO g0 s with
    |none=>rw[hA] at hq;cases hq
    |some q=>rw[hA] at hq h;grind
theorem AeZ(hl:l.length<=9223372036854775807)(hi:∀x∈l,Fk x){most:Int}(h0:0<most)(hm:most<=14):T (Om l most) λg=>Fv g/\JS g0 g/\g.L≠[]/\(g.L.length:Int)<=most:=by
 unfold Om r8;rw[aL,Oe,aL];unfold Jf;rw[aL];refine .bind (T.mono (Q:=λg:AB=>Fv g/\JS g0 g/\g.L≠[]/\(g.L.length:Int)<=most) (T.loop (λs=>∃k:Nat,s.2=(k:Int)/\k<=1000/\Fv s.1/\JS g0 s.1/\(k=0->s.1=g0)/\(k≠0->s.1.L≠[])/\s.1.L.length<=k/\(k:Int)<=most) (λs=>1001-s.2.toNat) ⟨0,rfl,aa,Yu,.base,λ_=>rfl,(by grind),Nat.zero_le _,by grind⟩ aC ?_) λv hv=> .some hv);rintro⟨g,i⟩ ⟨k,rfl,hk,w,gr,hz,a,hlk,b⟩;have hlk:g.L.length<=k:=hlk;obtain⟨r,e,hr⟩:=Aa6 hl hi hm hk w gr hlk;refine⟨r,e,?_⟩;cases r with
 |inr v=>obtain⟨rfl,h⟩:=hr;constructor<;>grind
 |inl s=>obtain⟨h1,h2,h3,h4,h5⟩:=hr;refine⟨⟨k+1,h1,aa,h3,h4,(by grind),λ_=>?_,by grind,aa⟩,?_⟩;all_goals grind [ZZ]
theorem AdR{r:AB}(e:Om l 14=some r)(hof:jg prog fI 23 [.agg (aI r)] [] 0 (.ref 0 0) [(0,oG r.Cards N.length 2),(1,oM m),(2,zQ N)] 3):jg prog fI 4 [aE cZ l] [] 0 (.tup [.ref 0 0,.agg (aI r)]) [(0,oG r.Cards N.length 2),(1,oM m),(2,zQ N)] 3:=by refine pP func4 ?_;exact mt .ret (s0 10 fI [(2,.ref 0 0),(3,.ptr (aI r) 0)] [(0,oG r.Cards N.length 2),(1,oM m),(2,zQ N)] 3 0) [.ref 0 0,.agg (aI r)] [hf 6 (Vr fI e),tN 8 [] 2 [] [.agg (aI r)] [ob 0 101 [aE bv r.Cards,.mref 3,.rsl 4 0 N.length],(1,oM m),(2,zQ N)] hof trivial ⟨⟨rfl,.inl rfl⟩,⟨rfl,rfl,rfl,rfl,.inr ⟨rfl,cf _⟩⟩,⟨rfl,.inr ⟨rfl,az.imm _⟩⟩,trivial⟩] [hc (eB (gs:=aI r) aH),hc (rfl:N.length=N.length),hc (cf m),hc (az.imm N)]
theorem Ab6{r:AB}(e:Om [] 14=some r)(hof:jg prog fI 23 [.agg (aI r)] [] 0 (.ref 0 0) [(0,oG r.Cards N.length 2),(1,oM m),(2,zQ N)] 3):jg prog fI 4 [Iy] [] 0 (.tup [.ref 0 0,.agg (aI r)]) [(0,oG r.Cards N.length 2),(1,oM m),(2,zQ N)] 3:=by refine pP func4 ?_;exact mt .ret (s0 10 fI [(2,.ref 0 0),(3,.ptr (aI r) 0)] [(0,oG r.Cards N.length 2),(1,oM m),(2,zQ N)] 3 0) [.ref 0 0,.agg (aI r)] [hf 6 (UY [Iy,iG 14] (Vr fI e)),tN 8 [] 2 [] [.agg (aI r)] [ob 0 101 [aE bv r.Cards,.mref 3,.rsl 4 0 N.length],(1,oM m),(2,zQ N)] hof trivial ⟨⟨rfl,.inl rfl⟩,⟨rfl,rfl,rfl,rfl,.inr ⟨rfl,cf _⟩⟩,⟨rfl,.inr ⟨rfl,az.imm _⟩⟩,trivial⟩] [hc (eB (gs:=aI r) aH),hc (rfl:N.length=N.length),hc (cf m),hc (az.imm N)]
theorem YZ{l:Bj}(hl:l.length<=9223372036854775807)(hi:∀x∈l,Fk x):∃(r:AB) (m:Hj) (N:Hl),Om l 14=some r/\Pg r m N/\r.L.length<=14/\r.L≠[]/\JS g0 r/\r.Cards=GR/\jg prog fI 23 [.agg (aI r)] [] 0 (.ref 0 0) [(0,oG r.Cards N.length 2),(1,oM m),(2,zQ N)] 3:=by obtain⟨r,e,w,gr,ne,hn⟩:=AeZ hl hi (most:=14) Cd Cd;obtain⟨a,N,hC,_,h3,h4⟩:=OL gr rfl rfl Ls;have P:Pg r (a r.L.length) N:=AfM w h4 gr rfl (by rw[hC];show GR.length<=1000;rw[KL];decide) (hC▸Og) (by rw[hC];show(GR.map (·.Device)).Nodup;rw[Aj3];decide);have pl:=P.p.len;have hof:=ZC h3;rw[show N.take r.L.length=N by rw[<-pl,D5]] at hof;generalize a r.L.length=m at*;rw[<-pl] at hof;exact⟨r,m,N,e,P,aa,ne,gr,hC,hof⟩
theorem Ae4{label:CO}{l:Bp}(h1:label.length<=1000)(h2:l.length<=1099511627776):T (yA label l) λv=>v<2305843009213693951:=by
 unfold yA;refine .bind (.strB aa (.bind ((Cn (b:=label) aa).mono λw hw=> .bind (.app cq (.bind ?_)))));refine T.forA l.length (λk acc=>acc.length<=w.length+1+k) aa aC (λk acc hk hj=>?_) λacc hj=>?_
 .unfold qk;dsimp only;rw[eA hk,ax,au,EA hk,aL];exact .bind (.app cq (.some ⟨aq aa,by simp;omega⟩))
 .unfold qk;dsimp only;rw[eF,A9];refine .some (.bind (.app cq (.bind ?_)));have hl:(acc++[0]).length<=w.length+2+l.length:=by simp;omega
  have hp:0<(acc++[0]).length:=aC;generalize acc++[0]=v at hl hp;refine T.forA v.length (λk x=>x<18446744073709551616/\(0<k->x<2305843009213693951)) aa (by grind [Mp]) (λk x hk _=>?_) λx hx=>?_
  .unfold qj;dsimp only;rw[eA hk,ax,au,EA hk];refine .bind ((wL _ _).mono λ_ _=> .bind (.some (.bind ((Il _ _).mono λ_ _=> .bind ((Il _ _).mono λ_ _=> .bind ((ka _ aa).mono λ_ h=> .some ⟨aq aa,by grind,λ_=>h⟩))))))
  .unfold qj;dsimp only;rw[eF,A9];exact .some (.some (hx.2 hp))
theorem Aa9{label b:CO}(h1:label.length<=1000)(h2:b.length<=1073741824):T (jI label b) λv=>v<2305843009213693951:= .bind (by grind [T.mono,Cn,T.bind,T.app,Ae4])
theorem Ae5(w:Fv g){x:Ab}(h:x∈g.IDs):l7 x=true:=by obtain⟨i,o,hx,ho,_,_,_,e1,e2,so,d⟩:=w.name h;have hid:=w.ids i o x ho hx;have hn:=nD d.numbers;obtain⟨y,a,_,_,c,_⟩:=wN so;rw[hid] at a;cases a;obtain⟨v,ev,hv⟩:=Aa9 (label:=[111,112]) (b:=qc o) Cd (by grind [yY]);rw[c] at ev;cases ev;exact CM (by grind)
abbrev Fu(by_ seq at_:Int)(h:AH)(x:List DR)(s:N8):Bi:=⟨by_,seq,4,at_,h,0,0,0,0,x,⟨0,0,0⟩,0,[],[],⟨0,0,0⟩,[],0,0,[],0,[],s⟩
theorem AdS{seq:Int}(hd:1<=d/\d<=12)(hs:1<=seq/\seq<=2147483647)(ht:0<=t/\t<=2147483647)(hn:∀y∈h,l7 y=true)(hl:h.length<=12)(hne:h≠[])(hp:h.Pairwise rN)(hnd:h.Nodup)(hx:x.length<=5)(hx2:∀y∈x,y.Boxes=[]/\Cr y.Pub=true):EH (Fu d seq t h x s):=by
 refine⟨(by grind),?_,?_,?_,?_,λk a b h1 h2=>?_,(by grind),?_⟩
 .unfold Abe mz;simp[E0,ah]
 .unfold gU Fs;grind [gT]
 .grind [yb]
 .grind [Ct]
 .have h1:h[k]?=some a:=h1;have h2:h[k+1]?=some b:=h2;obtain⟨c,q1⟩:=cr h1;obtain⟨e,f⟩:=cr h2;have:=List.pairwise_iff_getElem.1 (hp.and hnd) k (k+1) c e aa;rw[q1,f] at this;cases hab:dt a b with
  |true=>rfl
  |false=>exact absurd (Uc hab this.1) this.2
 grind
theorem TF(a:Nat){n:Nat}(hn:n<18446744073709551616):iK a n=some (a^n%2305843009213693951):=by
 unfold iK;refine T.eq (.bind (T.mono (Q:=λr:Nat=>r=a^n%2305843009213693951) (T.loop (λs=>s.1<2305843009213693951/\s.2.2<18446744073709551616/\s.1*s.2.1^s.2.2%2305843009213693951=a^n%2305843009213693951) (λs=>bl s.2.2) (by grind [Nat.pow_mod]) (by have:=QB 64 n aa;grind) ?_) λ_ h=> .some h));rintro⟨u,b,k⟩ ⟨h1,h2,h3⟩;dsimp only at h1 h2 h3;unfold r6;dsimp only;refine .dec (λhk=>?_) λhk=> .some ?_
 .have hk:0<k:=aa;have e:b^k=(if k%2=1 then b else 1)*(b*b)^(k/2):=by
   conv=>lhs;rw[<-Nat.div_add_mod k 2,Nat.pow_add,Nat.pow_mul,Nat.pow_two]
   rcases Nat.mod_two_eq_zero_or_one k with h|h<;>simp[h,Nat.mul_comm]
  refine .bind (T.mono (Q:=λj:Nat=>j<2305843009213693951/\j*(b*b)^(k/2)%2305843009213693951=a^n%2305843009213693951) (.dec (λh=>?_) λh=>?_) λj ⟨c,d⟩=>?_)
  .grind [oQ,T.some,Nat.mod_mul_mod,Nat.mul_assoc]
  .grind [T.some]
  .rw[show oQ b b=some (b*b%2305843009213693951) from rfl,aL];have hw:wU ((k/2:Nat):Int)=k/2:=by rw[gP];omega
   rw[hw];refine .some ⟨⟨c,(by grind),?_⟩,(by grind [Mo])⟩;grind [Nat.mul_mod,Nat.pow_mod]
 .have:k=0:=aa;subst this;rw[Nat.pow_zero,Nat.mul_one,LV h1] at h3;exact h3
theorem Ae3{a b:Nat}(hb:b<18446744073709551616):vp a b=some (a*b%2305843009213693950):=by
 unfold vp;rw[show fV=some 2305843009213693950 from rfl,aL,show CH a 2305843009213693950=some (a%2305843009213693950) from rfl,aL,aL,show CH b 2305843009213693950=some (b%2305843009213693950) from rfl,aL];have hq:b%2305843009213693950<2^64:=aa;refine T.eq (.bind (T.mono (Q:=λr:Nat=>r=a*b%2305843009213693950) (T.loop (λs=>s.1<2305843009213693950/\s.2.1<18446744073709551616/\s.2.2<2305843009213693950/\(s.2.2+s.1*s.2.1)%2305843009213693950=a*b%2305843009213693950) (λs=>bl s.2.1) (by grind [Nat.mul_mod]) (by have:=QB 64 _ hq;grind) ?_) λ_ h=> .some h));rintro⟨x,k,y⟩ ⟨h1,h2,h3,h4⟩;dsimp only at h1 h2 h3 h4;unfold yC;rw[show fV=some 2305843009213693950 from rfl];dsimp only;have hwx:wU ((x:Int)+(x:Int))=x+x:=by grind [gP]
 have hwy:wU ((y:Int)+(x:Int))=y+x:=by grind [gP]
 have hwk:wU ((k/2:Nat):Int)=k/2:=by rw[gP];omega
 rw[hwx,hwy,hwk];refine .dec (λhk=>?_) λhk=> .some ?_
 .have hk:0<k:=aa;have e:=Nat.div_add_mod k 2;refine .bind (T.mono (Q:=λj:Nat=>j<2305843009213693950/\(j+(x+x)*(k/2))%2305843009213693950=a*b%2305843009213693950) (.dec (λh=>?_) λh=>?_) λj ⟨c,d⟩=>?_)
  .have h:k%2=1:=aa;rw[h] at e;refine⟨_,rfl,(by grind),?_⟩;grind [Nat.add_mul,Nat.mul_comm]
  .grind [T.some,Nat.add_mul,Nat.mul_comm]
  .refine⟨_,rfl,⟨⟨(by grind),(by grind),c,?_⟩,(by grind [Mo])⟩⟩;grind [Nat.mod_mul_mod]
 .have:k=0:=aa;subst this;rw[Nat.mul_zero,Nat.add_zero,LV h3] at h4;exact h4
theorem AjA(q:Nat)(hq:q=2305843009213693950):37^q%2305843009213693951=1:=by have h:=TF 37 (n:=q) aa;rw[show iK 37 q=some 1 by subst hq;kernel_rfl] at h;exact(Bh h).symm
theorem AiS(n:Nat):37^(n%2305843009213693950)%2305843009213693951=37^n%2305843009213693951:=by obtain⟨q,hq⟩:∃q:Nat,q=2305843009213693950:=⟨_,rfl⟩;rw[<-hq];conv=>rhs;rw[<-Nat.div_add_mod n q,Nat.pow_add,Nat.pow_mul,Nat.mul_mod,Nat.pow_mod,AjA q hq,Nat.one_pow,show 1%2305843009213693951=1 from rfl,Nat.one_mul,Nat.mod_mod]
theorem Y1(n:Nat):0<37^n%2305843009213693951:=by
 refine Nat.pos_of_ne_zero λh=>?_;obtain⟨q,hq⟩:∃q:Nat,q=2305843009213693950:=⟨_,rfl⟩;have h1:37^(n*q)%2305843009213693951=1:=by rw[<-AiS,<-hq,Nat.mul_mod_left,Nat.pow_zero]
 rw[Nat.pow_mul,Nat.pow_mod,h,Nat.zero_pow aa] at h1;cases h1
theorem Ab8{x P:Nat}{b:CO}(hx:x<18446744073709551616)(hb:b.length<=1073741824)(hP:xo x=some P)(hs:zX x b=some s):jJ P b s=some true:=by
 unfold xo at hP;rw[TF 37 hx,aL] at hP;obtain rfl:=Bh hP;unfold zX at hs;obtain⟨m,em,hs⟩:=bS hs;obtain⟨k,ek,hs⟩:=bS hs;have hk:k<2305843009213693951:=by unfold LR at ek;obtain⟨z,_,ek⟩:=bS ek;have:=Bh ek;rw[<-Int.natCast_add,gP] at this;omega
 rw[TF 37 aa,aL] at hs;unfold xo at hs;rw[TF 37 hx,aL,aL] at hs;obtain⟨e,a,hs⟩:=bS hs;rw[Ae3 hx,aL,show fV=some 2305843009213693950 from rfl,aL] at hs;have hw:wU ((k:Int)+((e*x%2305843009213693950:Nat):Int))=k+e*x%2305843009213693950:=by grind [gP]
 rw[hw] at hs;obtain rfl:=Bh hs;have he:e<18446744073709551616:=by obtain⟨v,e1,h1⟩:=QE (r:=37^k%2305843009213693951) (p:=37^x%2305843009213693951) hb;grind
 have h1:=Y1 x;have h2:=Y1 k;have h3:=Nat.mod_lt (37^x) (show 0<2305843009213693951 by decide);have h4:=Nat.mod_lt (37^k) (show 0<2305843009213693951 by decide);have h5:=Nat.mod_lt (k+e*x%2305843009213693950) (show 0<2305843009213693950 by decide);have hpw:37^((k+e*x%2305843009213693950)%2305843009213693950)%2305843009213693951=37^k%2305843009213693951*((37^x%2305843009213693951)^e%2305843009213693951)%2305843009213693951:=by rw[Nat.add_mod_mod,AiS,Nat.pow_add,Nat.mul_comm e x,Nat.pow_mul,Nat.mul_mod,<-Nat.pow_mod]
 generalize 37^x%2305843009213693951=P at*;generalize 37^k%2305843009213693951=R at*;generalize (k+e*x%2305843009213693950)%2305843009213693950=S at*;unfold jJ;rw[show fV=some 2305843009213693950 from rfl];rw[C3 (by grind),A9,aL,C3 (by grind),A9,C3 (by grind),A9,aL,C3 (by grind),A9,aL,C3 (by grind),aL,A9,TF 37 (by grind),aL,a,aL,TF P he,aL,show oQ R (P^e%2305843009213693951)=some (R*(P^e%2305843009213693951)%2305843009213693951) from rfl,aL,hpw,CM rfl]
theorem Ahj{m:Nat}(h2:2<=m)(hk:k<=4)(hm:m<=2^k):Uz m<=2^(k-1)/\m-Uz m<=2^(k-1):=by have hm16:m<=16:=M1 hm (Nat.pow_le_pow_right Cd hk);have key:((List.range 17).all λm=>(List.range 5).all λk=> !(Nat.ble 2 m&&Nat.ble m (2^k))||(Nat.ble (Uz m) (2^(k-1))&&Nat.ble (m-Uz m) (2^(k-1))))=true:=aH;have:=GE.1 (GE.1 key m (by grind)) k (by grind);grind [Ng,EG]
theorem Aca(d:Int):∀(k n:Nat) (l:Bj),k<=4->l.length<n->l.length<=2^k->(UQ d n l).length<=k+1
 |k,0,l,_,h,_=>aa
 |0,n+1,l,hk,h,hl=>by grind [UQ]
 |k+1,n+1,l,hk,h,hl=>by
  unfold UQ;split
  .simp
  .rename_i c;have h2:2<=l.length:=aa;obtain⟨a,b⟩:=Ahj h2 hk hl;obtain⟨_,k1,k2⟩:=V2 (n:=l.length) aa (by have:(2:Nat)^(k+1)<=2^4:=Nat.pow_le_pow_right Cd hk;omega);simp only[Nat.add_sub_cancel] at a b;have l1:=Aca d k n (l.take (Uz l.length)) aa cq cq;have l2:=Aca d k n (l.drop (Uz l.length)) aa cq cq;grind
theorem AlG(h:l.length<=16):(tpL d l).length<=5:=by
 unfold tpL;split
 .rw[List.length_reverse];exact Aca d 4 _ l Cd aa h
 .simp
section
variable {g:AB} {m:Hj} {N:Hl} (P:Pg g m N)
include P
theorem Ae6(c:g.L.length<=15){o:Bi}(so:Bb {o with Path:=[]})(hk:Kn {o with Path:=[]})(h4:o.Kind=4):T (LL g {o with Path:=[]}) λv=>∃x:List DR,v={o with Path:=x}/\x.length=(Ur g {o with Path:=[]}).length/\x.length<=5/\∀y∈x,y.Boxes=[]/\Cr y.Pub=true:=by
 have nL:=P.w.nL;obtain⟨_,hS,_,_,_,ha⟩:=Afx P c so hk (by grind);have h5:(Ur g {o with Path:=[]}).length<=5:=by grind [Ur,AlG]
 have hc:E0 ({o with Path:=[]}:Bi).Kind=some true:=by grind [E0]
 unfold LL;dsimp only at hS hc h5⊢;rw[hc,aL,Bool.not_true,A9,hS,aL];generalize hn:(Ur g _).length=n at h5⊢;refine .bind (T.mono (Q:=λx:List DR=>x.length=n/\∀y∈x,y.Boxes=[]/\Cr y.Pub=true) (T.loop (λs=>s.2=(s.1.length:Int)/\s.1.length<=n/\∀y∈s.1,y.Boxes=[]/\Cr y.Pub=true) (λs=>n-s.1.length) ⟨rfl,Nat.zero_le _,aC⟩ (by grind) ?_) λx hx=> .some ⟨x,rfl,hx.1,aa,hx.2⟩);rintro⟨a,i⟩ ⟨hi,ha,hs⟩;simp only at hi ha hs;subst hi;unfold RY;have e1:wI (10*ah g.L)=10*(g.L.length:Int):=bM (by unfold ah;omega) (by unfold ah;omega);have e2:wI (1000+10*(g.L.length:Int))=1000+10*(g.L.length:Int):=bM aa aa;have e3:wI (1000+10*(g.L.length:Int)+(a.length:Int))=((1000+10*g.L.length+a.length:Nat):Int):=by grind [bM]
 have e4:ah (Ur g {o with Path:=[]})=(n:Int):=by grind [ah]
 dsimp only;rw[e1,e2,e3,rM aa,e4];refine .bind (T.mono (Q:=λb:Bool=>b=decide (a.length<n)) (.dec (λh=> .some ?_) λh=> .some ?_) λb hb=>?_)
 .rw[CM (show(a.length:Int)<5 by omega),CM (show a.length<n by omega)]
 .rw[C3 (show¬a.length<n by omega)]
 .subst hb;refine .dec (λh=> .bind (.app cq (.some ⟨⟨?_,?_,λy hy=>?_⟩,?_⟩))) λh=> .some ⟨aa,hs⟩
  .grind [aq]
  .simp;omega
  .rcases Hp.1 hy with hy|hy
   .grind
   .obtain rfl:=List.mem_singleton.1 hy;exact⟨rfl,CM ⟨show 1<=1000+10*g.L.length+a.length by omega,show 1000+10*g.L.length+a.length<2305843009213693951 by omega⟩⟩
  .simp;omega
end
def AlH(c:DF):Bool:=((lf [115,105,103,110] c.Device).bind λx=>(xo x).bind λp=>some (Nat.beq p c.Sign)).getD false
theorem Acb:GR.all AlH=true:=aH
theorem AdT(hC:g.Cards=GR){o:Bi}(so:Bb o){c:DF}(hc:mZ g o.By=(c,true)):T (nR o) λv=>∃s,v={o with Sig:=s}/\fS s.R/\fS s.S/\jJ c.Sign (qc o) s=some true:=by
 obtain⟨hm,hd⟩:=yd hc;have hs:=GE.1 Acb c (hC▸hm);unfold AlH at hs;rw[hd] at hs;obtain⟨x,a,b,e⟩:=Im (kind:=[115,105,103,110]) (d:=o.By) Cd;obtain⟨p,ep,_⟩:=QC (s:=x) aa;rw[a,aL,ep,aL] at hs;obtain rfl:=bc hs;have hb:(qc o).length<=1073741824:=by grind [yY]
 obtain⟨v,ev,s,rfl,h1,h2⟩:=Io so;refine⟨_,ev,s,rfl,h1,h2,Ab8 aa hb ep ?_⟩;unfold nR at ev;rw[a,aL,(uV so).eq,aL] at ev;obtain⟨s',e',ev⟩:=bS ev;grind
theorem Z2(w:Fv g){o:Bi}(hr:r.length=g.L.length)(ho:1<=o.Seq/\o.Seq<=2147483648)(h:lA g o r=some true):o.Seq=1\/∃(i:Nat) (p:Bi),g.L[i]?=some p/\o.Seq=p.Seq+1:=by
 have nL:=w.nL;have hw:wI (o.Seq-1)=o.Seq-1:=bM aa aa;have key:T (lA g o r) λb=>b=true->o.Seq=1\/∃(i:Nat) (p:Bi),g.L[i]?=some p/\o.Seq=p.Seq+1:=by
  unfold lA;refine .bind (T.forA g.L.length (λk b=>b=true->∃(i:Nat) (p:Bi),g.L[i]?=some p/\o.Seq=p.Seq+1) aa (by grind) (λk b hk hj=>?_) λb hj=>?_)
  .obtain⟨p,hp,_⟩:=w.op hk;obtain⟨x,hx⟩:∃x,r[k]?=some x:=⟨_,EA aa⟩;unfold jK;dsimp only;rw[eA hk,ax,au,au,hx,hp];simp only[aL];refine .bindc ?_ λj _=> .ite (λ_=> .some ⟨aq aa,hj⟩) λ_=>?_
   .grind [T.some]
   .refine .ite (λ_=> .some (.some (by grind))) λ_=>?_;cases b with
    |true=>exact .some ⟨aq aa,hj⟩
    |false=>refine .some ⟨aq aa,λe=>⟨k,p,hp,?_⟩⟩;rw[hw] at e;have:=DP e;omega
  .unfold jK;dsimp only;rw[eF,A9];refine .some ?_;show T ((bif o.Seq=1 then some true else some b).bind λj=>some j) _;grind [T.some]
 obtain⟨b,e,hb⟩:=key;grind
theorem AjB(h:JS b g)(hb:b.L=[]):∀(i:Nat) (o:Bi),g.L[i]?=some o->o.Seq<=(g.L.length:Int):=by
 induction h with
 |base=>grind
 | @step g o id up row gr w sm _ d a hid hrow ih=>
  intro i c ho;have ho:(g.L++[o])[i]?=some c:=ho;show c.Seq<=((g.L++[o]).length:Int);rw[Sv];rcases je ho with⟨_,h⟩|⟨_,rfl⟩
  .grind
  .have hq:=(nD a.check.numbers).2.1;obtain⟨r,e1,e2⟩:=a.right;obtain⟨r',e3,e,_⟩:=yc w (up:=up) (by grind [Mj,pK,EH.long]) a.upb;grind [Z2]
def AjC(d:Int):Bool:=(GR.find? λc=>decide (c.Device=d)).isSome
theorem AjD(h:1<=d/\d<=6):AjC d=true:=by have key:([1,2,3,4,5,6]:Bj).all AjC=true:=aH;grind
section
variable {g:AB} {m:Hj} {N:Hl} (P:Pg g m N)
include P
theorem Ahk(gr:JS b g)(hb:b.L=[])(hC:g.Cards=GR)(n:g.L.length<=14)(ne:g.L≠[]){a:AH}(ha:a.Perm g.IDs)(hd:1<=d/\d<=6):∃(f t:Int) (h:AH) (x:List DR),Fc g a d=some f/\z8 g a=some t/\qL g a=some h/\LL g (Fu d f t h [] ⟨0,0⟩)=some (Fu d f t h x ⟨0,0⟩)/\Bb (Fu d f t h [] ⟨0,0⟩)/\x.length=(Ur g (Fu d f t h [] ⟨0,0⟩)).length/\(h.length<=12->∃(s:N8) (up:Bj),nR (Fu d f t h x ⟨0,0⟩)=some (Fu d f t h x s)/\Bb (Fu d f t h x s)/\fS s.R/\fS s.S/\Mj g (Fu d f t h x s) up/\∀k,k<g.L.length->EP g up k):=by
 have w:=P.w;have nI:=w.nI;have hal:a.length<=1000:=by rw[ha.length_eq];omega
 have hA:C5 g a:=by grind [C5]
 obtain⟨f,e1,s1,s2⟩:=TG w hA d;obtain⟨_,e',s3,u⟩:=QH w hA d;rw[e1] at e';cases e';obtain⟨t,e2,A,t2⟩:=N0 w (ids:=a) hal;obtain⟨h,e3,hh,hnd,hm,hpw⟩:=KH w (ids:=a) hal;have hsq:f<=15:=by
  rcases s2 with s2|⟨x,l,_,p⟩
  .omega
  .obtain⟨i,o,_,ho,_,_,_,_,B,_⟩:=w.name (hA.sub x l);have:=AjB gr hb i o ho;omega
 have hsm:∀{x:List DR} {s:N8},x.length<=1000->(∀y∈x,Hz y)->Bb (Fu d f t h x s):=λhx hy=>by
  have hz:JM ⟨0,0,0⟩:=⟨dP,dP,Cd⟩;refine{ints:=λz hz=>?_,nPast:=hh.len,past:=λy hy=>?_,nPath:=hx,path:=hy,epoch:=hz,nBody:=aC,nRefs:=aC,refs:=aC,of_:=hz,nGuards:=aC,guards:=aC,nBoxes:=aC,boxes:=aC,pub:=(by decide:(0:Nat)<18446744073709551616),nHist:=aC,hist:=by simp}
  .simp only[EY,Lv,or_false] at hz;rcases hz with rfl|rfl|rfl|rfl|rfl|rfl|rfl|rfl|rfl|rfl|rfl<;>constructor<;>omega
  grind [Fv.name]
 have so:=hsm (x:=[]) (s:=⟨0,0⟩) aC aC;obtain⟨v,e4,x,rfl,l,p,q⟩:=Ae6 P aa (o:=Fu d f t h [] ⟨0,0⟩) so (λe=>by cases e) rfl;refine⟨f,t,h,x,e1,e2,e3,e4,so,l,λhl=>?_⟩;have hne:h≠[]:=λe=>by have hl0:0<g.L.length:=List.length_pos_iff.2 ne;rcases Oo w ha hm (up:=[]) (by rw[e];simp) _ 0 (C6 _) hl0 with c|⟨j,c,_⟩<;>simp at c
 have sx:∀y∈x,Hz y:=λy hy=>by obtain⟨b1,b2⟩:=q y hy;have:=DP b2;exact⟨by show y.Pub<18446744073709551616;omega,by rw[b1];simp,by rw[b1];simp⟩
 have so':=λs:N8=>hsm (x:=x) (s:=s) aa sx;have hcd:=AjD hd;obtain⟨c,hc⟩:∃c,mZ g d=(c,true):=by unfold mZ;rw[hC];unfold AjC at hcd;cases e:GR.find? λc=>decide (c.Device=d)<;>grind
 obtain⟨v,e5,s,rfl,g1,g2,r⟩:=AdT hC (so' ⟨0,0⟩) (c:=c) hc;have hck:EH (Fu d f t h x s):=by grind [AdS,Ae5]
 obtain⟨i,hi,_⟩:=wN (so' s);obtain⟨up,hu,hbh⟩:=Ahi w aa ne ha e3 (so' s) hck rfl (by grind) hi hc r e1 e2;grind
end
section
variable {gg:Aj} {I:Gi} {ids row vs:AH} {s:Bj} {v:FM Ab Bool} {o:Bi} {id:Ab}
end
section
variable {gl:CC} {gg:Aj} {I:Gi} {o:Bi} {x:Ab} {p:AH}
end
section
set_option maxHeartbeats 2000000
end
section
variable {g:AB} {m:Hj} {N:Hl} (P:Pg g m N) (h14:g.L.length<=15)
include P h14
include P h14
end
theorem Y0{σ ρ:Type}{f h:σ->Option (σ⊕ρ)}(J:σ->Prop)(k:∀s,J s->f s=h s/\∀s',f s=some (.inl s')->J s'):∀(n:Nat) (s:σ),J s->KN f n s=KN h n s
 |0,s,_=>rfl
 |n+1,s,hs=>by
  obtain⟨e,hj⟩:=k s hs;unfold KN;rw[<-e];cases c:f s with
  |none=>rfl
  |some r=>
   cases r with
   |inr r=>rfl
   |inl s'=>exact Y0 J k n s' (hj s' c)
theorem KI{α β:Type}{f h:β->α->β}(J:β->Prop):∀{l:List α} {a:β},J a->(∀b x,x∈l->J b->f b x=h b x/\J (f b x))->l.foldl f a=l.foldl h a/\J (l.foldl f a)
 |[],a,ha,_=>⟨rfl,ha⟩
 |x::r,a,ha,k=>by obtain⟨e,hj⟩:=k a x aC ha;rw[List.foldl_cons,List.foldl_cons,<-e];exact KI J hj (by grind)
structure Agr (I I':Gi) (row e:AH):Prop where
 op:∀x∈row,I.op x=I'.op x
 bef:∀x∈row,∀y∈row,I.bef x y=I'.bef x y
 cards:I.cards=I'.cards
 card:I.card=I'.card
 out:∀x∈e,x∉row
 up:∀x∈e,∀y∈row,I'.bef y x=true/\I'.bef x y=false
 kind:∀x∈e,Hk (I'.o x).Kind=false/\Yc (I'.o x)=none
section
variable {I I':Gi} {row e:AH} (A:Agr I I' row e)
include A
theorem Agr.o{x:Ab}(hx:x∈row):I.o x=I'.o x:=by grind [Gi.o,op]
theorem Agr.kil{x y:Ab}(hx:x∈row)(hy:y∈row):Hb I x y=Hb I' x y:=by grind [Hb,Aih,Zb,op,bef,o,card]
theorem Agr.kilx{x y:Ab}(hx:x∈row)(hy:y∈e):Hb I' x y=false:=by grind [Hb,up]
theorem Agr.wait{x y:Ab}(hx:x∈row)(hy:y∈row):DQ I row x y=DQ I' (row++e) x y:=by grind [DQ,Uw,up,bef,kil]
theorem Agr.did{l:AH}(hl:∀y∈l,y∈row){x:Ab}(hx:x∈row):Tk I l x=Tk I' l x:=by unfold Tk;rw[A.cards];exact(KI (λ_=>True) trivial (by grind [Sg,bef,o])).1
theorem Agr.good(vd:FM Ab Bool):row.foldl (Hh I vd) []=row.foldl (Hh I' vd) []/\∀y∈row.foldl (Hh I vd) [],y∈row:=
 KI (λb=>∀y∈b,y∈row) aC (by grind [Hh,did,o])
theorem Agr.goodAny(vd:FM Ab Bool){x:Ab}(hx:x∈row):((row++e).foldl (Hh I' vd) []).any (λz=>decide (x=z))=(row.foldl (Hh I vd) []).any (λz=>decide (x=z)):=by
 rw[LF,(A.good vd).1];have key:∀(l out:AH),(∀y∈l,y∉row)->(l.foldl (Hh I' vd) out).any (λz=>decide (x=z))=out.any λz=>decide (x=z):=λl=>by
  induction l with
  |nil=>grind
  |cons a r ih=>intro out h;rw[List.foldl_cons,ih _ (by grind)];grind [Hh]
 grind [out]
theorem Agr.void{left:AH}(hl:∀y∈left,y∈row){x:Ab}(hx:x∈row)(v:FM Ab Bool):vAl I row left x v=vAl I' (row++e) left x v:=by unfold vAl;rw[LF];have h1:=(KI (f:=vFu I row left x) (h:=vFu I' (row++e) left x) (λ_=>True) (l:=row) (a:=v) trivial (by grind [vFu,kil,wait])).1;rw[h1];generalize row.foldl (vFu I' (row++e) left x) v=u;refine(List.foldlRecOn (motive:=λb=>u=b) e _ rfl λb hb y hy=>?_);grind [vFu,kilx,out]
theorem Agr.first{l:AH}(hl:∀y∈l,y∈row)(sen:FM Int Int):X9 I row l sen=X9 I' (row++e) l sen:=by funext s;grind [X9,wait]
theorem Agr.dec{gg gg':Aj}{vs:AH}(sen:FM Int Int):AbH I (Sh gg row vs) sen=AbH I' (Sh gg' (row++e) vs) sen:=by
 unfold AbH;show AQ _ (row.filter _,ofV vs)=AQ _ ((row++e).filter _,ofV vs);rw[O8,show e.filter (λx=> !!Hk (I'.o x).Kind)=[] from(by grind [List.filter_eq_nil_iff,kind]),LK,show row.filter (λx=> !!Hk (I.o x).Kind)=row.filter (λx=> !!Hk (I'.o x).Kind) from(by grind [List.filter_congr,o])];refine Y0 (λs=>∀y∈s.1,y∈row) (λs hs=>?_) _ _ (by grind);have hl1:∀y∈s.1.filter (λx=> !A7 (s.2.get x)),y∈row:=by grind
 have hf:=A.first hl1 sen;have hrow:(Sh gg row vs).row=row:=rfl;have hrow':(Sh gg' (row++e) vs).row=row++e:=rfl;unfold Aeq;dsimp only;rw[hrow,hrow',hf];generalize s.1.filter (λx=> !A7 (s.2.get x))=l1 at*;constructor
 .cases decide (s.1.length<=1000) with
  |false=>rfl
  |true=>
   cases decide (ah l1=0) with
   |true=>rfl
   |false=>
    simp only[ax,A9];cases AQ (X9 I' (row++e) l1 sen) (0,-1) with
    |none=>rfl
    |some i=>
     rw[aL,aL];cases h:aS l1 i with
     |none=>rfl
     |some x=>have hx:=hl1 x (bO (GV h).2);grind [goodAny,void,List.mem_of_mem_eraseIdx,Jt]
 .intro s' h y hy;cases c1:decide (s.1.length<=1000) with
  |false=>grind
  |true=>
   rw[c1,ax] at h;cases c2:decide (ah l1=0) with
   |true=>grind
   |false=>simp only[c2,A9] at h;cases c3:AQ (X9 I' (row++e) l1 sen) (0,-1)<;>grind [aS,List.mem_of_mem_eraseIdx]
theorem Agr.sen:M0 I row=M0 I' (row++e):=by unfold M0;rw[LF];have h1:=(KI (f:=OS I) (h:=OS I') (λ_=>True) (l:=row) (a:=[]) trivial (by grind [OS,o])).1;rw[h1];generalize row.foldl (OS I') []=u;refine(List.foldlRecOn (motive:=λb=>u=b) e _ rfl λb hb y hy=>?_);grind [OS,kind]
theorem Agr.roll{l:AH}(hl:∀y∈l,y∈row):MZ I l=MZ I' l:=by unfold MZ;rw[A.cards];exact(KI (λ_=>True) trivial (by grind [JV,o])).1
end
theorem Ae2{vs vs':AH}{x:Ab}(v2:(v++[x]).Nodup)(hl:v.length<=1000)(hs:∀y∈v++[x],1<=y.Seq)(e:vJ v=some vs)(e':vJ (v++[x])=some vs')(hx:x∉vs'):vs'=vs:=by
 obtain⟨u,a1,a2,a3⟩:=MI (ids:=v) aa (by grind) (by grind);obtain⟨a,b1,b2,b3⟩:=MI (ids:=v++[x]) cq v2 hs;obtain rfl:=Bh (e.symm.trans a1);obtain rfl:=Bh (e'.symm.trans b1);have hv:Rh (v++[x]) x=false:=by grind
 have hct:Nf (v++[x]) ⟨x.By,x.Seq⟩<2:=by grind [Rh]
 rw[Lq,Bx rfl] at hct;have hun:∀y∈v,(⟨x.By,x.Seq⟩:Bg)≠⟨y.By,y.Seq⟩:=by grind [Nf]
 have hP:∀y,Rh (v++[x]) y=Rh v y:=λy=>by
  unfold Rh;rw[List.any_append,show[x].any (λz=>decide (z.By=y.By/\z.Seq<=y.Seq/\2<=Nf (v++[x]) ⟨z.By,z.Seq⟩))=false by grind [Lq],Bool.or_false]
  refine Bool.eq_iff_iff.2 ?_;rw[List.any_eq_true,List.any_eq_true];have h:∀z∈v,Nf (v++[x]) ⟨z.By,z.Seq⟩=Nf v ⟨z.By,z.Seq⟩:=by grind [Lq]
  grind
 refine JK Lo.tr QM (b2.trans (List.Perm.trans ?_ a2.symm)) b3 a3;rw[O8,show[x].filter (Rh (v++[x]))=[] by simp[hv],LK,show Rh (v++[x])=Rh v from funext hP]
section
variable {g:AB} {m:Hj} {N:Hl} (P:Pg g m N)
include P
theorem Ahh{row':AH}{x:Ab}(w1:C5 g (v++[x]))(w2:(v++[x]).Nodup)(hl:v.length<=900)(hb:∀y∈v,(BW g m N).bef y x=true)(e:n8 g v=some row)(e':n8 g (v++[x])=some row'):row'=row++[x]:=by obtain⟨u,a1,a2,a3⟩:=Hf P.w P.p aa (List.nodup_append.1 w2).1 λy hy=>w1.sub y (by simp[hy]);obtain⟨a,b1,b2,b3⟩:=Hf P.w P.p cq w2 w1.sub;obtain rfl:=Bh (e.symm.trans a1);obtain rfl:=Bh (e'.symm.trans b1);refine JK (SP (BW g m N)).tr NQ (by grind) b3 ?_;grind [AhD]
end
section
variable {g:AB} {m m':Hj} {N N':Hl} (P:Pg g m N) {o:Bi} {id:Ab} {up:Bj} {row:List Bool} (hr:row.length=g.L.length) (P':Pg (pL g o id up row) m' N') (hN:∀k,k<g.L.length->N'[k]?=N[k]?)
include P hr P'
theorem QI{i:Nat}{x:Ab}(hx:g.IDs[i]?=some x):∃p,g.L[i]?=some p/\(pL g o id up row).L[i]?=some p/\(pL g o id up row).IDs[i]?=some x/\i<g.L.length:=by have nI:=P.w.nI;have hi:=(cr hx).1;obtain⟨p,hp,_⟩:=P.w.op (i:=i) aa;exact⟨p,hp,Ms hp,Ms hx,aa⟩
theorem AjE{x:Ab}(hx:x∈g.IDs):(BW (pL g o id up row) m' N').op x=(BW g m N).op x:=by grind [EO,QI,Pg.op]
theorem Ahl{x z:Ab}(hx:x∈g.IDs)(hz:z∈g.IDs):(BW (pL g o id up row) m' N').bef x z=(BW g m N).bef x z:=by obtain⟨i,hi⟩:=EO hx;obtain⟨k,hk⟩:=EO hz;obtain⟨_,_,_,h3,_⟩:=QI P hr P' hi;obtain⟨_,_,_,a,b⟩:=QI P hr P' hk;rw[P.bef hi hk,P'.bef h3 a,Bool.eq_iff_iff,kU P.w hr];grind
include hN in
theorem Ahm{x:Ab}(hx:x∈g.IDs):(BW (pL g o id up row) m' N').lev x=(BW g m N).lev x:=by obtain⟨i,hi⟩:=EO hx;obtain⟨_,_,_,h3,h4⟩:=QI P hr P' hi;show(match MY ⟨(pL g o id up row).Cards,m',N'⟩ x with|some y=>y.level|none=>0)=(match MY ⟨g.Cards,m,N⟩ x with|some y=>y.level|none=>0);rw[Qh P.w P.p,Qh P'.w P'.p,KE P.w hi,KE P'.w h3];grind
theorem aaa(hb:∀k,k<g.L.length->row[k]?=some true):(BW (pL g o id up row) m' N').op id=some o/\(BW (pL g o id up row) m' N').o id=o/\∀x∈g.IDs,(BW (pL g o id up row) m' N').bef x id=true/\(BW (pL g o id up row) m' N').bef id x=false:=by
 have nI:=P.w.nI;have e1:(pL g o id up row).L[g.L.length]?=some o:=F8;have e2:(pL g o id up row).IDs[g.L.length]?=some id:=by rw[<-nI];exact F8
 refine⟨(P'.op e1 e2).1,(P'.op e1 e2).2,λx hx=>?_⟩;obtain⟨i,hi⟩:=EO hx;obtain⟨_,_,_,h3,h4⟩:=QI P hr P' hi;rw[P'.bef h3 e2,P'.bef e2 h3];refine⟨(by grind [kU,Pg.w]),?_⟩;cases c:O9 (pL g o id up row) i g.L.length with
 |false=>rfl
 |true=>
  rcases(kU P.w hr _ _).1 c with h|h
  .have:=P.w.inlt _ _ h.2;omega
  .omega
include hN in
theorem AdU{v r r':AH}(v1:C5 g v)(v2:v.Nodup)(hl:v.length<=900)(e:n8 g v=some r)(e':n8 (pL g o id up row) v=some r'):r'=r:=by have v1':∀x∈v,x∈(pL g o id up row).IDs:=λx hx=>List.mem_append_left _ (v1.sub x hx);obtain⟨u,a1,a2,a3⟩:=Hf P.w P.p aa v2 v1.sub;obtain⟨a,b1,b2,b3⟩:=Hf P'.w P'.p aa v2 v1';obtain rfl:=Bh (e.symm.trans a1);obtain rfl:=Bh (e'.symm.trans b1);refine JK (SP (BW g m N)).tr NQ (b2.trans a2.symm) ?_ a3;grind [List.Pairwise.imp_of_mem,C5.sub,M4,Ahm]
theorem Ahn{v:AH}(hv:∀x∈v,x∈g.IDs):Agr (BW g m N) (BW (pL g o id up row) m' N') v []:=⟨(by grind [AjE]),(by grind [Ahl]),rfl,rfl,aC,aC,aC⟩
end
theorem Aho{I':Gi}(A:Agr I I' row [])(gg gg':Aj)(vs:AH)(s:Bj):Yb I (Sh gg row vs) s=Yb I' (Sh gg' row vs) s:=by have h1:=A.dec (gg:=gg) (gg':=gg') (vs:=vs) (OR I.cards s);rw[LK] at h1;unfold Yb;rw[h1,A.cards];congr 1;funext v;exact(A.good v).1
section
variable {g:AB} {m m':Hj} {N N':Hl} (P:Pg g m N) {o:Bi} {id:Ab} {up:Bj} {row:List Bool} (hr:row.length=g.L.length) (P':Pg (pL g o id up row) m' N') (hN:∀k,k<g.L.length->N'[k]?=N[k]?)
include P hr P' hN
theorem Ae7{v:AH}(v1:C5 g v)(v2:v.Nodup)(hl:v.length<=900){sen:Bj}(h:UE g m N v R sen)(h':UE (pL g o id up row) m' N' v R' sen'):R'=R/\sen'=sen:=by obtain⟨r,vs,cs,d,w1,hv,e,n,rfl,rfl⟩:=h;obtain⟨r',j,l,a,b,f,c,i,rfl,rfl⟩:=h';obtain rfl:=AdU P hr P' hN v1 v2 hl d a;obtain rfl:=Bh (w1.symm.trans b);have A:=Ahn P hr P' (v:=r') λx hx=>v1.sub x (hv x hx);have hs:=A.sen;rw[LK] at hs;rw[Aho A _ ⟨(pL g o id up row).Cards,m',N'⟩,hs,c] at e;grind [Agr.roll]
end
theorem Ac2(hn:v.Nodup)(h:v.Pairwise rN):v.Pairwise λx y=>Gu x y<0:=(h.and hn).imp λ{a b} h=>N6.2 (by
 cases h1:dt a b with
 |true=>rfl
 |false=>exact absurd (Uc h1 h.1) h.2)
section
variable {g:AB} {m m':Hj} {N N':Hl} (P:Pg g m N) {o:Bi} {id:Ab} {up:Bj} {row:List Bool} (hr:row.length=g.L.length) (P':Pg (pL g o id up row) m' N') (hN:∀k,k<g.L.length->N'[k]?=N[k]?)
theorem Ae8(w:Fv g)(hl:h.length<=1000)(hb:∀x∈g.IDs,x∈h\/∃k,g.IDs[k]?=some x/\uX g h k):∃v,Ja g h=some v/\C5 g v/\v.Nodup/\(∀x,x∈v↔x∈g.IDs)/\v.Pairwise rN:=by obtain⟨v,e,v1,v2,a,b⟩:=yf w hl;grind
include P hr P'
theorem Ae9(hh:∀x∈h,x∈g.IDs)(hl:h.length<=1000)(hb:∀x∈g.IDs,x∈h\/∃k,g.IDs[k]?=some x/\uX g h k):∃v,Ja g h=some v/\Ja (pL g o id up row) h=some v/\C5 g v/\v.Nodup/\∀x,x∈v↔x∈g.IDs:=by
 obtain⟨v,e,v1,v2,a,b⟩:=Ae8 P.w hl hb;obtain⟨v',e',w1,w2,d,f⟩:=yf P'.w hl;have hp:v'.Perm v:=(List.perm_ext_iff_of_nodup w2 v2).2 λx=>by
  rw[d,a];constructor
  .rintro(⟨k,h1,y,h2,n,h3,h4⟩|⟨h1,_⟩)
   .obtain⟨i,hi⟩:=EO (hh y h2);obtain⟨_,_,_,j,l⟩:=QI P hr P' hi;have e1:=KE P'.w j;rw[h3] at e1;obtain rfl:=Bh e1;have hk:=(P'.w.inlt _ _ h4).1;have h1:(g.IDs++[id])[k]?=some x:=h1;grind
   grind
  .intro hx;rcases hb x hx with c|⟨k,h1,y,h2,n,h3,h4⟩
   .exact .inr ⟨c,List.mem_append_left _ hx⟩
   .have hn:=P.w.inlt _ _ h4;exact .inl ⟨k,Ms h1,y,h2,n,KE P'.w (Ms (gb h3).1),(by grind [kU,Pg.w])⟩
 obtain rfl:=JK Lo.tr QM hp (Ac2 w2 f) (Ac2 v2 b);grind
include hN
theorem Ahp(n:g.L.length<=14)(ho:o=Fu d sq t h x s)(a:Bb (Fu d sq t h [] ⟨0,0⟩))(so:Bb (Fu d sq t h x s))(hd:1<=d/\d<=6)(hid:pV o=some id)(hh:∀x∈h,x∈g.IDs)(hl:h.length<=1000)(hb:∀x∈g.IDs,x∈h\/∃k,g.IDs[k]?=some x/\uX g h k):MG (pL g o id up row) o=MG g (Fu d sq t h [] ⟨0,0⟩)/\(MG g (Fu d sq t h [] ⟨0,0⟩)).Nodup/\(MG g (Fu d sq t h [] ⟨0,0⟩)).length<=12/\∃(v:AH) (R:Ad) (D:C7) (fk:Bool) (sen:Bj) (b:Int),(∀x,x∈v↔x∈g.IDs)/\v.Nodup/\MG g (Fu d sq t h [] ⟨0,0⟩)=UD fk R o id sen/\Bf R/\Rr R D/\UE g m N v R sen/\qN v d=some b/\fk=(decide (0<b)&&decide (b<=sq)):=by
 subst ho;obtain⟨v,e,e',v1,v2,C⟩:=Ae9 P hr P' hh hl hb;obtain⟨E,f0,g0⟩:=TU a;obtain⟨i1,f1,g1⟩:=TU so;obtain rfl:i1=id:=by grind
 have p:=I5 a g0;have hb1:=I5 so g1;have hlen:(pL g (Fu d sq t h x s) i1 up row).L.length<=15:=by show(g.L++[_]).length<=15;grind
 obtain⟨l,M,R,fk,sen,⟨_,k1,O,Q⟩,k2,k3,F,⟨D,k5,k6,b,q,k8⟩,_⟩:=Ud P aa (XP P) a g0 (TP fI a f0) (by grind [TB]);obtain⟨f,A,R',c,j,⟨_,H,_⟩,r,I,J,⟨D',K,u,B,y,z⟩,_⟩:=Ud P' hlen (XP P') so g1 (TP fI so f1) (by grind [TB]);obtain rfl:=Bh (e.symm.trans k2);obtain rfl:=Bh (e'.symm.trans r);obtain⟨rfl,rfl⟩:=Ae7 P hr P' hN v1 v2 (by have:=EC v2 v1.sub;have:=P.w.nI;omega) k6 u;obtain rfl:=Bh (y.symm.trans q);have hk:c=fk:=z.trans k8.symm;have ha:MG g (Fu d sq t h [] ⟨0,0⟩)=l:=by grind [MG]
 have ha':MG (pL g (Fu d sq t h x s) i1 up row) (Fu d sq t h x s)=f:=by grind [MG]
 have hm:Re R' (Fu d sq t h x s)=Re R' (Fu d sq t h [] ⟨0,0⟩):=rfl;have hdo:∀x s i,Sd R' (Fu d sq t h x s) i=R':=by grind [Sd]
 have hl':f=l:=by grind [UD]
 grind
end
theorem Afa{cs2:AH}{u:FM Ab Bool}{x:Ab}(h:cs2=Hh I u cs x)(hd:∀R,Sd R (I.o x) x=R):MZ I cs2=MZ I cs:=by
 subst h;unfold Hh;have e:MZ I (cs++[x])=MZ I cs:=by unfold MZ;rw[LF];exact hd _
 grind
theorem Ahq{id:Ab}(hl:v.length<=1000)(hs:∀x∈v,1<=x.Seq)(hq:∀x∈v,x.By=id.By->x.Seq<id.Seq)(hf:qN v id.By=some fw)(hk:(decide (0<fw)&&decide (fw<=id.Seq))=false):Rh (v++[id]) id=false:=by
 obtain⟨w,e,hw⟩:=PL (ids:=v) aa hs id.By;rw[hf] at e;obtain rfl:=Bh e;unfold Rh;rw[List.any_eq_false];intro y hy hc;obtain⟨c1,c2,c3⟩:=DP hc;rw[Lq] at c3;rcases Hp.1 hy with hy|hy
 .have hlt:=hq y hy c1;rw[BB cq,Nat.add_zero,c1] at c3;rcases hw with⟨_,h⟩|⟨z,a,b,c,z4,d⟩
  all_goals grind
 grind [Nf,List.filter_eq_nil_iff]
section
variable {g:AB} {m m':Hj} {N N':Hl} (P:Pg g m N) {o:Bi} {id:Ab} {up:Bj} {row:List Bool} (hr:row.length=g.L.length) (P':Pg (pL g o id up row) m' N') (hN:∀k,k<g.L.length->N'[k]?=N[k]?)
include P hr P' hN
theorem AdV(d:g.L.length<=14)(hb:∀k,k<g.L.length->row[k]?=some true)(h4:o.Kind=4)(v2:v.Nodup)(e:∀x,x∈v↔x∈g.IDs)(hid:id∉v)(hq:∀x∈v,x.By=id.By->x.Seq<id.Seq)(hf:qN v id.By=some fw)(hk:(decide (0<fw)&&decide (fw<=id.Seq))=false){a:Ad}{sen sen2:Bj}(h1:UE g m N v R sen)(h2:UE (pL g o id up row) m' N' (v++[id]) a sen2):a=R:=by
 have nI:=P.w.nI;have hvl:v.length<=14:=by have:=EC v2 λx hx=>(e x).1 hx;omega
 have v1:C5 g v:=by grind [C5]
 have v1':C5 (pL g o id up row) v:=⟨λx hx=>List.mem_append_left _ (v1.sub x hx),aa⟩;have w1:C5 (pL g o id up row) (v++[id]):=⟨λx hx=>by
  rcases Hp.1 hx with h|h
  .exact v1'.sub x h
  .exact List.mem_append_right _ h,by simp;omega⟩
 have w2:(v++[id]).Nodup:=by grind
 have hlen:(pL g o id up row).L.length<=15:=by show(g.L++[_]).length<=15;grind
 obtain⟨n1,n2,C⟩:=aaa P hr P' hb;have hs:∀x∈v++[id],1<=x.Seq:=λy hy=>by obtain⟨i,h1⟩:=EO (w1.sub y hy);obtain⟨p,h2,_,s⟩:=P'.w.op (i:=i) (by grind [Pg,Fv.nI]);rw[XP P' i p y h2 h1];exact(T1 s.numbers).seq.1
 obtain⟨R',_,c,_,_,_,_,_,_,_,_,h1'⟩:=PM P' hlen (XP P') v1' v2;obtain⟨rfl,_⟩:=Ae7 P hr P' hN v1 v2 aa h1 h1';obtain⟨r,vs,cs,f,j,hv1,c1,s1,rfl,_⟩:=h1';obtain⟨D,t,z,l,b,hv2,c2,s2,rfl,_⟩:=h2;obtain rfl:=Ahh P' w1 w2 aa (by grind) f l;obtain⟨_,B,_,_,_,n,q,_⟩:=Aag P' hlen (XP P') w1 w2;obtain rfl:=Bh (b.symm.trans n);obtain rfl:=Ae2 w2 aa hs j b λhm=>by have:=(HE.1 (q.mem_iff.1 hm)).2;rw[Ahq aa (by grind) hq hf hk] at this;cases this
 have hxr:id∉r:=by grind
 have A:Agr (BW (pL g o id up row) m' N') (BW (pL g o id up row) m' N') r [id]:=⟨λ_ _=>rfl,(by grind),rfl,rfl,(by grind),(by grind [List.mem_singleton]),λy hy=>by
  rw[List.mem_singleton.1 hy,n2];constructor
  .rw[h4];rfl
  .unfold Yc;rw[h4];rfl⟩
 unfold Yb at c1 c2;rw[A.dec (gg':=⟨(pL g o id up row).Cards,m',N'⟩),A.sen] at c1;obtain⟨u,hu,e1⟩:=DG.1 c1;rw[hu] at c2;obtain e2:=Bh c2;refine Afa (u:=u) (x:=id) ?_ λR=>by rw[n2];unfold Sd;simp[h4]
 rw[<-e2,<-e1];unfold Jt;show(r++[id]).foldl _ _=_;rw[LF];rfl
end
theorem Ahr{D:C7}(hR:Bf R)(h:Rr R D){fk:Bool}{o:Bi}{i:Ab}{sen:Bj}(hk:Sd R o i=R)(hn:UD fk R o i sen≠[]):fk=false/\∀d,d∈UD fk R o i sen↔d∈D3 R:=by
 unfold UD at hn⊢;cases fk with
 |true=>grind
 |false=>
 cases cm:decide (Re R o≠0) with
 |true=>grind
 |false=>
 rw[A9,A9,hk];have hd:∀d,Pl R d=true->d∈D3 R:=λd hd=>by rw[(IK hR).2.1.mem_iff];grind [Rr,Pl,Hi,Ge]
 grind
section
variable {g:AB} {m m':Hj} {N N':Hl} (P:Pg g m N) {o:Bi} {id:Ab} {up:Bj} {row:List Bool} (hr:row.length=g.L.length) (P':Pg (pL g o id up row) m' N') (hN:∀k,k<g.L.length->N'[k]?=N[k]?)
include P hr P' hN
theorem Afb(a:g.L.length<=14)(hb:∀k,k<g.L.length->row[k]?=some true)(ho:o=Fu d sq t h x s)(f:Bb (Fu d sq t h [] ⟨0,0⟩))(so:Bb (Fu d sq t h x s))(hd:1<=d/\d<=6)(hid:pV o=some id)(hh:∀x∈h,x∈g.IDs)(hl:h.length<=1000)(hbh:∀x∈g.IDs,x∈h\/∃k,g.IDs[k]?=some x/\uX g h k)(hsq:∀x∈g.IDs,x.By=d->x.Seq<sq)(hx:x≠[])(hxl:x.length=(Ur g (Fu d sq t h [] ⟨0,0⟩)).length):∃(v:AH) (R:Ad) (D:C7) (sen:Bj),(∀x,x∈v↔x∈g.IDs)/\v.Nodup/\Bf R/\Rr R D/\UE g m N v R sen/\Oh (pL g o id up row) (v++[id])=some (id,true)/\lg (MG (pL g o id up row) o)=some (D3 R):=by
 obtain⟨a1,a2,a3,v,R,D,fk,sen,Q,b1,b2,b3,b4,b5,j,B,K⟩:=Ahp P hr P' hN a ho f so hd hid hh hl hbh;obtain⟨n1,n2,M⟩:=aaa P hr P' hb;have nI:=P.w.nI;have hib:=I5 (by grind) hid;have hby:id.By=d:=by rw[hib.1,ho]
 have hse:id.Seq=sq:=by rw[hib.2,ho]
 have hidg:id∉g.IDs:=by grind
 have hidv:id∉v:=by grind
 have hvl:v.length<=14:=by have:=EC b2 λx hx=>(b1 x).1 hx;omega
 have hk4:∀i,Sd R o i=R:=by grind [Sd]
 have hst:Ur (pL g o id up row) o=Ur g (Fu d sq t h [] ⟨0,0⟩):=by grind [Ur]
 have hsn:Ur g (Fu d sq t h [] ⟨0,0⟩)≠[]:=by grind
 have han:UD fk R o id sen≠[]:=by grind [Ur,tpL]
 obtain⟨C,hmem⟩:=Ahr b4 b5 (hk4 id) han;have w1:C5 (pL g o id up row) (v++[id]):=⟨λx hx=>by
  rcases Hp.1 hx with h|h
  .exact List.mem_append_left _ ((b1 x).1 h)
  .exact List.mem_append_right _ h,by simp;omega⟩
 have w2:(v++[id]).Nodup:=by grind
 have hlen:(pL g o id up row).L.length<=15:=by show(g.L++[_]).length<=15;grind
 have hkn:=Ahg P'.w;obtain⟨cs,_,_,q,_,c2,c3,c4,_,c6,_⟩:=AeW P' hlen hkn w1 w2;obtain⟨b,E,A,F,n,p,H,_,_,_,_,I⟩:=PM P' hlen (XP P') w1 w2;obtain rfl:=AdV P hr P' hN a hb (by rw[ho]) b2 b1 hidv (by grind) (by rw[hby];exact B) (by grind) j I;have hin:id∈(pL g o id up row).IDs:=List.mem_append_right _ aC;have hlast:Nv (BW (pL g o id up row) m' N') cs=[id]:=by
  have hic:id∈cs:=(c2 id).2 ⟨aC,by unfold isC Abr;rw[n2,hst];have:0<(Ur g (Fu d sq t h [] ⟨0,0⟩)).length:=List.length_pos_iff.2 hsn;rw[CM aa,ax];exact CM (by rw[ho];show _=(x.length:Int);omega)⟩
  have hself:(BW (pL g o id up row) m' N').bef id id=false:=by
   obtain⟨i,hi⟩:=EO hin;rw[P'.bef hi hi];cases c:O9 (pL g o id up row) i i with
   |false=>rfl
   |true=>have:=(P'.w.inlt _ _ c).1;omega
  have hp:∀y∈cs,(!On (BW (pL g o id up row) m' N') cs y)=decide (y=id):=λy hy=>by
   unfold On;by_cases e:y=id
   .subst e;rw[CM rfl,List.any_eq_false.2 λz hz=>?_]
    .rfl
    .rcases Hp.1 ((c2 z).1 hz).1 with h|h
     .grind
     simp_all
   .have hyv:y∈g.IDs:=by simp_all
    rw[C3 e,List.any_eq_true.2 (by grind)];rfl
  unfold Nv;rw[List.filter_congr hp];refine(List.perm_singleton.1 ((List.perm_ext_iff_of_nodup (c3.sublist List.filter_sublist) aC).2 λy=>?_));simp_all
 have hIn:lg E.In=some (D3 b):=by have:=Ag3 (Vm P' H aa n p).z n p;grind [lu]
 obtain⟨r,u,O,J⟩:=ZL (l:=MG (pL g o id up row) o) (by grind);have hdn:(D3 b).Nodup:=(IK b4).2.1.nodup_iff.2 b4.ci.kd;have hrd:r=D3 b:=Su ((List.perm_ext_iff_of_nodup (by grind) hdn).2 (by grind)) J (IK b4).1;subst hrd;obtain⟨e1,_,_⟩:=Ac1 P' hlen hkn hin;rw[n2] at e1;have hdl:(D3 b).length<=1000:=by grind [List.Perm.length_eq,IK,Hm,Bf.len]
 refine⟨v,b,D,sen,b1,b2,b4,b5,j,?_,u⟩;unfold Oh;rw[c6,hlast,aL,show decide (ah [id]≠1)=false by simp[ah],A9,F,aL,hIn,aL,show aS [id] 0=some id from rfl,aL,e1,aL,u,aL];unfold Aa3;simp_all
end
theorem AjF{cs:LP}{m:Hj}{x:Ab}{k:Nat}{y:BX}(hk:m.get x=some (k:Int))(hy:N[k]?=some y)(sm:Bb y.o):jg prog fI 28 [.ref 0 0,.agg (aj x)] [(0,oG cs N.length 2),(1,oM m),(2,zQ N)] 3 (.tup [.agg (aJ y.o),bG true]) [(0,oG cs N.length 2),(1,oM m),(2,zQ N),ob 3 50 (aJ y.o)] 4:=by have hz:=Bq hy;refine pP func28 ?_;exact mt .ret (s0 29 fI [(4,.ref 3 0),(5,bG true)] [(0,oG cs N.length 2),(1,oM m),(2,zQ N),ob 3 50 (aJ y.o)] 4 3) [.agg (aJ y.o),bG true] [hlk 14 (lkP (m:=m) (k:=x) (v:=(k:Int)) (b:=true) (by rw[hk];rfl) (by rw[hk];rfl)),AA 25 (az.ixrZ 2 hz),AA 27 (az.fs0Z GN AlZ 0 Cd hz),hf 28 (Ds fI (RM sm))] [hc (el N),hc (cf m),hc (az.imm N)] (ρ:=rI 3++[(3,4)]) (kd:=[(2,.row)])
section
variable {P:Br} [M:Mix P] {st:St} {Q:Exit->St->Prop} {fn:Func} {Bs:List (St->Prop)} {p:Bp}
theorem R7{ops:Array Oper}{K:St->Prop}{cx:Cx}{R:Exit->Act->World->Prop}(l2:It)(c:∀st a w,K st->mh P cx st a w->wpListIn cx.F cx.nn P ops R l2 a w):∀(l:It) (st:St) (a:Act) (w:World),D8 P ops K l st->mh P cx st a w->wpListIn cx.F cx.nn P ops R (l++l2) a w
 |[],st,a,w,h,r=>c st a w h r
 |o::rest,st,a,w,h,r=>by
  obtain⟨β,rb⟩:=r;rcases h with⟨hg,d,hs,hr⟩|⟨hg,hd,hr⟩
  .refine wpListIn_step λK' b=>?_;rw[Bx (cT rb hg)];exact hs cx a w K' R ⟨β,rb⟩ λa' w' r'=>b _ _ (R7 l2 c rest d a' w' hr r')
  .refine wpListIn_step λK' b=>?_;rw[BB (by rw[cT rb hg];simp)];exact⟨λf _=>rb.loose.fn f,b _ _ (R7 l2 c rest _ _ w hr ⟨β,rb.put o.dst hd (.imm _ _ (.lit _))⟩)⟩
def cuR(P:Br)(hs a:List Hn)(c:Code)(k:Nat)(J b st:St)(ρ:Dx)(kd:List (Nat×Rk)):Option (Prop×Bp×JQ×St×Prop×Bp×JQ×St):=match c with
 | .region _ ops false=>match qd P ops hs (ops.toList.take k) st with
  |some (C,u,s1)=>match Iw P [] [] [] J s1 with
   |some (L,s2)=>match qd P ops a (ops.toList.drop k) s2 with
    |some (d,e,s3)=>match Iw P [] ρ kd b s3 with
     |some (f,g)=>some (C,u,L,s2,d,e,f,g)
     |none=>none
    |none=>none
   |none=>none
  |none=>none
 |_=>none
def ku1(x:Option (Prop×Bp×JQ×St×Prop×Bp×JQ×St)):Bp:=match x with|some (_,u,_)=>u|none=>[0]
def ku2(x:Option (Prop×Bp×JQ×St×Prop×Bp×JQ×St)):Bp:=match x with|some (_,_,_,_,_,u,_)=>u|none=>[0]
section
attribute [local semireducible] Tr dz Gp
theorem dCu(k:Nat)(J b:St)(A c O f:List HP)(kk:Gp P fn Q Bs true p b)(ρ:Dx:=[])(kd:List (Nat×Rk):=[])(h1:qe A (ku1 (cuR P (bK A) (bK c) (bq p (ai fn)) k J b st ρ kd))=true:=by kernel_rfl)(h2:qe c (ku2 (cuR P (bK A) (bK c) (bq p (ai fn)) k J b st ρ kd))=true:=by kernel_rfl)(e:cuR P (bK A) (bK c) (bq p (ai fn)) k J b st ρ kd=some (psU A (ku1 (cuR P (bK A) (bK c) (bq p (ai fn)) k J b st ρ kd)),ku1 (cuR P (bK A) (bK c) (bq p (ai fn)) k J b st ρ kd),pR O,J,psU c (ku2 (cuR P (bK A) (bK c) (bq p (ai fn)) k J b st ρ kd)),ku2 (cuR P (bK A) (bK c) (bq p (ai fn)) k J b st ρ kd),pR f,b):=by kernel_rfl):Gp P fn Q Bs false p st:=by
 have c1:=kA h1;have c2:=kA h2;generalize ku1 _=u1 at c1 e;generalize ku2 _=g at c2 e;generalize psU A u1=m at c1 e;generalize psU c g=n at c2 e;show Tr P (bq p (ai fn)) st (dz P (bE p (ai fn) Bs []) Q);unfold cuR at e;split at e;rotate_left
 .cases e
 rename_i id ops hc;split at e;rotate_left
 .cases e
 rename_i s1 h;split at e;rotate_left
 .cases e
 rename_i s2 d;split at e;rotate_left
 .cases e
 rename_i s3 i;split at e;rotate_left
 .cases e
 rename_i o r4;cases e;rw[hc];have q1:=Mz h c1;have j:=Mz i c2;have l1:=M6 d (wR O);have l2:=M6 r4 (wR f);have ho:ops=(ops.toList.take k++ops.toList.drop k).toArray:=aC;generalize ops.toList.take k=x at*;generalize ops.toList.drop k=y at*;subst ho;exact λcx a w R r l=>wpIn_region_lit (R7 y (λs a' w' hs r'=>xK (λst' a2 w2 q d=>l .normal b a2 w2 kk (l2 cx a2 w2 (by rw[<-q];exact d))) y _ a' w' j (l1 cx a' w' (by rw[<-hs];exact r'))) x st a w q1 r)
end
end
abbrev XR(C:LP)(m:Hj)(N:Hl):aQ:=[(0,oG C N.length 2),(1,oM m),(2,zQ N)]
abbrev sgR(C:LP)(m:Hj)(N:Hl)(c:Nat)(R:Ad):aQ:=(0,oG C N.length 2)::(1,oM m)::(2,zQ N)::Bz (JN c) R
section
variable {C:LP} {m:Hj} {N:Hl}
theorem AlI{κ:Nat->FF}(h1:κ 1=some 1)(h2:κ 2=some 2){o:Ob}(h:oG C N.length 2=some o):MB κ o o:=by cases h;exact⟨rfl,.inl (by simp[qg,h1,h2])⟩
theorem AlJ{κ:Nat->FF}{o:Ob}(h:oM m=some o):MB κ o o:=by cases h;exact⟨rfl,rfl,rfl,rfl,.inr ⟨rfl,cf m⟩⟩
theorem AlK{κ:Nat->FF}{o:Ob}(h:zQ N=some o):MB κ o o:=by cases h;exact⟨rfl,.inr ⟨rfl,az.imm N⟩⟩
theorem AiT:w6 (vi [0,1,2]) (XR C m N) (XR C m N) 0 [0,1,2]:=⟨⟨rfl,.inl rfl⟩,⟨rfl,rfl,rfl,rfl,.inr ⟨rfl,cf _⟩⟩,⟨rfl,.inr ⟨rfl,az.imm _⟩⟩,trivial⟩
theorem AlL{c:Nat}{σ:aQ}:oI (G4 [0,1,2] c) ((0,oG C N.length 2)::(1,oM m)::(2,zQ N)::σ) (XR C m N):=⟨⟨rfl,.inl rfl⟩,⟨rfl,rfl,rfl,rfl,.inr ⟨rfl,cf _⟩⟩,⟨rfl,.inr ⟨rfl,az.imm _⟩⟩,trivial⟩
theorem Any:InP (vi [0,1,2]) [0,1,2] (XR C m N) (XR C m N):=λk o h=>by
 match k with
 |0=>exact⟨0,o,rfl,h,AlI (κ:=vi [0,1,2]) rfl rfl h⟩
 |1=>exact⟨1,o,rfl,h,AlJ h⟩
 |2=>exact⟨2,o,rfl,h,AlK h⟩
 |j+3=>cases h
theorem AlM(hR:Bf R)(c:Nat):aad (kO (XR C m N) [0,1,2] 3 14 c) (sgR C m N 3 R) (sgR C m N c R):=λi o h0=>by
 rw[A3] at h0;split at h0
 .rename_i e;subst e;exact⟨0,o,rfl,h0,AlI (κ:=kO (XR C m N) [0,1,2] 3 14 c) rfl rfl h0⟩
 rw[A3] at h0;split at h0
 .rename_i e;subst e;exact⟨1,o,rfl,h0,AlJ h0⟩
 rw[A3] at h0;split at h0
 .rename_i e;subst e;exact⟨2,o,rfl,h0,AlK h0⟩
 rw[G9] at h0;obtain⟨k,hk,e,h⟩:=KX h0;subst e;have hκ:∀k,(∃ob,Bv (JN 3) R k=some ob)->kO (XR C m N) [0,1,2] 3 14 c (JN 3 k)=some (JN c k):=λk ⟨ob,h⟩=>by have:=DT h;unfold kO JN;rw[show Nat.blt (3+k) 3=false from by cases hb:Nat.blt (3+k) 3 with|false=>rfl|true=>exact absurd (EG hb) aa,show Nat.blt (3+k) (3+14)=true from Ng aa,Nat.add_sub_cancel_left];rfl
 obtain⟨a,h1,h2⟩:=O6 hκ hR k o h;refine⟨JN 3 k,a,(by grind),?_,h2⟩;show ag ((0,_)::(1,_)::(2,_)::Bz (JN 3) R) (JN 3 k)=_;rw[A3,BB (by unfold JN;omega),A3,BB (by unfold JN;omega),A3,BB (by unfold JN;omega),G9,KS (by grind [AdA]) hk];exact h1
end
abbrev kdG:List (Nat×Rk):=(2,.row)::L0.map λk=>(k+3,.any)
abbrev ρg0:Dx:=[(0,0),(1,1),(2,2),(3,3),(4,4),(5,5),(6,6),(7,7),(8,8),(9,9),(10,10),(11,11),(12,12),(13,13),(14,14),(15,15),(16,16)]
abbrev ρg2:Dx:=[(0,0),(1,1),(2,2),(3,3),(4,4),(5,5),(6,6),(7,7),(8,20),(9,21),(10,22),(11,23),(12,24),(13,25),(14,26),(15,27),(16,28)]
section
variable {g:AB} {m:Hj} {N:Hl} (P:Pg g m N)
include P
theorem Afc(hC:iV prog fI 27 [.ptr (Ag ⟨g.Cards,m,N⟩) 0,aE aj ids] 42 cs.length (cs.flatMap aj))(hl:∀x∈cs,x∈g.IDs)(hn:cs.length<=1000):R4 prog fI 6 [.ref 0 0,aE aj ids] (XR g.Cards m N) 3 3 (.ref 3 0) (sgR g.Cards m N 3 (MZ (BW g m N) cs)):=by
 have hod:∀x∈cs,∃(k:Nat) (y:BX),m.get x=some (k:Int)/\N[k]?=some y/\Bb y.o/\(BW g m N).o x=y.o/\TB y.o x:=λx hx=>by
  obtain⟨i,hi⟩:=EO (hl x hx);obtain⟨y,hy⟩:∃y,N[i]?=some y:=⟨_,EA (by have:=(cr hi).1;rw[P.p.len,<-P.w.nI];exact this)⟩
  obtain⟨h1,_⟩:=P.p.nd i y hy;exact⟨i,y,by rw[P.p.get,KE P.w hi];rfl,hy,(P.w.ops i _ h1).1,(P.op h1 hi).2,P.od i _ x h1 hi⟩
 have hOd:∀x∈cs,TB ((BW g m N).o x) x:=by grind
 have hc0:=K4 P.cd.r;have hQ:∀k,Bf ((cs.take k).foldl (JV (BW g m N)) (Ha g.Cards)):=by grind [P2]
 have hcr:G8 ⟨g.Cards,m,N⟩=some g.Cards:=by have:=(SN P.w P.p).nc;grind [G8,Ef,aT]
 have hca:=LC fI (g:=⟨g.Cards,m,N⟩) (r:=g.Cards) hcr;simp only[Ag,RJ] at hC hca;refine dFP func6 ?_;refine pO [1,0] (s0 33 fI [(0,.ref 0 0),(1,aE aj ids)] (XR g.Cards m N) 3 3) [] [hc (el N),hc (cf m),hc (az.imm N)] ?_;refine dCu 2 (s0 33 fI [(0,.ref 0 0),(1,aE aj ids),(11,aE bv g.Cards)] (XR g.Cards m N) 3 3) (s0 33 fI [(0,.ref 0 0),(1,aE aj ids),(5,.ref 3 0)] (sgR g.Cards m N 3 (Ha g.Cards)) 17 3) [ho 11 [Z8 g.Cards m N] [hc (cf m),hc (az.al N)] hca (AfG _)] [hrn 12 3 [aE bv g.Cards] hc0 (AcB fI P.cd)] [hc (bT.al g.Cards),hc (el N),hc (cf m),hc (az.imm N)] (hc (el N)::hc (cf m)::hc (az.imm N)::rlC ρg0 (JN 3) (JN 3) hc0) ?_ ρg0 kdG;refine dLl (l:=cs) aa (λk:Nat=>(s0 33 fI [(0,.ref 0 0),(5,.ref 3 0),(15,aE aj cs),(16,iG (ah cs)),(17,iG (k:Int))] (sgR g.Cards m N 3 ((cs.take k).foldl (JV (BW g m N)) (Ha g.Cards))) 17 3)) 1110122 [ho 15 [Z8 g.Cards m N,aE aj ids] [hc (cf m),hc (az.al N)] hC (kF _)] (hc (ac.al cs)::hc (el N)::hc (cf m)::hc (az.imm N)::rlC ρg0 (JN 3) (JN 3) (hQ 0)) (λB k x hx hz k5=>?_) (λB=>?_) [] ρg0 kdG
 .have hlt:=(cr hx).1;have hq:=hQ k;obtain⟨j,y,h1,h2,h3,h4,h5⟩:=hod x (bO hx);rw[Hv,hx,Option.toList_some,LF,List.foldl_cons,List.foldl_nil] at k5;generalize (cs.take k).foldl (JV (BW g m N)) (Ha g.Cards)=Q at hq k5⊢;unfold JV at k5;rw[h4] at k5;have a:=PR hq h5;exact jw [hr 18 (Dk hx),AA 19 (ac.ixZ hz),AA 20 (ac.ptZ aW hz),tN 24 [0,1,2] 18 (XR g.Cards m N) [.ref 0 0,.agg (aj x)] (XR g.Cards m N) (AjF h1 h2 h3) AiT AlL,Y4 30 (JN 3) 20 [.agg (aJ y.o),.agg (aj x)] hq a (Adw fI hq h5),hbb 31 (Xl (q:=k) aa)] (hc (el N)::hc (cf m)::hc (az.imm N)::rlC ρg2 (fW (JN 3) 20) (JN 3) a) k5 [] ρg2 kdG
 .rw[D5];exact ZT [hr 18 (Fe (s:=cs))] (hc (el N)::hc (cf m)::hc (az.imm N)::rlC ρg0 (JN 3) (JN 3) (P2 hc0 hOd)) ρg0 kdG
theorem Ahs(b:g.L.length<=15)(v1:C5 g v)(v2:v.Nodup){sen:Bj}(h:UE g m N v R sen):R4 prog fI 6 [.ref 0 0,aE aj v] (XR g.Cards m N) 3 3 (.ref 3 0) (sgR g.Cards m N 3 R):=by obtain⟨row,vs,c,d,_,w1,_,hvl,hL,hrm,_,_,hrl,hS⟩:=Aag P b (XP P) v1 v2;obtain⟨a,f,cs,e1,e2,_,i,hsub,rfl,_⟩:=h;obtain rfl:=Bh (e1.symm.trans c);obtain rfl:=Bh (e2.symm.trans w1);have hI:=Wf (SN P.w P.p);have e:=Si hI (hS a d).1 aa;obtain⟨_,s2⟩:=AeK P hrm;obtain⟨hO,hV⟩:=hS v (.refl _);exact Afc P (by grind [ZH]) (by grind) (by grind)
theorem Afd(j:g.L.length<=15){v':AH}(v1:C5 g v)(v2:v.Nodup)(hp:v'.Perm v){sen:Bj}(h:UE g m N v R sen)(h':UE g m N v' R' sen'):R'=R:=by
 have v1':C5 g v':=by grind [C5,List.Perm.length_eq]
 have e:=hp.nodup_iff.2 v2;have nI:=P.w.nI;have hsq:∀x∈g.IDs,1<=x.Seq:=λx hx=>by obtain⟨i,hi⟩:=EO hx;obtain⟨o,ho,_,n⟩:=P.w.op (i:=i) (by grind);rw[XP P i o x ho hi];exact(T1 n.numbers).seq.1
 have hl:v.length<=15:=by have:=EC v2 v1.sub;grind
 have hl':v'.length<=15:=by rw[hp.length_eq];exact hl
 obtain⟨row,vs,cs,e1,e2,_,e4,_,rfl,_⟩:=h;obtain⟨f,q,r,f1,f2,_,s,_,rfl,_⟩:=h';obtain⟨a,a1,a2,a3⟩:=Hf P.w P.p aa v2 v1.sub;obtain⟨b,b1,b2,b3⟩:=Hf P.w P.p aa e v1'.sub;obtain⟨c,c1,c2,c3⟩:=MI (ids:=v) aa v2 (by grind [C5.sub]);obtain⟨d,k,t,l⟩:=MI (ids:=v') aa e (by grind [C5.sub]);obtain rfl:=Bh (e1.symm.trans a1);obtain rfl:=Bh (f1.symm.trans b1);obtain rfl:=Bh (e2.symm.trans c1);obtain rfl:=Bh (f2.symm.trans k);obtain rfl:=JK (SP (BW g m N)).tr NQ (by grind) b3 a3;have hq:(v'.filter (Rh v')).Perm (v.filter (Rh v)):=by rw[show Rh v'=Rh v from funext (Abq hp)];grind
 obtain rfl:=JK Lo.tr QM (by grind) l c3;grind
end
def AiR:Bool:=match Om [] 14 with
 |none=>false
 |some r=>match r.IDs with
  |[]=>false
  |x::_=>decide (Oh r [x]=some (x,true))&&(decide (Oh r []=some (⟨0,0,0⟩,false))&&decide (LX r x=some [1]))
theorem Ae0:AiR=true:=aH
theorem Ab7:ba prog fI 8 [] (bG true):=by
 obtain⟨r,m,N,e,P,a,ne,f,hC,hM⟩:=YZ (l:=[]) aC aC;have a:=Nat.le_succ_of_le a;have hM:=Ab6 e hM;have w:=P.w;have nI:=w.nI;have hkn:=Ahg w;have hB:=Ae0;unfold AiR at hB;rw[e] at hB;dsimp only at hB;obtain⟨x,rest,hx⟩:∃x t,r.IDs=x::t:=by
  cases h:r.IDs with
  |nil=>rw[h] at nI;exact absurd (List.length_eq_zero_iff.1 nI.symm) ne
  |cons x t=>exact⟨x,t,rfl⟩
 rw[hx] at hB;dsimp only at hB;simp only[bA,decide_eq_true_eq] at hB;obtain⟨b1,b2,b3⟩:=hB;have hxm:x∈r.IDs:=by rw[hx];simp
 obtain⟨cs,R,D,q,_,_,_,_,_,_,g,_,_,_,_,i⟩:=AeW P a hkn (v:=[x]) ⟨by simpa using hxm,aC⟩ aC;obtain rfl:=Bh (b1.symm.trans g);have n1:=(i [x] (.refl _)).2.2.2;obtain⟨k,R',D',n,_,_,_,_,_,_,c,_,_,_,_,d⟩:=AeW P a hkn (v:=[]) ⟨aC,aC⟩ aC;obtain rfl:=Bh (b2.symm.trans c);have n2:=UY [.ptr (Ag ⟨r.Cards,m,N⟩) 0,Iy] (d [] (.refl _)).2.2.2;obtain⟨j,b,_⟩:=Ac1 P a hkn hxm;obtain hd:=Bh (b3.symm.trans j);rw[<-hd] at b;have b:=rZ.fo b;have hz:aS r.IDs 0=some x:=by rw[hx];rfl
 simp only[Ag,RJ] at n1 n2 b;refine Gh func8 ?_;refine pO 11100 (s0 56 fI [(1,Z8 r.Cards m N),(2,.ptr (aI r) 0)] [] 0 0) [tN 9 [] 0 [] [Iy] [ob 0 101 [aE bv r.Cards,.mref 1,.rsl 2 0 N.length],(1,oM m),(2,zQ N)] hM trivial ⟨⟨rfl,.inl rfl⟩,⟨rfl,rfl,rfl,rfl,.inr ⟨rfl,cf _⟩⟩,⟨rfl,.inr ⟨rfl,az.imm _⟩⟩,trivial⟩] [hc (cf m),hc (az.al N),hc (eB (gs:=[aE bv r.Cards,gMp m,aE d7 N]) aH),hc (eB (gs:=aI r) aH)] ?_;refine pO 111110 (s0 56 fI [(1,Z8 r.Cards m N),(2,.ptr (aI r) 0),(3,aE aj [x])] [] 0 0) [hr 18 (show decide ((r.IDs.length:Int)=0)=false by rw[hx];exact C3 cq),AA 22 (ac.ixZ hz),AA 23 (ac.ptZ aW hz)] [hc (ac.al [x])] ?_;refine pO 1111110 (s0 56 fI [(1,Z8 r.Cards m N),(2,.ptr (aI r) 0),(4,.ptr (aj x) 0),(5,bG true)] [] 0 0) [hf 28 n1] [hc (eB (gs:=aj x) aH)] ?_;refine pO 11111110 (s0 56 fI [(1,Z8 r.Cards m N),(2,.ptr (aI r) 0),(4,.ptr (aj x) 0),(5,bG true),(7,bG false)] [] 0 0) [hf 33 n2] [] ?_;exact Ar [AA 41 (ac.ixZ hz),AA 42 (ac.ptZ aW hz),hV 43 (dU (r:=true) x x aC),hf 52 b,hq 54 [aE cZ [1],aE cZ [1]] [hc (rZ.al [1])] (Adl (gl:=fI) (l:=[1]) Cd)] []
section
variable {g:AB} {m:Hj} {N:Hl} (P:Pg g m N)
include P
theorem Aht(gr:JS b g)(hb:b.L=[])(hC:g.Cards=GR)(l:g.L.length<=14)(ne:g.L≠[]){e:AH}(ha:e.Perm g.IDs){sen:Bj}(o:UE g m N e R sen){up:Bj}(hd:1<=d/\d<=6)(u1:Fc g e d=some sq)(F:qL g e=some h)(A:Bb (Fu d sq t h [] ⟨0,0⟩))(hx:x≠[])(hxl:x.length=(Ur g (Fu d sq t h [] ⟨0,0⟩)).length)(so:Bb (Fu d sq t h x s))(U:fS s.R)(D:fS s.S)(a:Mj g (Fu d sq t h x s) up)(r:∀k,k<g.L.length->EP g up k):∃(id:Ab) (m':Hj) (y:BX),pV (Fu d sq t h x s)=some id/\jg prog fI 15 [.ref 0 0,.agg (aJ (Fu d sq t h x s))] [(0,oG g.Cards N.length 2),(1,oM m),(2,zQ N)] 3 (iG 0) [(0,oG g.Cards (N++[y]).length 3),(1,oM m'),(3,zQ (N++[y]))] 4/\∃al:AH,ba prog fI 17 [Z8 g.Cards m' (N++[y])] (aE aj al)/\ba prog fI 16 [Z8 g.Cards m' (N++[y]),aE aj al] (.tup [.agg (aj id),bG true])/\∃dv:Bj,ba prog fI 21 [Z8 g.Cards m' (N++[y]),.agg (aj id)] (aE cZ dv)/\lg dv=some (D3 R):=by
 have w:=P.w;have nI:=w.nI;have pl:=P.p.len;have hal:e.length<=1000:=by rw[ha.length_eq];omega
 have v1:C5 g e:=by grind [C5]
 have v2:e.Nodup:=ha.nodup_iff.2 w.nd;obtain⟨id,_,g1⟩:=TU so;have ul:up.length<=1000:=by have:=so.nPast;grind [Mj]
 obtain⟨row,hrow,u,H⟩:=yc w (up:=up) ul a.upb;obtain⟨y,_,_,B,f⟩:=T8 w P.p so D a g1 hrow;have w':=Wc w so D a g1 u H;have P':=AfM w' B (by grind [JS]) hb (by grind [Fv]) (by show g.Cards.all KK=true;grind [Og]) (by show(g.Cards.map (·.Device)).Nodup;grind [Aj3]);have hN:∀k,k<g.L.length->(N++[y])[k]?=N[k]? :=by grind
 have hbr:∀k,k<g.L.length->row[k]?=some true:=by grind
 obtain⟨h',e',hh,_,_,_⟩:=KH w (ids:=e) hal;obtain rfl:=Bh (F.symm.trans e');obtain⟨Q,e2,hs,_⟩:=TG w v1 d;obtain rfl:=Bh (u1.symm.trans e2);have hpast:∀q:Int,q∈up->∃i∈h,∃n:Nat,bu i g.IDs=some n/\q=(n:Int):=λq hq=>by
  obtain⟨j,hj⟩:=EO hq;have hjl:=(cr hj).1;have hul:up.length=h.length:=a.upl;obtain⟨i,hi⟩:∃i,h[j]?=some i:=by grind
  obtain⟨n,n1,n2⟩:=a.par j i hi;grind
 have hbh:∀x∈g.IDs,x∈h\/∃k,g.IDs[k]?=some x/\uX g h k:=λx hx=>by
  obtain⟨k,hk⟩:=EO hx;rcases r k (by grind) with c|⟨j,c1,c2⟩
  .obtain⟨i,i1,n,n1,n2⟩:=hpast _ c;obtain rfl:k=n:=aa;grind [gb]
  .obtain⟨i,i1,n,n1,n2⟩:=hpast _ c1;obtain rfl:j=n:=aa;exact .inr ⟨k,hk,i,i1,j,n1,c2⟩
 have hin:id∈(pL g (Fu d sq t h x s) id up row).IDs:=List.mem_append_right _ aC;obtain⟨_,n2,_⟩:=aaa P u P' hbr;obtain⟨v,R',D',E,b1,b2,_,_,b5,I,J⟩:=Afb P u P' hN l hbr rfl A so hd g1 hh.sub hh.len hbh (by grind) hx hxl;have hvp:v.Perm e:=by grind
 obtain rfl:=Afd P aa v1 v2 hvp o b5;have hlen:(pL g (Fu d sq t h x s) id up row).L.length<=15:=by show(g.L++[_]).length<=15;grind
 have hkn:=Ahg w';have hidv:id∉v:=by grind
 have w2:(v++[id]).Nodup:=by grind
 have hvl:v.length<=14:=by grind [List.Perm.length_eq]
 have w1:C5 (pL g (Fu d sq t h x s) id up row) (v++[id]):=⟨λx hx=>by
  rcases Hp.1 hx with c|c
  .exact List.mem_append_left _ ((b1 x).1 c)
  grind,by simp;omega⟩
 obtain⟨al,k1,k2,_,K⟩:=AjV P' hlen;have kp:al.Perm (v++[id]):=(List.perm_ext_iff_of_nodup K w2).2 λx=>by rw[k2.mem_iff,Hp];exact List.mem_append.trans (by grind)
 obtain⟨_,_,_,q,_,_,_,_,_,_,M,_,_,_,_,O⟩:=AeW P' hlen hkn w1 w2;obtain rfl:=Bh (I.symm.trans M);obtain⟨_,_,_,C⟩:=O al kp;obtain⟨_,z,_⟩:=Ac1 P' hlen hkn hin;rw[n2] at z;simp only[Ag,RJ] at k1 C z;exact⟨id,_,y,g1,f,al,k1,C,_,rZ.fo z,J⟩
end
theorem Afe(b:ba prog fI 8 [] (bG true)){z:Int}(hl:l.length<=9223372036854775807)(hi:∀x∈l,Fk x)(hz:Fk z):ba prog fI 3 [aE cZ l,iG z] (bG true):=by
 obtain⟨r,m,N,J,P,c,ne,f,hC,hM⟩:=YZ hl hi;have hM:=AdR J hM;have w:=P.w;have nI:=w.nI;obtain⟨a,K,hap,_⟩:=Cz w;have v1:C5 r a:=by grind [C5,List.Perm.length_eq]
 have v2:a.Nodup:=hap.nodup_iff.2 w.nd;obtain⟨R,D,sen,_,hD,hR,_,_,_,_,_,i⟩:=PM P aa (XP P) v1 v2;have o:=Ahs P aa v1 v2 i;have hdl:(D3 R).length<=1000:=by grind [List.Perm.length_eq,IK,Hm,Bf.len]
 refine Gh func3 ?_;refine pO 111110 (s0 97 fI [(1,iG z),(5,.ref 0 0),(6,.ptr (aI r) 0),(7,aE aj a)] (XR r.Cards m N) 3 0) [tN 16 [] 0 [] [aE cZ l] (XR r.Cards m N) hM trivial ⟨⟨rfl,.inl rfl⟩,⟨rfl,rfl,rfl,rfl,.inr ⟨rfl,cf _⟩⟩,⟨rfl,.inr ⟨rfl,az.imm _⟩⟩,trivial⟩,hf 22 (ac.fo (DK fI K))] [hc (eB (gs:=aI r) aH),hc (el N),hc (cf m),hc (az.imm N)] ?_;refine pO 1111111100 (s0 97 fI [(1,iG z),(5,.ref 0 0),(6,.ptr (aI r) 0),(7,aE aj a),(9,aE cZ (D3 R))] (XR r.Cards m N) 3 0) [hfm 25 [0,1,2] 3 14 3 (XR r.Cards m N) [.ref 0 0,aE aj a] (sgR r.Cards m N 3 R) o Any (AlM hR 3),hrr 29 (JN 3) 17 [] hR (MT fI hR)] [hc (el N),hc (cf m),hc (az.imm N)] ?_;by_cases hd0:(D3 R).length=0
 .exact Ar [hr 32 (show decide (((D3 R).length:Int)=0)=true by rw[hd0];rfl),hf 33 b] []
 obtain⟨q,ei,L,i1⟩:=eX hz (m:=((D3 R).length:Int)) aa;obtain⟨d,hd⟩:∃d,(D3 R)[q.toNat]?=some d:=by grind
 have hdz:aS (D3 R) q=some d:=by grind [au]
 have hd6:1<=d/\d<=6:=by have:=(IK hR).2.1.mem_iff.1 (bO hd);obtain⟨e,h1,rfl⟩:=E7.1 this;exact hR.i6 e h1
 obtain⟨k,t,h,x,u1,u,p,v,A,B,C⟩:=Ahk P f rfl hC c ne hap hd6;have hsm:=Adl (gl:=fI) (l:=D3 R) aa;refine pO 11111111110 (s0 97 fI [(5,.ref 0 0),(6,.ptr (aI r) 0),(7,aE aj a),(9,aE cZ (D3 R)),(10,iG d)] (XR r.Cards m N) 3 0) [hr 32 (show decide (((D3 R).length:Int)=0)=false from C3 aa),hf 38 (iL fI ei),AA 39 (rZ.ixZ hdz),AA 40 (rZ.p1Z tZ hdz)] [hc (el N),hc (cf m),hc (az.imm N)] ?_;refine pO 1111111111100 (s0 97 fI [(5,.ref 0 0),(9,aE cZ (D3 R)),(11,.ref 3 0)] (XR r.Cards m N++[ob 3 50 (aJ (Fu d k t h x ⟨0,0⟩))]) 4 0) [hf 46 (Na fI u1),hf 49 (Jx fI u),hf 52 (ac.fo (G3 fI p)),hf 54 (UY [.agg (aI r),.agg (bF [9,14,15,19,22,24] (aJ (Fu d k t h [] ⟨0,0⟩)))] (Vq fI v))] [hc (el N),hc (cf m),hc (az.imm N)] ?_;by_cases h12:h.length<=12;rotate_left
 .exact Ar [hr 58 (show decide ((12:Int)<(h.length:Int))=true from CM aa),hf 65 b] []
 by_cases x0:x=[]
 .exact Ar [hr 58 (show decide ((12:Int)<(h.length:Int))=false from C3 aa),hr 63 (show decide ((x.length:Int)=0)=true by rw[x0];rfl),hf 65 b] []
 obtain⟨s,up,s1,s2,s3,E,F,H⟩:=C h12;obtain⟨id,n,y,g1,j,al,k1,k2,dv,k3,I⟩:=Aht P f rfl hC c ne hap i hd6 u1 p A x0 B s2 s3 E F H;refine pO 111111111111110 (s0 97 fI [(5,Z8 r.Cards n (N++[y])),(9,aE cZ (D3 R)),(11,.ptr (aJ (Fu d k t h x s)) 0)] [] 0 0) [hr 58 (show decide ((12:Int)<(h.length:Int))=false from C3 aa),hr 63 (show decide ((x.length:Int)=0)=false from C3 λe=>x0 (List.length_eq_zero_iff.1 aa)),hf 67 (E8 fI s1),tN 70 [0,1,2] 4 (XR r.Cards m N) [.ref 0 0,.agg (aJ (Fu d k t h x s))] [ob 0 101 ([aE bv r.Cards,.mref 1,.rsl 4 0 (N++[y]).length]),(1,oM n),(2,none),(3,zQ (N++[y]))] j AiT ⟨⟨rfl,.inl rfl⟩,⟨rfl,rfl,rfl,rfl,.inr ⟨rfl,cf _⟩⟩,⟨rfl,.inr ⟨rfl,az.imm _⟩⟩,trivial⟩] [hc (cf n),hc (az.al (N++[y])),hc (eB (gs:=[aE bv r.Cards,gMp n,aE d7 (N++[y])]) aH),hc (eB (gs:=aJ (Fu d k t h x s)) aH)] ?_;exact Ar [hf 75 k1,hf 76 k2,hf 83 (AI fI g1),hV 84 (dU id id (r:=true) aC),hf 89 k3,hf 90 (rZ.fo (vH fI I)),hf 92 hsm,hf 95 b] []
abbrev Us:List (String×DataW Unit):=[("huddle/roll.asks",Rows.laid_huddle_roll_asks),("huddle/op.kinds",Rows.laid_huddle_op_kinds)]
theorem Y8:Tryz.prog.globalNamed "huddle/roll.asks" =some 1:=aH
theorem WB:Tryz.prog.globalNamed "huddle/op.kinds" =some 0:=aH
theorem Y9:(Tryz.prog.globals[1]?).map (·.type)=some 269:=aH
theorem WC:(Tryz.prog.globals[0]?).map (·.type)=some 161:=aH
theorem Ad2{α:Type}{l:List α}{v:α}(h:l[i]?=some v):(l.drop (i*1)).take 1=[v]:=by rw[Nat.mul_one];obtain⟨hi,rfl⟩:=cr h;rw[List.drop_eq_getElem_cons hi];rfl
theorem IL{P:Program}{sp:Nat->Bool}{fuel:Nat}{t:TypeId}{ps rs:Array TypeId}{va:Bool}{v:Value}{q:List MemPlace}(ht:P.underlying t=some (.func ps rs va))
  (h:DataW.trod (funcToken P) P w base sp true fuel t [v]=some (.nil,q)):v= .nilFunc:=by
 cases fuel with
 |zero=>simp[DataW.trod] at h
 |succ n=>cases v<;>simp[DataW.trod,ht] at h;rfl
theorem zo{H:Type}{enc:TypeId×Value->H}{P:Program}{sp:Nat->Bool}{a:Bool}{fuel n:Nat}{t e:TypeId}{cs:Array Value}{ds:List (DataW H)}{p:List MemPlace}{nm:String}{g:Nat}(ht:P.underlying t=some (.array n e))(hc:P.cellsOf e=1)(hn:P.cellsOf t=n)
  (hg:P.globalNamed nm=some g) (hv:w.var? P nm=some cs) (h:DataW.trod enc P w base sp a fuel t cs.toList=some (.agg ds,p)):∀i,i<n->∃v d m q,w.cell? ⟨g,i,none⟩=some v/\ds[i]?=some d/\DataW.trod enc P w base sp a m e [v]=some (d,q):=by
 obtain⟨xs,m,_,hx,hl,hlen,b⟩:=DataW.trod_array ht h
 simp only[Gb,DataW.agg.injEq] at hx
 intro i hi
 have hsz:cs.size=n:=by rw[<-hn,<-hl];simp
 have hcell:=World.var?_cell hg hv i
 have hci:cs[i]?=some (cs[i]'aa):=Array.getElem?_eq_getElem aa
 have hli:cs.toList[i]?=some (cs[i]'aa):=by rw[Array.getElem?_toList];exact hci
 have:=b i hi
 rw[hc,Ad2 hli] at this
 have hxi:xs[i]?=some (xs[i]'aa):=EA aa
 rw[hxi] at this
 refine⟨_,(xs[i]'aa).1,m,(xs[i]'aa).2,hcell.trans hci,?_,this⟩
 rw[hx.1,Nh,hxi]
 rfl
theorem ML{g:Nat}{v:Value}(h:W.cell? ⟨g,i,none⟩=some v):g<W.heap.size:=by
 rcases JF g W.heap.size with h'|h'
 .exact h'
 .unfold World.cell? at h;simp[Array.getElem?_eq_none h'] at h
def IM:G->Value
 | .lit v=>v
 | .clo fn _ _=> .func fn #[] #[]
 |_=> .nilFunc
theorem WD{S:Nat->Prop}{g:G}(h:(∃v,g= .lit v)\/∃n,g= .clo (.func n) [] []):IV S W g (IM g):=by
 rcases h with⟨v,rfl⟩|⟨n,rfl⟩
 .exact .lit v
 .exact .clo _ [] [] #[] #[] rfl rfl aC aC
theorem MM{g:Nat}{l:List G}(h0:g<W.heap.size)(hc:∀i x,l[i]?=some x->W.cell? ⟨g,i,none⟩=some (IM x))(hg:∀x∈l,((∃k z,x= .lit (.int k z))\/x= .lit .nilFunc)\/∃n,x= .clo (.func n) [] []):IV (λ_=>False) W (.ptr l 0) (.pointer (some ⟨g,0,none⟩)):=by
 have e:(⟨g,0,none⟩:Addr)=⟨g,0+0,none⟩:=rfl;refine .ptr l 0 g 0 (λi=>IM (l.getD i .junk)) (λh=>h) h0 (λi hi=>?_) (λi hi=>?_) (λi x hx=>?_)
 .rw[Nat.zero_add];refine hc i _ ?_;rw[List.getD_eq_getElem?_getD,EA hi];rfl
 .have hx:l[i]?=some (l[i]'hi):=EA hi;rw[List.getD_eq_getElem?_getD,hx];rcases hg _ (bO hx) with(⟨k,z,h⟩|h)|⟨n,h⟩<;>(simp only[Nt];rw[h];rfl)
 .rw[List.getD_eq_getElem?_getD,hx];simp only[Nt];refine WD ?_;rcases hg _ (bO hx) with(⟨k,z,h⟩|h)|⟨n,h⟩
  .exact .inl ⟨_,h⟩
  .exact .inl ⟨_,h⟩
  .exact .inr ⟨n,h⟩
theorem Ov(h:laidMetH Tryz.prog Us W):IV (λ_=>False) W (.ptr (nG.flatMap cZ) 0) (.pointer (some ⟨0,0,none⟩)):=by
 have hm:laidMet Tryz.prog [("huddle/op.kinds",Rows.laid_huddle_op_kinds)] W:=h.1;obtain⟨ps,⟨g1,e,c,f1,f,q1,a,b,hv1,hd1,_,_⟩,_,_⟩:=hm;obtain rfl:=Bh (WB.symm.trans a);obtain rfl:=Bh (WC.symm.trans b);have hcells:=zo (n:=14) Tryz.underlying161 aH aH a hv1 hd1;have key:∀i x,(nG.flatMap cZ)[i]?=some x->W.cell? ⟨0,i,none⟩=some (IM x):=by
  intro i x hx;have hi:i<14:=(cr hx).1;obtain⟨v,d,m,q,hc,hd,hr⟩:=hcells i hi;obtain⟨k,e1,e2,_⟩:=DataW.trod_int Tryz.underlying3 hr;simp only[Gb] at e2;rw[hc];simp only[List.cons.injEq,and_true] at e1;rw[e1];rw[e2.1] at hd;match i,hi with
  |0,_|1,_|2,_|3,_|4,_|5,_|6,_|7,_|8,_|9,_|10,_|11,_|12,_|13,_=>cases hd;cases hx;rfl
 refine MM (ML (key 0 _ rfl)) key λx hx=> .inl (.inl ?_);obtain⟨z,_,hz⟩:=List.mem_flatMap.1 hx;cases List.mem_singleton.1 hz;exact⟨_,_,rfl⟩
noncomputable abbrev fby(l:List UInt8):List Nat:=(List.range Tryz.prog.funcs.size).filter λf=>(Tryz.prog.funcs[f]?).any (·.name.toUTF8.data.toList==l)
theorem aaJ:fby [104,117,100,100,108,101,47,114,111,108,108,46,97,115,107,115,36,49]=[391]:=aH
theorem aaK:fby [104,117,100,100,108,101,47,114,111,108,108,46,97,115,107,115,36,50]=[393]:=aH
theorem aaL:fby [104,117,100,100,108,101,47,114,111,108,108,46,97,115,107,115,36,51]=[394]:=aH
theorem aaM:fby [104,117,100,100,108,101,47,114,111,108,108,46,97,115,107,115,36,52]=[395]:=aH
theorem aaN:fby [104,117,100,100,108,101,47,114,111,108,108,46,97,115,107,115,36,53]=[396]:=aH
theorem aaO:fby [104,117,100,100,108,101,47,114,111,108,108,46,97,115,107,115,36,54]=[397]:=aH
theorem aaP:fby [40,42,104,117,100,100,108,101,47,114,111,108,108,46,82,111,108,108,41,46,111,119,110]=[399]:=aH
theorem aaQ:fby [104,117,100,100,108,101,47,114,111,108,108,46,97,115,107,115,36,55]=[400]:=aH
theorem aaR:fby [104,117,100,100,108,101,47,114,111,108,108,46,97,115,107,115,36,56]=[401]:=aH
theorem Rc(h:laidMetH Tryz.prog Us W):IV (λ_=>False) W (.ptr IU 0) (.pointer (some ⟨1,0,none⟩)):=by
 obtain⟨g,t,cs,fuel,p,hg,ht,hv,hd0⟩:=h.funcs (List.mem_cons_self ..);obtain rfl:=Bh (Y8.symm.trans hg);obtain rfl:=Bh (Y9.symm.trans ht);have hd1:DataW.trod (funcToken Tryz.prog) Tryz.prog W 0 (λ_=>true) true fuel 269 cs.toList=some (.agg [.nil,.nil,.held [104,117,100,100,108,101,47,114,111,108,108,46,97,115,107,115,36,49],.held [104,117,100,100,108,101,47,114,111,108,108,46,97,115,107,115,36,50],.nil,.held [104,117,100,100,108,101,47,114,111,108,108,46,97,115,107,115,36,51],.held [104,117,100,100,108,101,47,114,111,108,108,46,97,115,107,115,36,52],.nil,.held [104,117,100,100,108,101,47,114,111,108,108,46,97,115,107,115,36,53],.held [104,117,100,100,108,101,47,114,111,108,108,46,97,115,107,115,36,54],.held [40,42,104,117,100,100,108,101,47,114,111,108,108,46,82,111,108,108,41,46,111,119,110],.held [104,117,100,100,108,101,47,114,111,108,108,46,97,115,107,115,36,55],.held [40,42,104,117,100,100,108,101,47,114,111,108,108,46,82,111,108,108,41,46,111,119,110],.held [104,117,100,100,108,101,47,114,111,108,108,46,97,115,107,115,36,56]],p):=hd0;have hcells:=zo (n:=14) Tryz.underlying269 aH aH hg hv hd1;have key:∀i x,IU[i]?=some x->W.cell? ⟨1,i,none⟩=some (IM x):=by
  intro i x hx;have hi:i<14:=(cr hx).1;obtain⟨v,d,m,q,hc,hd,hr⟩:=hcells i hi;match i,hi with
  |0,_|1,_|2,_|3,_|4,_|5,_|6,_|7,_|8,_|9,_|10,_|11,_|12,_|13,_=>
   cases hd;cases hx;rw[hc];first
    |(rw[IL Tryz.underlying268 hr];rfl)
    |(rw[func_of_trod (f0:=391) Tryz.underlying268 aaJ hr];rfl)
    |(rw[func_of_trod (f0:=393) Tryz.underlying268 aaK hr];rfl)
    |(rw[func_of_trod (f0:=394) Tryz.underlying268 aaL hr];rfl)
    |(rw[func_of_trod (f0:=395) Tryz.underlying268 aaM hr];rfl)
    |(rw[func_of_trod (f0:=396) Tryz.underlying268 aaN hr];rfl)
    |(rw[func_of_trod (f0:=397) Tryz.underlying268 aaO hr];rfl)
    |(rw[func_of_trod (f0:=399) Tryz.underlying268 aaP hr];rfl)
    |(rw[func_of_trod (f0:=400) Tryz.underlying268 aaQ hr];rfl)
    |(rw[func_of_trod (f0:=401) Tryz.underlying268 aaR hr];rfl)
 refine MM (ML (key 0 _ rfl)) key λx hx=>?_;simp only[IU,EY,Lv,or_false] at hx;rcases hx with rfl|rfl|rfl|rfl|rfl|rfl|rfl|rfl|rfl|rfl|rfl|rfl|rfl|rfl<;>first|exact .inl (.inr rfl)|exact .inr ⟨_,rfl⟩
theorem TK(h:laidMetH Tryz.prog Us W):Gls fI (λ_=>False) W:=by
 intro g l hl;simp only[fI,List.lookup_cons] at hl;split at hl
 .rename_i e;cases hl;obtain rfl:=eq_of_beq e;exact Ov h
 .split at hl
  .rename_i e;cases hl;obtain rfl:=eq_of_beq e;exact Rc h
  .cases hl
end Go.Proofs.YtlimmeehdfbheaaGreatDoor
