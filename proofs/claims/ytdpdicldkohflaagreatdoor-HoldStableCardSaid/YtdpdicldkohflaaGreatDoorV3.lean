/- Texts. -/
import Derived.Test.YtdpdicldkohflaaGreatDoorNB
namespace Go.Proofs.YtdpdicldkohflaaGreatDoor
set_option linter.unusedSectionVars false
set_option linter.unusedVariables false
set_option linter.unusedSimpArgs false
open Go.RowKit Tryz
attribute [local irreducible] Tr dz Gp
variable (gl:CB)
variable {K V α:Type}{label:CY}{l seen:Br}{a b i k kk n pub r s:Nat}{o:Bq}{L:List (Nat×Bool)}{x:Int}{srt:Bp}{m:FM K V}{e:K×V×Nat}{R:Ad}
noncomputable abbrev OZ:Code:=bq 111012 (ai Tryz.f253)
abbrev WL(l:Br):Fr:=[(1,aE cW l),(5,.ref 0 0)]
noncomputable abbrev TO(l:Br)(st:LoopState):Option Ob:=some ⟨0,[],some (.loop st none 40 (WL l) (Dy OZ) (Dz OZ) (DA OZ))⟩
noncomputable abbrev K5(l:Br)(s k:Nat)(a b:LoopState):aQ:=[(0,Ku s k),(1,TO l a),(2,Kx 1),(3,PB b)]
def Z3(d j c s k w:Nat){s':Nat}{gl:CB}(h:kE s k w=some s')
  (hin:w6 (vi [0,j]) [(0,Ku s k),(j,Ci [w])] [(0,Ku s k),(1,Ci [w])] 0 [0,j]:=by exact⟨⟨rfl,.inl rfl⟩,⟨rfl,.inl rfl⟩,trivial⟩) (hlt:[0,j].all (λi=>Nat.blt i c)=true:=by kernel_rfl) (hnd:decide [0,j].Nodup=true:=by kernel_rfl) (hgs:[G.ref 0 0,.rsl j 0 1].map (qg (vi [0,j]) 20)=[.ref 0 0,.rsl 1 0 1]:=by kernel_rfl):HP:=
 hmc d [0,j] c [(0,Ku s k),(j,Ci [w])] [.ref 0 0,.rsl j 0 1] [(0,⟨387,[uG s',uG (k1 k)],none⟩),(1,⟨23,[w].flatMap cW,none⟩)] (Qy gl h) hin ⟨⟨rfl,.inl rfl⟩,⟨rfl,.inl rfl⟩,trivial⟩ hlt hnd hgs (by rfl) (by rfl) (by rfl)
theorem ES(h:x6 label l=some r):ba prog gl 253 [sG label,aE cW l] (uG r):=by
 unfold x6 at h;obtain⟨t,et,h⟩:=bS h;obtain⟨a,o,h⟩:=bS h;obtain⟨s1,e1,h⟩:=bS h;obtain⟨c,p,h⟩:=bS h;refine Gh func253 ?_;refine pO 111012 (s0 40 gl [(1,aE cW l),(5,.ref 0 0),(15,ny t)] [(0,Ku (wU (ah label)) 0)] 1 0) [hL 10 label,AH 11 (C8 (ah label)),hcB 14 et,hf 15 (Ic gl t)] [hc (aG 20 (ny t) aH)] ?_ [] [(0,0)];refine Xt (fst:=[]) (cap:=[.ptr [aE cY t] 0]) Tryz.f335 func335 ?_;refine YR [1,1,2] (s0 29 gl [(2,.ref 2 0),(8,Kv t)] [(2,Kx 1),(1,some ⟨0,[],some (.loop .ready none 40 [(1,aE cW l),(5,.ref 0 0),(15,ny t)] (Dy OZ) (Dz OZ) (DA OZ))⟩),(0,Ku (wU (ah label)) 0)] 3 2) [hf 8 (Ie gl t)] ?_;refine Xt (fst:=[]) (cap:=[.ptr [aE cY t] 0,.ptr [iG 7] 0]) Tryz.f388 func388 ?_;refine pN (λx:(Nat×Nat)×Int=>(s0 31 gl [(0,.yld 3),(1,.ptr [aE cY t] 0),(2,.ptr [iG 7] 0),(4,iG x.2)] (K5 l x.1.1 x.1.2 .ready .ready) 4 4)) 1122 o [] [] (λB x w hs k5 e=>?_) [] r4;unfold F1 at hs;rcases bC hs with⟨b1,hs⟩|⟨b1,hs⟩
 .obtain⟨q0,e0,hs⟩:=bS hs;obtain⟨y,d,hs⟩:=bS hs;obtain⟨q,u,hs⟩:=bS hs;obtain⟨w,ew,hs⟩:=bS hs;obtain⟨s,es,hs⟩:=bS hs;obtain rfl:=Bo hs;refine pO 112210210 (s0 31 gl [(0,.yld 3),(1,.ptr [aE cY t] 0),(2,.ptr [iG 7] 0),(4,iG x.2),(5,iG (iI 7 (ah q0)))] (K5 l x.1.1 x.1.2 .ready .ready) 4 4) [hr 9 b1,AH 16 (rY.sufZI e0)] [] ?_ [] r4;refine Xw (i:=3) (j:=10) (n:=29) (t:=0) (t2:=0) (pe:=none) (fr:=[(2,.ref 2 0)]) (ps:=Dy Kw) (a:=Dz Kw) (b:=DA Kw) (s1:=(s0 31 gl (Ti t q x.2 (iI 7 (ah q0))) (K5 l x.1.1 x.1.2 .ready .ready) 4 4))
   (s3:=(s0 31 gl ([(30,bG false),(29,bG true)]++Ti t q x.2 (iI 7 (ah q0))) ((3,PB .ready)::K5 l s (k1 x.1.2) .ready .busy) 4 4))
   (K5 l s (k1 x.1.2) .ready .busy) 4 (.loop .ready none 29 [(2,.ref 2 0)] (Dy Kw) (Dz Kw) (DA Kw)) [hcv 28 (g:=aE cY q) (Yp rY d u)] [] ?_ ?_
  .refine C9 .normal ⟨29,gl,[(2,.ref 2 0),(3,aE cY q)],K5 l x.1.1 x.1.2 .ready .ready,4,4,true⟩ [] [] (Xv Tryz.f335 ?_ rfl) [] r4;refine Ix 12101 ⟨29,gl,[(2,.ref 2 0),(4,uG w)],K5 l x.1.1 x.1.2 .ready .busy,4,4,true⟩ ?_ λkk=>?_
   .refine pO 12110 ⟨29,gl,[(2,.ref 2 0),(4,uG w)],K5 l x.1.1 x.1.2 .ready .busy,4,4,true⟩ [] [] ?_ [] r4;refine Xw (i:=1) (j:=2) (n:=40) (t:=0) (t2:=0) (pe:=none) (fr:=WL l) (ps:=Dy OZ) (a:=Dz OZ) (b:=DA OZ) (s1:=⟨29,gl,[(26,uG w),(25,.yld 1),(2,.ref 2 0),(4,uG w)],K5 l x.1.1 x.1.2 .ready .busy,4,4,true⟩)
     (s3:=⟨29,gl,[(28,bG false),(27,bG true),(26,uG w),(25,.yld 1),(2,.ref 2 0),(4,uG w)],(1,TO l .ready)::K5 l s (k1 x.1.2) .busy .busy,4,4,true⟩)
     (K5 l s (k1 x.1.2) .busy .busy) 4 (.loop .ready none 40 (WL l) (Dy OZ) (Dz OZ) (DA OZ)) [] [] ?_ ?_
    .refine C9 .normal ⟨40,gl,[(5,.ref 0 0),(6,uG w)],K5 l x.1.1 x.1.2 .ready .busy,4,4,true⟩ [] [] (Xv Tryz.f253 ?_ rfl) [] r4;exact C9 .normal ⟨40,gl,[],K5 l s (k1 x.1.2) .busy .busy,4,4,true⟩ [Z3 (gl:=gl) 19 4 5 x.1.1 x.1.2 w es] [] (by grind [jy]) [] r4
    .exact C9 .normal ⟨29,gl,[],K5 l s (k1 x.1.2) .ready .busy,4,4,true⟩ [] [] (by grind [jy]) [] r4
   refine pN (λz:Nat×Int=>⟨29,gl,[(2,.ref 2 0),(4,uG z.1),(10,aE cY q),(11,iG (ah q)),(12,iG z.2)],K5 l x.1.1 x.1.2 .ready .busy,4,4,true⟩) [2,1,0,1,2,2] ew [] [] (λC z v hz k m=>?_) [] r4;unfold oD at hz;rcases bC hz with⟨c1,hz⟩|⟨c1,hz⟩
   .obtain⟨f,e1,hz⟩:=bS hz;obtain⟨n1,e2,hz⟩:=bS hz;obtain rfl:=Bo hz;exact jw [hr 13 c1,AH 15 (rY.ixZ e1),AH 16 (rY.p1Z tY e1),AH 19 (C8 (f.toNat:Int)),hV 22 (sM (P:=prog) (t:=23) (wU (f.toNat:Int)) e2),hV 23 (jc (P:=prog) (t:=23) z.1 (HB (wU (f.toNat:Int)) n1))] [] (k _ rfl) [] r4
   .obtain rfl:=Bo hz;obtain rfl:=m _ rfl;exact yl 12101 [hr 13 c1] [] kk [] r4
  .exact jw [] [] (k5 _ rfl) [] r4
 .obtain rfl:=Bo hs;obtain rfl:=e _ rfl;refine C9 .normal (s0 31 gl [] [(0,Ku x.1.1 x.1.2),(1,TO l .ready),(3,PB .ready)] 4 4) [hr 9 b1] [] (Xu ?_ rfl) [] r4;refine C9 .normal (s0 29 gl [] [(0,Ku x.1.1 x.1.2),(1,TO l .ready)] 2 2) [] [] (Xu ?_ rfl) [] [(0,0),(1,1)];refine pN (λx:(Nat×Nat)×Int=>(s0 40 gl [(5,.ref 0 0),(25,aE cW l),(26,iG (ah l)),(27,iG x.2)] [(0,Ku x.1.1 x.1.2)] 1 0)) 111110122 p [AH 22 (C8 (ah l)),Z3 (gl:=gl) 24 2 3 x.1.1 x.1.2 (wU (ah l)) e1] [] (λB z v hz k5 e=>?_) [] [(0,0)];unfold F3 at hz;rcases bC hz with⟨c1,hz⟩|⟨c1,hz⟩
  .obtain⟨y,d,hz⟩:=bS hz;obtain⟨n,A,hz⟩:=bS hz;obtain⟨s,es,hz⟩:=bS hz;obtain rfl:=Bo hz;exact jw [hr 28 c1,AH 29 (rW.ixZ d),AH 30 (rW.p1Z tW d),hf 32 (dr gl A),Z3 (gl:=gl) 34 1 2 z.1.1 z.1.2 n es] [] (k5 _ rfl) [] [(0,0)]
  .obtain rfl:=Bo hz;obtain rfl:=e _ rfl;exact Ar [hr 28 c1,Z3 (gl:=gl) 37 1 2 z.1.1 z.1.2 0 h] []
def LS(label b:CY):Fo:=(Cj b).bind λw=>(aT 8 w [wU (ah b)]).bind λl=>x6 label l
theorem xd{b:CY}(h:LS label b=some r):ba prog gl 157 [sG label,aE cY b] (uG r):=by unfold LS at h;obtain⟨w,ew,h⟩:=bS h;obtain⟨l,el',h⟩:=bS h;refine Gh func157 ?_;exact Ar [hf 7 (Ic gl b),ho 8 [ny b] [] (Ky gl ew) (by grind [cW]),AH 11 (C8 (ah b)),dg 13 rW el',hq 14 [sG label,aE cW l] [hc (rW.al l)] (ES gl h)] []
section
def Xy(o:Bq):CY:=[]++[o.By,o.Seq,o.Kind,o.At].flatMap aV
def Xz(o:Bq):CY:=Xy o++(aV (o.Past.length:Int)++o.Past.flatMap sN)
def XA(o:Bq):CY:=Xz o++[o.Device,o.Old,o.Member,o.Role].flatMap aV
def XB(o:Bq):CY:=XA o++(aV (o.Path.length:Int)++o.Path.flatMap ke)
def XC(o:Bq):CY:=XB o++sN o.Epoch
def XD(o:Bq):CY:=XC o++aV o.N
def XE(o:Bq):CY:=XD o++tM o.Body
def XG(o:Bq):CY:=XE o++(aV (o.Refs.length:Int)++o.Refs.flatMap nb)
def XH(o:Bq):CY:=XG o++sN o.Of
def Ox(o:Bq):CY:=XH o++(aV (o.Guards.length:Int)++o.Guards.flatMap aV)
def Oy(o:Bq):CY:=Ox o++[o.Need,o.Wait].flatMap aV
def Oz(o:Bq):CY:=Oy o++(aV (o.Boxes.length:Int)++o.Boxes.flatMap uT)
def OA(o:Bq):CY:=Oz o++nb o.Pub
def IP(o:Bq):CY:=OA o++(aV (o.Hist.length:Int)++o.Hist.flatMap lX)
theorem Afd(o:Bq):IP o=qc o:=by simp only[Xy,Xz,XA,XB,XC,XD,XE,XG,XH,Ox,Oy,Oz,OA,IP,qc,uU,List.flatMap_cons,List.flatMap_nil,List.append_assoc,KS,OS]
theorem aaU(o:Bq):[]++[o.By,o.Seq,o.Kind,o.At].flatMap aV=Xy o:=rfl
theorem Zd(o:Bq):Xy o++(aV (o.Past.length:Int)++o.Past.flatMap sN)=Xz o:=rfl
theorem Ze(o:Bq):Xz o++[o.Device,o.Old,o.Member,o.Role].flatMap aV=XA o:=rfl
theorem Zf(o:Bq):XA o++(aV (o.Path.length:Int)++o.Path.flatMap ke)=XB o:=rfl
theorem Zg(o:Bq):XB o++sN o.Epoch=XC o:=rfl
theorem Zh(o:Bq):XC o++aV o.N=XD o:=rfl
theorem Zi(o:Bq):XD o++tM o.Body=XE o:=rfl
theorem Zj(o:Bq):XE o++(aV (o.Refs.length:Int)++o.Refs.flatMap nb)=XG o:=rfl
theorem Zk(o:Bq):XG o++sN o.Of=XH o:=rfl
theorem Vd(o:Bq):XH o++(aV (o.Guards.length:Int)++o.Guards.flatMap aV)=Ox o:=rfl
theorem Ve(o:Bq):Ox o++[o.Need,o.Wait].flatMap aV=Oy o:=rfl
theorem Vf(o:Bq):Oy o++(aV (o.Boxes.length:Int)++o.Boxes.flatMap uT)=Oz o:=rfl
theorem Vg(o:Bq):Oz o++nb o.Pub=OA o:=rfl
theorem Vh(o:Bq):OA o++(aV (o.Hist.length:Int)++o.Hist.flatMap lX)=IP o:=rfl
def Afe(d k j c:Nat){gl:CB}{fid:FuncId}{L:Bp}{l r:CY}(h:jg prog gl fid [.rsl 3 0 L.length,.ref 0 0] [(0,bx),(1,oO 2 l),(2,oY l),ob 3 3 (L.flatMap cZ)] [0,1,k,j].length (.tup []) [(0,bx),(1,oO 4 r),(4,oY r),ob 3 3 (L.flatMap cZ)] 5)
  (hin:w6 (vi [0,1,k,j]) [(0,bx),(1,oO k l),(k,oY l),(j,some ⟨3,L.flatMap cZ,none⟩)] [(0,bx),(1,oO 2 l),(2,oY l),ob 3 3 (L.flatMap cZ)] 0 [0,1,k,j]:=by exact⟨⟨rfl,.inl rfl⟩,⟨rfl,.inl rfl⟩,⟨rfl,.inr ⟨rfl,rY.imm _⟩⟩,⟨rfl,.inr ⟨rfl,rZ.imm _⟩⟩,trivial⟩) (a:oI (GV [0,1,k,j] c) [(0,bx),(1,oO 4 r),(4,oY r),ob 3 3 (L.flatMap cZ)] [(0,bx),(1,oO c r),(2,none),ob 3 3 (L.flatMap cZ),(4,oY r)]:=by exact⟨⟨rfl,.inl rfl⟩,⟨rfl,.inl rfl⟩,⟨rfl,.inr ⟨rfl,rZ.imm _⟩⟩,⟨rfl,.inr ⟨rfl,rY.imm _⟩⟩,trivial⟩)
  (hlt:[0,1,k,j].all (λi=>Nat.blt i c)=true:=by kernel_rfl) (hnd:decide [0,1,k,j].Nodup=true:=by kernel_rfl) (hgs:[G.rsl j 0 L.length,.ref 0 0].map (qg (vi [0,1,k,j]) 20)=[.rsl 3 0 L.length,.ref 0 0]:=by kernel_rfl):HP:=
 tN d [0,1,k,j] c [(0,bx),(1,oO k l),(k,oY l),(j,some ⟨3,L.flatMap cZ,none⟩)] [.rsl j 0 L.length,.ref 0 0] [(0,bx),(1,oO c r),(2,none),ob 3 3 (L.flatMap cZ),(4,oY r)] h hin a hlt hnd hgs (by rfl) (by rfl) (by rfl)
attribute [local irreducible] Xy Xz XA XB XC XD XE XG XH Ox Oy Oz OA IP
set_option maxHeartbeats 2000000 in
theorem MP(ho:Bg o):jg prog gl 158 [.agg (aJ o)] [] 0 (.ref 0 0) [(0,oO 1 (qc o)),(1,oY (qc o))] 2:=by
 have hI:∀l:Bp,(∀z∈l,z∈[o.By,o.Seq,o.Kind,o.At,o.Device,o.Old,o.Member,o.Role,o.N,o.Need,o.Wait])->∀z∈l,c8 z:=by grind [Bg.ints]
 have h14:=yY ho;rw[<-Afd] at h14;have h13:(OA o).length<=50000000:=by grind [Vh]
 have h12:(Oz o).length<=50000000:=by grind [Vg]
 have h11:(Oy o).length<=50000000:=by grind [Vf]
 have h10:(Ox o).length<=50000000:=by grind [Ve]
 have h9:(XH o).length<=50000000:=by grind [Vd]
 have h8:(XG o).length<=50000000:=by grind [Zk]
 have h7:(XE o).length<=50000000:=by grind [Zj]
 have h6:(XD o).length<=50000000:=by grind [Zi]
 have h5:(XC o).length<=50000000:=by grind [Zh]
 have h4:(XB o).length<=50000000:=by grind [Zg]
 have h3:(XA o).length<=50000000:=by grind [Zf]
 have h2:(Xz o).length<=50000000:=by grind [Ze]
 have h1:(Xy o).length<=50000000:=by grind [Zd]
 rw[<-Afd o];refine pP func158 ?_;refine pO 111110 (s0 94 gl [(1,.ptr (aJ o) 0),(3,.ref 0 0),(4,.clo (.func 256) [] [.ref 0 0]),(5,.ref 3 0)] (sW 2 []) 4 0) [] [hc (eB (gs:=aJ o) aH),hc (rY.imm [])] ?_ (kd:=[(2,.row),(999999,.clo)]);exact Hf .ret (s0 94 gl [(2,.ref 0 0)] [(0,oO 1 (IP o)),(1,oY (IP o))] 2 0) [.ref 0 0] [Afe 20 2 4 5 (L:=[o.By,o.Seq,o.Kind,o.At]) (CS gl (hI _ aC) aC aC aC (aaU o)),
  IN 26 5 6 [.ref 1 0,aE aj o.Past,.clo (.func 92) [.ref 1 0] []] (Rj gl ho.past ho.nPast aa (Zd o)),
  Afe 37 6 7 8 (L:=[o.Device,o.Old,o.Member,o.Role]) (CS gl (hI _ aC) aC aC aa (Ze o)),
  IN 42 8 9 [.ref 1 0,aE bY o.Path,.clo (.func 260) [] [.ref 0 0,.ref 3 0]] (Ro gl ho.path ho.nPath aa (Zf o)),
  gD 46 1 9 10 [.ref 1 0,.agg (aj o.Epoch)] (kh gl ho.epoch aa (Zg o)),
  gD 50 1 10 11 [.ref 1 0,iG o.N] (cA gl (ho.ints _ aC) aa (Zh o)),
  XY 54 o.Body,gD 55 1 11 12 [.ref 1 0,sG o.Body] (CR gl (by have:=ho.nBody;omega) aa (Zi o)),
  IN 61 12 13 [.ref 1 0,aE cW o.Refs,.clo (.func 91) [.ref 1 0] []] (TM gl ho.refs ho.nRefs aa (Zj o)),
  gD 65 1 13 14 [.ref 1 0,.agg (aj o.Of)] (kh gl ho.of_ aa (Zk o)),
  IN 71 14 15 [.ref 1 0,aE cZ o.Guards,.clo (.func 89) [.ref 1 0] []] (TN gl ho.guards ho.nGuards aa (Vd o)),
  Afe 78 15 16 17 (L:=[o.Need,o.Wait]) (CS gl (hI _ aC) aC aC aa (Ve o)),
  IN 83 17 18 [.ref 1 0,aE cz o.Boxes,.clo (.func 257) [] [.ref 0 0]] (IO_q gl ho.boxes ho.nBoxes aa (Vf o)),
  gD 87 1 18 19 [.ref 1 0,uG o.Pub] (JT gl ho.pub aa (Vg o)),
  IN 92 19 20 [.ref 1 0,aE bp o.Hist,.clo (.func 266) [] [.ref 0 0]] (Rp gl ho.hist ho.nHist aa (Vh o))]
  [hc (el (IP o)),hc (rY.imm (IP o))]
attribute [local irreducible] qc
def Rs(o:Bq):Option Ab:=(LS [111,112] (qc o)).bind λv=>some ⟨o.By,o.Seq,v⟩
theorem TP(ho:Bg o){r:Ab}(h:Rs o=some r):ba prog gl 77 [.agg (aJ o)] (.agg (aj r)):=by
 unfold Rs at h;obtain⟨v,ev,h⟩:=bS h;obtain rfl:=Bo h;have h14:=yY ho;refine Gh func77 ?_;refine pO [1,0] (s0 12 gl [(1,.ptr (aJ o) 0),(2,.ref 0 0)] [ob 0 25 [iG 0,iG 0,uG 0]] 1 0) [] [hc (eB (gs:=aJ o) aH)] ?_ [] [(0,1)];exact Ar [tN 8 [] 1 [] [.agg (aJ o)] [(0,oO 2 (qc o)),(1,oY (qc o))] (MP gl ho) trivial ⟨⟨rfl,.inl rfl⟩,⟨rfl,.inr ⟨rfl,rY.imm _⟩⟩,trivial⟩,
  tN 9 [1,2] 3 [(1,oO 2 (qc o)),(2,oY (qc o))] [.ref 1 0] [(0,oO 2 (qc o)),(1,oY (qc o)),(2,oY (qc o))] (rS gl (l:=qc o) aa) ⟨⟨rfl,.inl rfl⟩,⟨rfl,.inr ⟨rfl,rY.imm _⟩⟩,trivial⟩ ⟨⟨rfl,.inl rfl⟩,⟨rfl,.inr ⟨rfl,rY.imm _⟩⟩,⟨rfl,.inr ⟨rfl,rY.imm _⟩⟩,trivial⟩,
  hq 10 [sG [111,112],aE cY (qc o)] [hc (rY.al (qc o))] (xd gl ev)] []
end
theorem K6(a b:Nat):wU ((a:Int)*(b:Int))=a*b%18446744073709551616:=by rw[<-Int.natCast_mul,gP]
theorem me(a b:Nat):wU ((a:Int)+(b:Int))=(a+b)%18446744073709551616:=by rw[<-Int.natCast_add,gP]
theorem Zl(h:b<=a):wU ((a:Int)-(b:Int))=(a-b)%18446744073709551616:=by rw[<-Int.natCast_sub h,gP]
abbrev PF:Nat:=2305843009213693951
theorem TR(a:Nat):Jq a 61=a/2305843009213693952:=rfl
theorem WM(a:Nat):HB a 3=a*8%18446744073709551616:=rfl
theorem TS(h:a<18446744073709551616):bD a 2305843009213693951=a%2305843009213693952:=by unfold bD;rw[M6 h];exact Nat.and_two_pow_sub_one_eq_mod a 61
theorem E5(h:n<18446744073709551616):eR n=some (n%PF):=by
 unfold eR;rw[TS h,TR,me];have e:(n%2305843009213693952+n/2305843009213693952)%18446744073709551616=n%2305843009213693952+n/2305843009213693952:=M6 aa;rw[e];by_cases h1:2305843009213693951<=n%2305843009213693952+n/2305843009213693952
 .rw[C5 aa,ax,Zl h1];grind
 grind
theorem Gx{x y:Nat}(hx:x<18446744073709551616)(hy:y<18446744073709551616):sL x y=some (x*y/18446744073709551616,x*y%18446744073709551616):=by unfold sL;rw[C5 ⟨hx,hy⟩];rfl
theorem Rt(a b:Nat)(hi lo:Nat)(h:hi*18446744073709551616+lo=a%2305843009213693951*(b%2305843009213693951))(hl:lo<18446744073709551616):hi<288230376151711744/\(lo%2305843009213693951+hi*8)%2305843009213693951=a*b%2305843009213693951:=by have h1:a%2305843009213693951*(b%2305843009213693951)<=2305843009213693950*2305843009213693950:=Nat.mul_le_mul aa aa;rw[Nat.mul_mod a b,<-h];omega
theorem PG(ha:a<18446744073709551616)(hb:b<18446744073709551616):jZ a b=some (a*b%PF):=by
 unfold jZ;rw[E5 ha,aL,E5 hb,aL];have hA:a%PF<2305843009213693951:=Nat.mod_lt _ Cd;have hB:b%PF<2305843009213693951:=Nat.mod_lt _ Cd;rw[Gx aa aa,aL];dsimp only;have hlo:a%PF*(b%PF)%18446744073709551616<18446744073709551616:=Nat.mod_lt _ Cd;rw[E5 hlo,aL];obtain⟨h1,h2⟩:=Rt a b (a%PF*(b%PF)/18446744073709551616) (a%PF*(b%PF)%18446744073709551616) (Nat.div_add_mod' _ _) hlo;rw[WM,me];generalize a%PF*(b%PF)/18446744073709551616=hi at*;generalize a%PF*(b%PF)%18446744073709551616=lo at*;have e:(lo%PF+hi*8%18446744073709551616)%18446744073709551616=lo%PF+hi*8:=by grind
 grind [E5]
theorem IQ(ha:a<18446744073709551616)(hb:b<18446744073709551616):wG a b=some ((a+b)%PF):=by unfold wG;have hA:a%PF<2305843009213693951:=Nat.mod_lt _ Cd;have hB:b%PF<2305843009213693951:=Nat.mod_lt _ Cd;rw[E5 ha,aL,E5 hb,aL,me,E5 (Nat.mod_lt _ Cd),aL];congr 1;show(a%2305843009213693951+b%2305843009213693951)%18446744073709551616%2305843009213693951=(a+b)%2305843009213693951;omega
theorem ll:oQ a b=some (a*b%PF):=rfl
theorem yq:qi a b=some ((a+b)%PF):=by unfold qi;rw[me];congr 1;show _=(a+b)%2305843009213693951;omega
section
variable {σ1 σ2 ρ1 ρ2:Type}
def Sim(R:σ1->σ2->Prop)(Q:ρ1->ρ2->Prop):σ1⊕ρ1->σ2⊕ρ2->Prop
 | .inl a,.inl b=>R a b
 | .inr a,.inr b=>Q a b
 |_,_=>False
theorem MQ{s1:σ1->Option (σ1⊕ρ1)}{s2:σ2->Option (σ2⊕ρ2)}(R:σ1->σ2->Prop)(Q:ρ1->ρ2->Prop)(h:∀a b,R a b->∀v,s2 b=some v->∃u,s1 a=some u/\Sim R Q u v):∀(n:Nat) (a:σ1) (b:σ2) (r:ρ2),R a b->KN s2 n b=some r->∃q,KN s1 n a=some q/\Q q r
 |0,a,b,r,_,hl=>by cases hl
 |n+1,a,b,r,hR,hl=>by
  unfold KN at hl⊢;cases hb:s2 b with
  |none=>rw[hb] at hl;cases hl
  |some v=>
   rw[hb] at hl;obtain⟨u,hu,hs⟩:=h a b hR v hb;rw[hu];cases u with
   |inl a'=>
    cases v with
    |inl b'=>exact MQ R Q h n a' b' r hs hl
    |inr b'=>exact hs.elim
   |inr a'=>
    cases v with
    |inl b'=>exact hs.elim
    |inr b'=>dsimp only at hl⊢;cases hl;exact⟨a',rfl,hs⟩
theorem Rv{s1:σ1->Option (σ1⊕ρ1)}{s2:σ2->Option (σ2⊕ρ2)}(R:σ1->σ2->Prop)(Q:ρ1->ρ2->Prop)(h:∀a b,R a b->∀v,s2 b=some v->∃u,s1 a=some u/\Sim R Q u v){a:σ1}{b:σ2}{r:ρ2}(hR:R a b)(hl:AQ s2 b=some r):∃q,AQ s1 a=some q/\Q q r:=MQ R Q h _ a b r hR hl
end
theorem WN(h:n<18446744073709551616):bD n 1=n%2:=by grind [bD]
theorem WO(n:Nat):Jq n 1=n/2:=rfl
theorem CT(n:Nat):n%PF<2305843009213693951:=Nat.mod_lt _ Cd
theorem nf(ha:a<18446744073709551616)(hn:n<18446744073709551616)(h:iK a n=some r):j7 a n=some r:=by
 unfold iK at h;obtain⟨x,hx,h⟩:=bS h;cases h;unfold j7;rw[E5 ha,aL];have hst:∀(s t:Nat×Nat×Nat),(λ(s:Nat×Nat×Nat) (t:Nat×Nat×Nat)=>t=(s.2.2,s.1,s.2.1)/\s.1<2305843009213693951/\s.2.1<18446744073709551616/\s.2.2<2305843009213693951) s t->∀v,r6 t=some v->∃u,mW s=some u/\Sim (λ(s:Nat×Nat×Nat) (t:Nat×Nat×Nat)=>t=(s.2.2,s.1,s.2.1)/\s.1<2305843009213693951/\s.2.1<18446744073709551616/\s.2.2<2305843009213693951) (λa b=>a=b) u v:=by
  intro s t hR v hv;obtain⟨b,m,o⟩:=s;obtain⟨rfl,k1,k2,k3⟩:=hR;dsimp only at k1 k2 k3;unfold r6 at hv;unfold mW;dsimp only at hv⊢;rw[WN k2,WO];have hm:∀x y:Nat,x<2305843009213693951->y<2305843009213693951->jZ x y=some (x*y%PF):=by grind [PG]
  rcases bC hv with⟨c,hv⟩|⟨c,hv⟩
  .rw[c,ax];obtain⟨j,hj,hv⟩:=bS hv;obtain⟨w,hw,hv⟩:=bS hv;cases hv;rw[ll] at hw;cases hw;refine⟨.inl (b*b%PF,m/2,j),?_,?_⟩
   .grind [ll]
   .refine⟨?_,CT _,by show m/2<_;omega,?_⟩
    .show(j,b*b%PF,wU ((m/2:Nat):Int))=(j,b*b%PF,m/2);rw[gP,M6 (a:=m/2) aa]
    grind [ll]
  .rw[c,Be];cases hv;exact⟨_,rfl,rfl⟩
 obtain⟨q,h1,h2⟩:=Rv _ _ hst (a:=(a%PF,n,1)) (by grind) hx;rw[h1,h2]
def DB:Nat->Nat->Br->Fo
 |s,_,[]=>some s
 |s,k,w::r=>(kE s k w).bind λs'=>DB s' (k+1) r
def Z4(s k w:Nat):Nat:=(37*s%PF+(w+(k+1))%PF)%PF
theorem CU{s k w:Nat}(hs:s<18446744073709551616)(hw:w<9223372036854775808)(hk:k<4611686018427387904):∃r,iK (Z4 s k w) 17=some r/\kE s k w=some r/\r<2305843009213693951:=by
 obtain⟨r,h1,h2⟩:=ka (Z4 s k w) (n:=17) Cd;refine⟨r,h1,?_,h2⟩;have hp:Z4 s k w<2305843009213693951:=CT _;unfold kE;rw[PG Cd hs,aL];have e:wU ((w:Int)+((wU ((k:Int)+((1:Nat):Int)):Nat):Int))=w+(k+1):=by rw[me k 1,me,M6 (show k+1<18446744073709551616 by omega),M6 aa]
 grind [E5,IQ,nf,Z4]
theorem Vi:∀(l:Br) (s k:Nat),s<18446744073709551616->(∀w∈l,w<9223372036854775808)->k+l.length<4611686018427387904->T (DB s k l) λr=>r<18446744073709551616
 |[],s,k,hs,_,_=>⟨s,rfl,hs⟩
 |w::r,s,k,hs,hw,hk=>by simp only[List.length_cons] at hk;obtain⟨s',h1,h2,h3⟩:=CU (s:=s) (k:=k) (w:=w) hs (hw w aC) aa;unfold DB;exact .eqb h2 (Vi r s' (k+1) aa (by grind) aa)
theorem Au:∀(l m:Br) (s k:Nat),DB s k (l++m)=(DB s k l).bind λs'=>DB s' (k+l.length) m
 |[],m,s,k=>rfl
 |w::r,m,s,k=>by show(kE s k w).bind (λs'=>DB s' (k+1) (r++m))=((kE s k w).bind λs'=>DB s' (k+1) r).bind _;rw[Option.bind_assoc];congr 1;funext s';rw[Au r m s' (k+1),List.length_cons,Nat.add_assoc,Nat.add_comm 1]
def xi:CY->Nat
 |[]=>0
 |x::r=>x.toNat+256*xi r
theorem Gy:∀l:CY,xi l<256^l.length
 |[]=>Cd
 |x::r=>by have:=Gy r;grind [UInt8.toNat_lt,xi]
theorem MR:∀(l m:CY),xi (l++m)=xi l+256^l.length*xi m
 |[],m=>by simp[xi]
 |x::r,m=>by show x.toNat+256*xi (r++m)=x.toNat+256*xi r+256^(r.length+1)*xi m;rw[MR r m,Nat.pow_succ,Nat.mul_add,Nat.mul_comm (256^r.length) 256,Nat.mul_assoc,Nat.add_assoc]
theorem WP{l:CY}(h:l.length<=7):xi l<72057594037927936:=Nat.lt_of_lt_of_le (Gy l) (LC (Nat.pow_le_pow_right Cd h) Cd)
def ws(b:CY):Br:=match b with
 |[]=>[]
 |x::r=>xi ((x::r).take 7)::ws ((x::r).drop 7)
 termination_by b.length
 decreasing_by simp;omega
theorem Gz{b:CY}(h:0<b.length):ws b=xi (b.take 7)::ws (b.drop 7):=by cases b<;>grind [ws]
theorem vc:ws []=[]:=by rw[ws]
theorem CV:∀(n:Nat) (b:CY),b.length<=n->(ws b).length<=b.length
 |0,b,h=>by grind [vc]
 |n+1,b,h=>by
  by_cases hb:0<b.length
  .rw[Gz hb,List.length_cons];have:=CV n (b.drop 7) (by rw[List.length_drop];omega);rw[List.length_drop] at this;omega
  grind [vc]
theorem Rx:∀(n:Nat) (b:CY),b.length<=n->∀w∈ws b,w<9223372036854775808
 |0,b,h,w,hw=>by grind [vc]
 |n+1,b,h,w,hw=>by
  by_cases hb:0<b.length
  .rw[Gz hb] at hw;rcases EY.1 hw with rfl|hw
   .grind [WP]
   .exact Rx n (b.drop 7) (by rw[List.length_drop];omega) w hw
  grind [vc]
theorem WQ{a b k:Nat}(h:a<2^k):a|||b*2^k=a+b*2^k:=by grind [Nat.two_pow_add_eq_or_of_lt,Nat.mul_comm]
theorem Zm(k:Nat):256^k=2^(8*k):=by rw[Nat.pow_mul]
theorem IR{q:CY}(hq:q.length<=7):AQ (oD q) (0,0)=some (xi q):=by
 refine T.eq (T.loop (λs=>∃i:Nat,s.2=(i:Int)/\i<=q.length/\s.1=xi (q.take i)) (λs=>q.length-s.2.toNat) (by grind [xi]) (by show q.length-_<_;omega) ?_);rintro⟨w,j⟩ ⟨i,rfl,h2,rfl⟩;unfold oD;dsimp only;refine .dec (λh=>?_) λh=>?_
 .unfold ah at h;have hi:i<q.length:=aa;refine .bind (.ix aa (x:=q[i]) (by rw[Fu,EA hi]) ?_);have e8:wI (8*(i:Int))=((8*i:Nat):Int):=by grind [bM]
  refine .bind (x:=wJ _) ⟨8*i,by grind [wJ],?_⟩;refine .some ⟨⟨i+1,aq aa,hi,?_⟩,?_⟩
  .show gM (xi (q.take i)) (HB (wU ((q[i].toNat:Nat):Int)) (8*i))=xi (q.take (i+1));have hx:=q[i].toNat_lt;have hl:=Gy (q.take i);rw[MG,Nat.min_eq_left h2,Zm] at hl;have hp:(2:Nat)^(8*i)<=2^48:=Nat.pow_le_pow_right Cd aa;rw[List.take_succ_eq_append_getElem hi,MR,MG,Nat.min_eq_left h2,Zm];unfold gM HB;rw[gP,Nat.min_eq_left (by omega:8*i<=64),M6 (a:=q[i].toNat) aa];have hb:q[i].toNat*2^(8*i)<=255*2^48:=Nat.mul_le_mul aa hp;grind [xi,WQ,Nat.mul_comm]
  grind [aq]
 .unfold ah at h;have hi:i=q.length:=aa;refine .some ?_;show xi (q.take i)=_;rw[hi,EG]
theorem WR:iI 7 (n:Int)=((min 7 n:Nat):Int):=by unfold iI;omega
theorem yr{b:CY}(hb:b.length<=1099511627776)(hi:i<b.length):mc b (i:Int)=some (b.drop i)/\tq b (wI ((i:Int)+iI 7 (ah (b.drop i))))=some (b.take (i+min 7 (b.length-i)))/\mc (b.take (i+min 7 (b.length-i))) (i:Int)=some ((b.drop i).take 7)/\wI ((i:Int)+7)=((i+7:Nat):Int):=by
 refine⟨?_,?_,?_,?_⟩
 .grind [mc]
 .grind [ah,WR,bM,tq]
 .unfold mc;grind
 grind [bM]
theorem Ry{b:CY}(hi:i<b.length):ws (b.drop i)=xi ((b.drop i).take 7)::ws (b.drop (i+7)):=by grind [Gz,List.drop_drop]
theorem Vj{b:CY}:((b.take 7)).length<=7:=by rw[MG];omega
theorem WS{b:CY}(hb:b.length<=1099511627776)(hk:k+b.length<4611686018427387904)(h:DB s k (ws b)=some r):AQ (F1 b) ((s,k),0)=some (r,k+(ws b).length):=by
 refine T.eq (T.loop (λx=>∃i:Nat,x.2=(i:Int)/\i<=b.length+6/\x.1.2<=k+i/\DB x.1.1 x.1.2 (ws (b.drop i))=some r/\x.1.2+(ws (b.drop i)).length=k+(ws b).length) (λx=>b.length+7-x.2.toNat) (by grind) (by show b.length+7-_<_;omega) ?_);rintro⟨⟨s1,a⟩,z⟩ ⟨i,rfl,h2,h3,h4,h5⟩;dsimp only at h3 h4 h5;unfold F1;dsimp only;refine .dec (λh=>?_) λh=>?_
 .unfold ah at h;have hi:i<b.length:=aa;obtain⟨c1,c2,c3,c4⟩:=yr hb hi;rw[Ry hi] at h4 h5;refine .eqb c1 (.eqb c2 (.eqb c3 (.eqb (IR Vj) ?_)));unfold DB at h4;obtain⟨s',e1,e2⟩:=bS h4;refine .eqb e1 (.some ⟨⟨i+7,c4,aa,?_,?_,?_⟩,?_⟩)
  .show k1 a<=_;unfold k1;rw[me a 1,M6 aa];omega
  .show DB s' (k1 a) _=_;unfold k1;rw[me a 1,M6 aa];exact e2
  .show k1 a+_=_;unfold k1;rw[me a 1,M6 aa,<-h5,List.length_cons];omega
  grind
 .unfold ah at h;have e:b.drop i=[]:=List.drop_eq_nil_of_le aa;rw[e,vc] at h4 h5;refine .some ?_;show(s1,a)=_;rw[<-h5,<-Bo h4];rfl
theorem OB{b:CY}(hb:b.length<=1099511627776):Cj b=some (ws b):=by
 have hln:=CV _ b (Dl _);refine T.eq (T.loop (λx=>∃i:Nat,x.2=(i:Int)/\i<=b.length+6/\x.1++ws (b.drop i)=ws b) (λx=>b.length+7-x.2.toNat) ⟨0,rfl,aa,rfl⟩ (by show b.length+7-_<_;omega) ?_);rintro⟨acc,z⟩ ⟨i,rfl,h2,h3⟩;dsimp only at h3;unfold xZ;dsimp only;refine .dec (λh=>?_) λh=>?_
 .unfold ah at h;have hi:i<b.length:=aa;obtain⟨c1,c2,c3,c4⟩:=yr hb hi;rw[Ry hi] at h3;have hl:=congrArg List.length h3;rw[UI,List.length_cons] at hl;refine .eqb c1 (.eqb c2 (.eqb c3 (.eqb (IR Vj) (.bind (.app cq (.some ⟨⟨i+7,c4,aa,?_⟩,?_⟩))))));all_goals grind
 .unfold ah at h;have e:b.drop i=[]:=List.drop_eq_nil_of_le aa;rw[e,vc,KS] at h3;exact .some h3
theorem zq{b:CY}(hb:b.length<=1099511627776):LV b=some (ws b):=by
 have hln:=CV _ b (Dl _);unfold LV;refine T.eq (.bind (T.loop (λx=>∃i:Nat,x.2=(i:Int)/\i<=b.length+6/\x.1++ws (b.drop i)=ws b) (λx=>b.length+7-x.2.toNat) ⟨0,rfl,aa,rfl⟩ (by show b.length+7-_<_;omega) ?_));rintro⟨acc,z⟩ ⟨i,rfl,h2,h3⟩;dsimp only at h3;unfold qh;dsimp only;refine .dec (λh=>?_) λh=>?_
 .unfold ah at h;have hi:i<b.length:=aa;have c4:=(yr hb hi).2.2.2;rw[Ry hi] at h3;have hl:=congrArg List.length h3;rw[UI,List.length_cons] at hl;generalize hq:(b.drop i).take 7=q at h3;have hq7:q.length=min 7 (b.length-i):=by rw[<-hq,MG,List.length_drop]
  have em:iI (ah b) (((i+7:Nat):Int))=((i+q.length:Nat):Int):=by unfold iI ah;omega
  have inner:AQ (my b (acc,(i:Int))) (0,wI (iI (ah b) (wI ((i:Int)+7))-1))=some (xi q):=by
   rw[c4,em,bM aa aa];refine T.eq (T.loop (λx=>∃j:Nat,x.2=((i+j:Nat):Int)-1/\j<=q.length/\x.1=xi (q.drop j)) (λx=>(x.2+1-i).toNat) ⟨q.length,aC,Dl _,by rw[List.drop_length];rfl⟩ (by grind) ?_);rintro⟨w,y⟩ ⟨j,rfl,c,rfl⟩;unfold my;dsimp only;refine .dec (λhh=>?_) λhh=>?_
   .have hj:0<j:=aa;have hjq:j-1<q.length:=aa;have hx:b[i+(j-1)]?=some q[j-1]:=by grind
    refine .bind (.ix aa (x:=q[j-1]) (by rw[<-hx];congr 1;omega) (.some ⟨⟨j-1,?_,aa,?_⟩,?_⟩))
    .grind [bM]
    .show wU (((wU (((xi (q.drop j):Nat):Int)*((256:Nat):Int)):Nat):Int)+((wU ((q[j-1].toNat:Nat):Int):Nat):Int))=xi (q.drop (j-1));rw[List.drop_eq_getElem_cons hjq,show j-1+1=j by omega];show _=q[j-1].toNat+256*xi (q.drop j);have h6:=Gy (q.drop j);rw[List.length_drop] at h6;have h7:(256:Nat)^(q.length-j)<=256^6:=Nat.pow_le_pow_right Cd aa;have hx:=q[j-1].toNat_lt;rw[K6,gP q[j-1].toNat,me,M6 (a:=xi (q.drop j)*256) aa,M6 (a:=q[j-1].toNat) aa,M6 aa];omega
    grind [bM]
   .obtain rfl:j=0:=aa;exact .some rfl
  refine .eqb inner (.bind (.app cq (.some ⟨⟨i+7,c4,aa,?_⟩,?_⟩)));all_goals grind
 .unfold ah at h;have e:b.drop i=[]:=List.drop_eq_nil_of_le aa;rw[e,vc,KS] at h3;exact .some (.some h3)
theorem WT(hl:l.length<=1099511627776)(hw:∀w∈l,w<18446744073709551616)(hk:k+l.length<4611686018427387904)(h:DB s k (l.map (·%PF))=some r):AQ (F3 l) ((s,k),0)=some (r,k+l.length):=by
 refine T.eq (T.loop (λx=>∃i:Nat,x.2=(i:Int)/\i<=l.length/\x.1.2=k+i/\DB x.1.1 x.1.2 ((l.drop i).map (·%PF))=some r) (λx=>l.length-x.2.toNat) (by grind) (by show l.length-_<_;omega) ?_);rintro⟨⟨s1,a⟩,z⟩ ⟨i,rfl,h2,h3,h4⟩;dsimp only at h3 h4;subst h3;unfold F3;dsimp only;refine .dec (λh=>?_) λh=>?_
 .unfold ah at h;have hi:i<l.length:=aa;rw[List.drop_eq_getElem_cons hi,Fe] at h4;unfold DB at h4;obtain⟨s',e1,e2⟩:=bS h4;refine .bind (.ix aa (x:=l[i]) (by rw[Fu,EA hi]) ?_);refine .eqb (E5 (hw _ (List.getElem_mem hi))) (.eqb e1 (.some ⟨⟨i+1,aq aa,hi,?_,?_⟩,?_⟩))
  .show k1 (k+i)=_;unfold k1;rw[me (k+i) 1,M6 aa];omega
  .show DB s' (k1 (k+i)) _=_;unfold k1;rw[me (k+i) 1,M6 aa];exact e2
  grind [aq]
 .unfold ah at h;obtain rfl:i=l.length:=aa;rw[List.drop_length] at h4;refine .some ?_;show(s1,k+l.length)=_;rw[<-Bo h4]
theorem TT{w:Nat}(hs:s<18446744073709551616)(hw:w<9223372036854775808)(hk:k<4611686018427387904)(h:kE s k w=some r):((oQ 37 s).bind λa=>(qi w (k+1)).bind λb=>(qi a b).bind λc=>iK c 17)=some r:=by obtain⟨r',h1,h2,_⟩:=CU hs hw hk;rw[h] at h2;cases h2;rw[ll,aL,yq,aL,yq,aL];exact h1
theorem K7(hl:l.length<=2199023255552)(hw:∀w∈l,w<9223372036854775808)(hs:s<18446744073709551616)(h:DB s 0 l=some r):AQ (qj l) (s,0)=some r:=by
 refine T.eq (T.loop (λx=>∃i:Nat,x.2=(i:Int)/\i<=l.length/\x.1<18446744073709551616/\DB x.1 i (l.drop i)=some r) (λx=>l.length-x.2.toNat) ⟨0,rfl,aa,hs,h⟩ (by show l.length-_<_;omega) ?_);rintro⟨s1,z⟩ ⟨i,rfl,h2,h3,h4⟩;dsimp only at h3 h4;unfold qj;dsimp only;refine .dec (λh=>?_) λh=>?_
 .unfold ah at h;have hi:i<l.length:=aa;rw[List.drop_eq_getElem_cons hi] at h4;unfold DB at h4;obtain⟨s',e1,e2⟩:=bS h4;have a:=hw _ (List.getElem_mem hi);obtain⟨r',_,e3,e4⟩:=CU h3 a (show i<4611686018427387904 by omega);rw[e1] at e3;cases e3;have key:=TT h3 a aa e1;have ek:wU (wI ((i:Int)+1))=i+1:=by rw[aq aa,gP];omega
  rw[ek];obtain⟨b,m1,key⟩:=bS key;obtain⟨c,m2,key⟩:=bS key;obtain⟨d,m3,key⟩:=bS key;refine .eqb m1 (.bind (.ix aa (x:=l[i]) (by rw[Fu,EA hi]) (.eqb m2 (.eqb m3 (.eqb key (.some ⟨⟨i+1,aq aa,hi,by show s'<_;omega,e2⟩,?_⟩))))));show l.length-(wI ((i:Int)+1)).toNat<l.length-((i:Int)).toNat;rw[aq aa];omega
 .unfold ah at h;obtain rfl:i=l.length:=aa;rw[List.drop_length] at h4;refine .some ?_;show s1=r;exact Bo h4
theorem K8{v:Br}(hv:v.length+l.length<=2199023255552):AQ (qk l) (v,0)=some (v++l.map (·%PF)):=by
 refine T.eq (T.loop (λx=>∃i:Nat,x.2=(i:Int)/\i<=l.length/\x.1=v++(l.take i).map (·%PF)) (λx=>l.length-x.2.toNat) (by grind) (by show l.length-_<_;omega) ?_);rintro⟨acc,z⟩ ⟨i,rfl,h2,rfl⟩;unfold qk;dsimp only;refine .dec (λh=>?_) λh=>?_
 .unfold ah at h;have hi:i<l.length:=aa;refine .bind (.ix aa (x:=l[i]) (by rw[Fu,EA hi]) (.bind (.app cq (.some ⟨⟨i+1,aq aa,hi,?_⟩,?_⟩))));all_goals grind [List.take_succ_eq_append_getElem,aq]
 .unfold ah at h;obtain rfl:i=l.length:=aa;rw[EG];exact .some rfl
theorem ET{label:CY}{l:Br}(h1:label.length<=1000)(h2:l.length<=1099511627776)(hw:∀w∈l,w<18446744073709551616):T (x6 label l) λr=>yA label l=some r/\r<18446744073709551616:=by
 have hln:=CV _ label (Dl _);have hwl:∀w∈ws label++[l.length]++l.map (·%PF)++[0],w<9223372036854775808:=λw hm=>by
  simp only[Jn,List.mem_singleton,EH] at hm;rcases hm with((hm|rfl)|⟨x,_,rfl⟩)|rfl
  .exact Rx _ label (Dl _) w hm
  all_goals grind
 obtain⟨r,e,hr⟩:=Vi (ws label++[l.length]++l.map (·%PF)++[0]) label.length 0 aa hwl cq;have ew:wU (ah label)=label.length:=by unfold ah;rw[gP];omega
 have el':wU (ah l)=l.length:=by unfold ah;rw[gP];omega
 have eb:Gk label=some label:=by unfold Gk;rw[BB aa]
 refine⟨r,?_,?_,hr⟩
 .have e:=e;rw[Au,Au,Au] at e;obtain⟨a3,e,b⟩:=bS e;obtain⟨a2,e,f2⟩:=bS e;obtain⟨a1,e,f1⟩:=bS e;unfold x6;rw[eb,aL,ew,el',WS aa aa e,aL];have f1':kE a1 (0+(ws label).length) l.length=some a2:=by unfold DB at f1;obtain⟨q,q1,a⟩:=bS f1;rw[q1];exact a
  dsimp only;rw[f1',aL];have ek:k1 (0+(ws label).length)=0+(ws label++[l.length]).length:=by unfold k1;rw[me _ 1,M6 aa,UI];simp
  rw[ek,WT h2 hw cq f2,aL];dsimp only;unfold DB at b;obtain⟨q,q1,a⟩:=bS b;rw[show 0+(ws label++[l.length]).length+l.length=0+(ws label++[l.length]++l.map (·%PF)).length by simp;omega,q1];exact a
 .unfold yA;rw[eb,aL,zq aa,aL,el',ew];grind [aT,K8,K7]
theorem xe{label b:CY}(h1:label.length<=1000)(h2:b.length<=1073741824):T (LS label b) λr=>jI label b=some r/\r<18446744073709551616:=by
 have hln:=CV _ b (Dl _);unfold LS jI;rw[OB aa,aL,zq aa,aL];have el':wU (ah b)=b.length:=by unfold ah;rw[gP];omega
 have a1:aT 8 (ws b) [b.length]=some (ws b++[b.length]):=by grind [aT]
 rw[el',a1,aL,aL];refine(ET h1 cq λw hw=>?_).mono (by grind);simp only[Jn,List.mem_singleton] at hw;rcases hw with hw|rfl
 .have:=Rx _ b (Dl _) w hw;omega
 .omega
theorem TU(h:Bg o):T (Rs o) λi=>pV o=some i:=by obtain⟨i,e,e1,e2,e3,_⟩:=wN h;obtain⟨v,f1,f2,_⟩:=xe (label:=[111,112]) (b:=qc o) Cd (by have:=yY h;omega);refine⟨i,?_,e⟩;unfold Rs;rw[f1,aL];rw[f2] at e3;cases e3;rw[<-e1,<-e2]
def xh(pub:Nat)(c:Nat)(b:CY):Option (Nat×Nat):=
 (LS [115,105,103,110,101,100] b).bind λv1=>(x6 [115,105,103] ([c,pub,v1]:Br)).bind λa=>some (v1,a)
theorem I7{r_:Nat}{b:CY}{r:Nat×Nat}(h:xh pub r_ b=some r):ba prog gl 268 [uG pub,uG r_,aE cY b] (.tup [uG r.1,uG r.2]):=by unfold xh at h;refine Gh func268 ?_;obtain⟨v1,e2,h⟩:=bS h;obtain⟨a,e4,h⟩:=bS h;obtain rfl:=Bo h;exact Ar [hf 9 (xd gl e2),hq 15 [sG [115,105,103],aE cW ([r_,pub,v1]:Br)] [hc (rW.al ([r_,pub,v1]:Br))] (ES gl e4)] []
def lq(pub:Nat)(b:CY)(s:Ya):Fl:=
 ((iB pub 1 2305843009213693950).bind λa=>bif(!a)then(some true)else((iB s.R 1 2305843009213693950).bind λc=>bif(!c)then(some true)else((iB s.S 0 2305843009213693949).bind λd=>some (!d)))).bind λg=>bif g then(some false)else((xh pub s.R b).bind λh=>(j7 37 s.S).bind λi=>(j7 pub h.2).bind λe=>(jZ s.R e).bind λf=>some (decide ((i:Int)=(f:Int))))
theorem GF{b:CY}{s:Ya}{r:Bool}(h:lq pub b s=some r):ba prog gl 159 [uG pub,aE cY b,.agg (yy s)] (bG r):=by
 unfold lq at h;refine Gh func159 ?_;refine pO 11100 (s0 46 gl [(0,uG pub),(1,aE cY b),(5,.ref 0 0),(7,.clo (.func 267) [] [])] [ob 0 63 (yy s)] 1 0) [] [hc (aG 20 (.clo (.func 267) [] []) aH)] ?_;obtain⟨j,e4,h⟩:=bS h;refine Ix 11100 (s0 46 gl [(0,uG pub),(1,aE cY b),(5,.ref 0 0),(27,bG j)] [ob 0 63 (yy s)] 1 0) ?_ λkk=>?_
 .rcases bC h with⟨b5,h⟩|⟨b5,h⟩
  .rw[b5];obtain rfl:=Bo h;exact Ar [] []
  .rw[b5];obtain⟨q,e7,h⟩:=bS h;obtain⟨t,k,h⟩:=bS h;obtain⟨l,f,h⟩:=bS h;obtain⟨m,g,h⟩:=bS h;obtain rfl:=Bo h;exact Ar [hf 33 (I7 gl e7),hf 38 (mX gl k),hf 43 (mX gl f),hf 44 (j0 gl g)] []
 obtain⟨n,c,e4⟩:=bS e4;rcases bC e4 with⟨a,e4⟩|⟨a,e4⟩
 .obtain rfl:=Bo e4;exact yl 11100 [hf 12 (Gf gl c),hr 13 a] [] kk
 .obtain⟨o,e,e4⟩:=bS e4;rcases bC e4 with⟨d,e4⟩|⟨d,e4⟩
  .obtain rfl:=Bo e4;exact yl 11100 [hf 12 (Gf gl c),hr 13 a,hf 18 (Gf gl e),hr 20 d] [] kk
  .obtain⟨p,i,e4⟩:=bS e4;obtain rfl:=Bo e4;exact yl 11100 [hf 12 (Gf gl c),hr 13 a,hf 18 (Gf gl e),hr 20 d,hf 25 (Gf gl i)] [] kk
def rU(o:Bq):List (Nat×Bool):=[(1,decide (o.Device≠0)),(2,decide (o.Old≠0)),(4,decide (o.Member≠0)),(8,decide (o.Role≠0)),(16,decide (0<ah o.Path)),(32,!decide (o.Epoch=⟨0,0,0⟩)),(64,decide (o.N≠0)),(128,decide (0<ah o.Body)),(256,decide (0<ah o.Refs)),(512,!decide (o.Of=⟨0,0,0⟩)),(1024,decide (0<ah o.Guards)),(2048,decide (o.Need≠0)),(4096,decide (o.Wait≠0)),(8192,decide (0<ah o.Boxes)),(16384,decide ((o.Pub:Int)≠((0:Nat):Int))),(32768,decide (0<ah o.Hist))]
def K9(q:Nat×Bool):Value×G:=(.int .i64 (.ofNat q.1),bG q.2)
def La:List (Nat×Bool)->Nat
 |[]=>0
 |q::r=>(bif q.2 then q.1 else 0)|||La r
noncomputable def WU:Hv:=IF (bq 11100 (ai Tryz.f148))
noncomputable abbrev stP(o:Bq):St:=(s0 75 gl [(1,.ptr (aJ o) 0),(3,iG 0)] [] 0 0)
def hsP(o:Bq):List HP:=[hV 26 (dy o.Epoch ⟨0,0,0⟩ rfl),hV 41 (dy o.Of ⟨0,0,0⟩ rfl)]
theorem Zn(o:Bq):WU.filterMap (mM (iH (stP gl o) (U3 prog (bK (hsP o)) (stP gl o) WU)))=(rU o).map K9:=aH
theorem sY(h:∀q∈L,q.1<1048576){q:Value×G}(hq:q∈L.map K9):∃m b,q.1= .int .i64 (.ofNat m)/\m<1048576/\q.2=bG b:=by obtain⟨x,hx,rfl⟩:=EH.1 hq;exact⟨x.1,x.2,rfl,h x hx,rfl⟩
theorem MS(i:Nat):∀(l:List (Nat×Bool)),(La l).testBit i=true↔∃q∈l,(bif q.2 then q.1 else 0).testBit i=true
 |[]=>by simp[La]
 |q::r=>by unfold La;rw[Nat.testBit_or,Bool.or_eq_true,MS i r];simp
theorem EU(i:Nat):∀(es:oE),(Ck es).testBit i=true↔∃e∈es,(If e.1 e.2.1).testBit i=true
 |[]=>by simp[Ck]
 |e::r=>by unfold Ck;rw[Nat.testBit_or,Bool.or_eq_true,EU i r];simp
theorem IS(q:Nat×Bool):If (K9 q).1 (K9 q).2=bif q.2 then q.1 else 0:=by obtain⟨n,b⟩:=q;cases b<;>rfl
theorem Lb{es:oE}{clock:Nat}(h:ZP (L.map K9) es clock):Ck es=La L:=by
 refine Nat.eq_of_testBit_eq λi=>?_;rw[Bool.eq_iff_iff,EU,MS];constructor
 .grind [ZP,IS]
 .rintro⟨q,hq,hb⟩;obtain⟨n,hn⟩:=h.sup (K9 q) (by grind);grind [IS]
abbrev O3:Bk:=87
abbrev Sj(clock:Nat)(seen:Br):Option Ob:=some ⟨O3,[],some (.iter (some 0) clock seen clock)⟩
abbrev Vk(es:oE)(clock:Nat):Option Ob:=some ⟨O3,[],some (.map es clock)⟩
theorem Zo{P:Bu}{t:Bk}(ha:a<1048576)(hb:b<1048576):∀p q:DC,b8 P .or t p q (iG (a:Int)) (.lit (.int .i64 (.ofNat b)))=some (iG ((a|||b:Nat):Int)):=by grind [SS]
theorem TV(o:Bq):ba prog gl 148 [.agg (aJ o)] (iG ((La (rU o):Nat):Int)):=by
 refine Gh func148 ?_;refine pO 11100 (stP gl o) [] [hc (eB (gs:=aJ o) aH)] ?_ [] [];refine dMl O3 3 4 74 (hsP o) λes clock hM=>?_;rw[show IF (bq 11100 (ai Tryz.f148))=WU from rfl,Zn gl o] at hM;have hb:∀q∈rU o,q.1<1048576:=λq hq=>by simp only[rU,EY,LD,or_false] at hq;rcases hq with rfl|rfl|rfl|rfl|rfl|rfl|rfl|rfl|rfl|rfl|rfl|rfl|rfl|rfl|rfl|rfl<;>exact D5 rfl
 have him:∀q∈es,bB q.2.1:=by grind [ZP,sY,mN]
 have hk:∀e∈es,Wa e.1<2^20:=λe he=>by obtain⟨m,b,e1,e2,_⟩:=sY hb (hM.sub e he);have e1:e.1=_:=e1;rw[e1];exact e2
 have hlt:∀seen,iC seen es<1048576:=λseen=>Ig hk;refine dNx 11101 ?_;refine dRe (s0 75 gl [(3,iG 0),(64,.ref 1 0)] [(1,Sj clock []),(0,Vk es clock)] 2 0) [hc him] ?_ [] [(0,0),(1,1)];refine dMw 64 65 66 0 (iti:=1) (mi:=0) (clock:=clock) (since:=clock) (T:=O3) (ty:=O3) (es:=es) (λseen=>(s0 75 gl [(3,iG ((iC seen es:Nat):Int)),(64,.ref 1 0)] [(1,Sj clock seen),(0,Vk es clock)] 2 0)) (λ_=>True) trivial hM.lt rfl ?_ (λseen=>rfl) (λseen=>rfl) (by grind) (λB seen k g n _ hm hn a=>?_) (λseen _ hs=>?_)
 .rw[Ex];exact Le.refl _
 .obtain⟨m,b,e1,e2,e3⟩:=sY hb (hM.sub _ hm);have e1:k=_:=e1;have e3:g=_:=e3;subst e1 e3;have hge:jr [(1,Sj clock (seen++[n])),(1,Sj clock seen),(0,Vk es clock)] (.ref 1 0)=some (.tup [db (.int .i64 (.ofNat m)),bG b]):=yo (iti:=1) (mi:=0) (since:=clock) (clock:=clock) (T:=O3) (ty:=O3) (seen:=seen) rfl rfl hM.nd hm;have a:=a trivial;rw[Ev hn hm hM.nd] at a;cases b
  .exact jw [YT 67 hge] [hc him] (show B (s0 75 gl [(3,iG ((iC seen es:Nat):Int)),(64,.ref 1 0)] [(1,Sj clock (seen++[n])),(0,Vk es clock)] 2 0) by rw[show iC seen es|||If (.int .i64 (.ofNat m)) (bG false)=iC seen es from Nat.or_zero _] at a;exact a) [] [(0,0),(1,1)]
  .exact jw [YT 67 hge,hV 73 (Zo (P:=prog) (t:=3) (hlt seen) e2)] [hc him] a [] [(0,0),(1,1)]
 .have e:iC seen es=La (rU o):=by rw[Ew hs,Lb hM]
  rw[<-e];exact Ar [] []
def xj(n a b:Int):Bool:=decide (a<=n)&&decide (n<=b)
theorem ib(n a b:Int):FV n a b=some (xj n a b):=by grind [FV,xj]
theorem inT(n a b:Int)(h:xj n a b=true):FV n a b=some true:=by rw[ib,h]
def WV(n:Nat):Bool:=decide ((n:Int)<((2305843009213693951:Nat):Int))
def Rz(i:Ab):Bool:=xj i.By 1 12&&(xj i.Seq 1 2147483647&&WV i.Sum)
theorem GA(n:Nat):Kq n=some (WV n):=by unfold Kq WV;rfl
theorem Zp(x y z:Bool):(((some x).bind λb=>bif b then((some y).bind λc=>bif c then((some z).bind λa=>some a)else(some false))else(some false)).bind λd=>some d)=some (x&&(y&&z)):=by cases x<;>cases y<;>rfl
theorem pS(i:Ab):Al i=some (Rz i):=by have h:=Zp (xj i.By 1 12) (xj i.Seq 1 2147483647) (WV i.Sum);rw[<-ib,<-ib,<-GA] at h;exact h
def Z5(n:Nat):Bool:=decide (((1:Nat):Int)<=(n:Int))&&decide ((n:Int)<((2305843009213693951:Nat):Int))
theorem Zq(y z:Bool):((bif y then(some z)else(some false)).bind λa=>some a)=some (y&&z):=by cases y<;>rfl
theorem rV(n:Nat):rJ n=some (Z5 n):=Zq _ _
def GB(o:Bq):Bool:=bif o.Kind=3 then(xj o.Member 1 8&&decide (o.Device=0))||(decide (o.Member=0)&&decide (o.Device≠0))else xj o.Member 1 8
def GH(o:Bq):Int:=bif o.Kind=3 then 0 else 1
def Sk(o:Bq):Int:=bif o.Kind=1 then 0 else 1
def Sl(o:Bq):Int:=bif o.Kind=1 then 20 else ah o.Guards
def OC(o:Bq):List (Nat×Bool):=[(1,xj o.Device (GH o) 12),(2,xj o.Old 1 12),(4,GB o),(8,xj o.Role 1 3),(64,xj o.N 0 2147483647),(4096,xj o.Wait 0 2147483647),(2048,xj o.Need (Sk o) (Sl o)),(32,Rz o.Epoch),(512,Rz o.Of),(16384,Z5 o.Pub)]
noncomputable def RA:Hv:=IF (bq 111111100 (ai Tryz.f149))
noncomputable abbrev Zr(o:Bq)(k:Nat):St:=(s0 136 gl [(1,iG (k:Int)),(2,.ptr (aJ o) 0),(5,iG (GH o)),(6,iG (Sk o)),(7,iG (Sl o)),(8,bG (GB o))] [] 0 0)
def hsR(o:Bq):List HP:=[hf 62 (eE gl (ib o.Device (GH o) 12)),hf 65 (eE gl (ib o.Old 1 12)),hf 69 (eE gl (ib o.Role 1 3)),hf 72 (eE gl (ib o.N 0 2147483647)),hf 75 (eE gl (ib o.Wait 0 2147483647)),hf 80 (eE gl (ib o.Need (Sk o) (Sl o))),hf 83 (pH gl (pS o.Epoch)),hf 86 (pH gl (pS o.Of)),hf 89 (iz gl (rV o.Pub))]
theorem aaY(o:Bq)(k:Nat):RA.filterMap (mM (iH (Zr gl o k) (U3 prog (bK (hsR gl o)) (Zr gl o k) RA)))=(OC o).map K9:=aH
theorem WW{P:Bu}{t:Bk}(ha:a<1048576)(hb:b<1048576):∀p q:DC,b8 P .and t p q (iG (a:Int)) (.lit (.int .i64 (.ofNat b)))=some (iG ((a&&&b:Nat):Int)):=λp q=>by have e:=V8 (P:=P) (t:=t) (a:Int) (b:Int) p q;refine Eq.trans e ?_;have h1:a&&&b<=a:=Nat.and_le_left;unfold Yn;rw[BitVec.toNat_and,BitVec.toNat_ofInt,BitVec.toNat_ofInt];grind [IntKind.bits,IntKind.wrap]
structure AlG (o:Bq) (k:Nat):Prop where
 by_:xj o.By 1 12=true
 seq:xj o.Seq 1 2147483647=true
 at_:xj o.At 0 2147483647=true
 ents:∀q∈OC o,k&&&q.1≠0->q.2=true
 guards:N9 o.Guards (λz=>uR z)=some true
 refs:N9 o.Refs (λz=>Kq z)=some true
 past:N9 o.Past (λz=>Al z)=some true
 path:N9 o.Path (λz=>uP z)=some true
 boxes:N9 o.Boxes (λz=>wB z)=some true
 hist:N9 o.Hist (λz=>uQ z)=some true
theorem IT(hk:k<1048576)(h:AlG o k):ba prog gl 149 [.agg (aJ o),iG (k:Int)] (bG true):=by
 refine Gh func149 ?_;refine pO 1111100 (s0 136 gl [(1,iG (k:Int)),(2,.ptr (aJ o) 0),(5,iG 1),(6,iG 1),(7,iG (ah o.Guards)),(8,bG (xj o.Member 1 8))] [] 0 0) [hf 16 (eE gl (inT _ _ _ h.by_)),hf 21 (eE gl (inT _ _ _ h.seq)),hf 27 (eE gl (inT _ _ _ h.at_)),hf 35 (eE gl (ib o.Member 1 8))] [hc (eB (gs:=aJ o) aH)] ?_ [] [];refine Ix 111110 (s0 136 gl [(1,iG (k:Int)),(2,.ptr (aJ o) 0),(5,iG (GH o)),(6,iG 1),(7,iG (ah o.Guards)),(8,bG (GB o))] [] 0 0) ?_ λkk=>?_;rotate_left
 .unfold GH GB at kk;cases e:decide (o.Kind=3) with
  |false=>rw[e] at kk;exact yl 111110 [hr 38 e] [] kk [] []
  |true=>
   rw[e] at kk;simp only[ax] at kk;generalize hm0:xj o.Member 1 8=m0 at kk⊢;cases hD:decide (o.Device=0) with
   |false=>have hD':decide (o.Device≠0)=true:=C5 (Mu hD);rw[hD,hD'] at kk;cases hM:decide (o.Member=0)<;>rw[hM] at kk<;>cases m0<;>exact yl 111110 [hr 38 e,hr 43 hD,hr 48 hM,hr 52 hD'] [] kk [] []
   |true=>have hD':decide (o.Device≠0)=false:=Dk λh=>h (DS hD);rw[hD,hD'] at kk;cases hM:decide (o.Member=0)<;>rw[hM] at kk<;>cases m0<;>exact yl 111110 [hr 38 e,hr 43 hD,hr 48 hM,hr 52 hD'] [] kk [] []
 refine pO 11111100 (s0 136 gl [(1,iG (k:Int)),(2,.ptr (aJ o) 0),(5,iG (GH o)),(6,iG 1),(7,iG (ah o.Guards)),(8,bG (GB o))] [] 0 0) [] [] ?_ [] [];refine Ix 1111110 (Zr gl o k) ?_ λkk=>?_;rotate_left
 .unfold Zr Sk Sl at kk;cases e:decide (o.Kind=1)<;>rw[e] at kk<;>exact yl 1111110 [hr 57 e] [] kk [] []
 refine pO 111111100 (Zr gl o k) [] [] ?_ [] [];refine dMl O3 3 4 43 (hsR gl o) λes clock hM=>?_;rw[show IF (bq 111111100 (ai Tryz.f149))=RA from rfl,aaY gl o k] at hM;have hb:∀q∈OC o,q.1<1048576:=λq hq=>by simp only[OC,EY,LD,or_false] at hq;grind
 have him:∀q∈es,bB q.2.1:=by grind [ZP,sY,mN]
 refine dNx 111111101 ?_;refine dRe (s0 136 gl [(1,iG (k:Int)),(2,.ptr (aJ o) 0),(91,.ref 1 0)] [(1,Sj clock []),(0,Vk es clock)] 2 0) [hc him] ?_ [] [(0,0),(1,1)];refine dMw 91 92 93 0 (iti:=1) (mi:=0) (clock:=clock) (since:=clock) (T:=O3) (ty:=O3) (es:=es) (λseen=>(s0 136 gl [(1,iG (k:Int)),(2,.ptr (aJ o) 0),(91,.ref 1 0)] [(1,Sj clock seen),(0,Vk es clock)] 2 0)) (λ_=>True) trivial hM.lt rfl (Le.refl _) (λseen=>rfl) (λseen=>rfl) (by grind) (λB seen f g n _ hm hn d=>?_) (λseen _ hs=>?_)
 .have hmem:=hM.sub _ hm;obtain⟨⟨m,b⟩,hq,a⟩:=EH.1 hmem;have e1:(.int .i64 (.ofNat m):Value)=f:=congrArg Prod.fst a;have e3:bG b=g:=congrArg Prod.snd a;subst e1 e3;have hm2:m<1048576:=hb _ hq;have hent:=h.ents _ hq;dsimp only at hent;have hge:jr [(1,Sj clock (seen++[n])),(1,Sj clock seen),(0,Vk es clock)] (.ref 1 0)=some (.tup [db (.int .i64 (.ofNat m)),bG b]):=yo (iti:=1) (mi:=0) (since:=clock) (clock:=clock) (T:=O3) (ty:=O3) (seen:=seen) rfl rfl hM.nd hm;have hVa:∀p q:DC,b8 prog .and 3 p q (iG (k:Int)) (.lit (.int .i64 (.ofNat m)))=some (iG ((k&&&m:Nat):Int)):=WW hk hm2;by_cases h0:k&&&m=0
  .exact jw [YT 94 hge,hV 99 hVa,hr 100 (show decide (((k&&&m:Nat):Int)≠0)=false from Dk aa)] [hc him] (d trivial) [] [(0,0),(1,1)]
  .obtain rfl:b=true:=hent h0;exact jw [YT 94 hge,hV 99 hVa,hr 100 (show decide (((k&&&m:Nat):Int)≠0)=true from C5 aa)] [hc him] (d trivial) [] [(0,0),(1,1)]
 .exact Ar [hz 108 [] (jf (c:=2) aH (FW gl (⟨aH,bf,eB aH,λ_ _ e=>Dw gl e⟩) h.guards) (eB aH)),
   hz 112 [] (jf (c:=2) aH (zL gl (⟨aH,bf,eB aH,λ_ _ e=>Ak gl e⟩) h.refs) (eB aH)),
   hz 117 [] (jf (c:=2) aH (Ch gl (⟨aH,bf,eB aH,λ_ _ e=>pH gl e⟩) h.past) (eB aH)),
   hz 123 [] (jf (c:=2) aH (tK gl (⟨aH,bf,eB aH,λ_ _ e=>Du gl e⟩) h.path) (eB aH)),
   hz 128 [] (jf (c:=2) aH (wA gl (⟨aH,bf,eB aH,λ_ _ e=>Cf gl e⟩) h.boxes) (eB aH)),
   hz 134 [] (jf (c:=2) aH (pY gl (⟨aH,bf,eB aH,λ_ _ e=>Dv gl e⟩) h.hist) (eB aH))] []
def nG:Bp:=[0,2064,32793,21,16,12,480,640,512,31744,8704,8705,512,33299]
def Sn(n:Nat):G:= .clo (.func n) [] []
def IU:Bn:=[.lit .nilFunc,.lit .nilFunc,Sn 434,Sn 436,.lit .nilFunc,Sn 437,Sn 438,.lit .nilFunc,Sn 439,Sn 440,Sn 442,Sn 443,Sn 442,Sn 444]
def fI:CB:=[(0,nG.flatMap cZ),(1,IU)]
theorem WX:Ac2 prog 228 3 14 1:=⟨aH,aH,aH⟩
theorem kIx{i:Int}(h:aS nG i=some x):fh prog 228 (.ptr (nG.flatMap cZ) 0) i=some (.ptr (nG.flatMap cZ) (i.toNat*1)):=WX.ix h rfl
structure Abe (o:Bq) (kk:Nat):Prop where
 lo:decide (o.Kind<1)=false
 hi:decide (13<o.Kind)=false
 kind:aS nG o.Kind=some (kk:Int)
 kb:kk<1048576
 bits:wH ((La (rU o):Nat):Int) (kk:Int)=0
 rg:AlG o kk
 long:FX o=some false
 nPast:o.Past.length<=1000000
 nGuards:o.Guards.length<=1000000
 past:∀(k:Nat) (a b:Ab),o.Past[k]?=some a->o.Past[k+1]?=some b->pE a b=some true
 guards:∀(k:Nat) (a b:Int),o.Guards[k]?=some a->o.Guards[k+1]?=some b->a<b
 create:decide (ah o.Past=0)=decide (o.Kind=1)
def Lc(l:Bb)(i:Int):Option (Int⊕Unit):=bif i<wI (ah l-1)then(aS l i).bind λa=>(aS l (wI (i+1))).bind λb=>(pE a b).bind λv=>bif v then some (.inl (wI (i+1)))else none else some (.inr ())
def Ld(l:Bp)(i:Int):Option (Int⊕Unit):=bif i<wI (ah l-1)then(aS l i).bind λa=>(aS l (wI (i+1))).bind λb=>bif a<b then some (.inl (wI (i+1)))else none else some (.inr ())
theorem Zs(h:Abe o kk):AQ (Lc o.Past) 0=some ():=by
 have hn:=h.nPast;have hw:wI (ah o.Past-1)=(o.Past.length:Int)-1:=by grind [bM,ah]
 refine T.eq (T.loop (λi=>∃k:Nat,i=(k:Int)/\k<=o.Past.length) (λi=>o.Past.length-i.toNat) (by grind) (by grind) ?_);rintro i ⟨k,rfl,hk⟩;unfold Lc;rw[hw];refine .dec (λhh=>?_) λhh=> .some rfl;have h1:k<o.Past.length:=aa;have h2:k+1<o.Past.length:=aa;have ew:wI ((k:Int)+1)=((k+1:Nat):Int):=aq aa;refine .bind (.ix aa (x:=o.Past[k]) (by grind) (.bind (.ix (by grind) (x:=o.Past[k+1]) (by grind) (.eqb (h.past k _ _ (by simp_all) (by simp_all)) (.some ⟨⟨k+1,ew,aa⟩,?_⟩)))));grind
theorem Zt(h:Abe o kk):AQ (Ld o.Guards) 0=some ():=by
 have hn:=h.nGuards;have hw:wI (ah o.Guards-1)=(o.Guards.length:Int)-1:=by grind [bM,ah]
 refine T.eq (T.loop (λi=>∃k:Nat,i=(k:Int)/\k<=o.Guards.length) (λi=>o.Guards.length-i.toNat) (by grind) (by grind) ?_);rintro i ⟨k,rfl,hk⟩;unfold Ld;rw[hw];refine .dec (λhh=>?_) λhh=> .some rfl;have h1:k<o.Guards.length:=aa;have h2:k+1<o.Guards.length:=aa;have ew:wI ((k:Int)+1)=((k+1:Nat):Int):=aq aa;refine .bind (.ix aa (x:=o.Guards[k]) (by grind) (.bind (.ix (by grind) (x:=o.Guards[k+1]) (by grind) ?_)));rw[C5 (h.guards k _ _ (by simp_all) (by simp_all)),ax];refine .some ⟨⟨k+1,ew,aa⟩,?_⟩;grind
theorem IW(h:Abe o kk):ba prog fI 75 [.agg (aJ o)] (iG 0):=by
 refine Gh func75 ?_;refine pO 111100 (s0 93 fI [(1,.ptr (aJ o) 0),(3,bG true)] [] 0 0) [hr 8 h.lo,hr 12 h.hi,hf 16 (TV fI o),AH 19 (kIx h.kind),AH 20 (rZ.p1Z tZ h.kind),hV 21 (NW (P:=prog) (t:=3) ((La (rU o):Nat):Int) (kk:Int)),hr 22 (show decide (wH ((La (rU o):Nat):Int) (kk:Int)≠0)=false from Dk λe=>e h.bits)] [hc (eB (gs:=aJ o) aH)] ?_ [] [];refine Ix 111101 (s0 93 fI [(1,.ptr (aJ o) 0),(3,bG true)] [] 0 0) ?_ λkk1=>?_;rotate_left
 .refine pN (λi:Int=>(s0 93 fI [(1,.ptr (aJ o) 0),(3,bG true),(27,iG (wI (ah o.Past-1))),(28,iG i)] [] 0 0)) 11110122 (Zs h) [] [] (λB i w hs k5 d=>?_) [] [];unfold Lc at hs;rcases bC hs with⟨b1,hs⟩|⟨b1,hs⟩
  .obtain⟨a,c,hs⟩:=bS hs;obtain⟨b,eb,hs⟩:=bS hs;obtain⟨v,ev,hs⟩:=bS hs;cases v
   .cases hs
   .obtain rfl:=Bo hs;exact jw [hr 29 b1,AH 36 (ac.ixZ c),AH 37 (ac.ptZ aW c),AH 42 (ac.ixZ eb),AH 43 (ac.ptZ aW eb),hf 44 (Hs fI ev)] [] (k5 _ rfl) [] []
  .obtain rfl:=Bo hs;exact yl 111101 [hr 29 b1] [] kk1 [] []
 refine pO 1111100 (s0 93 fI [(1,.ptr (aJ o) 0),(3,bG true)] [] 0 0) [] [] ?_ [] [];refine Ix 1111101 (s0 93 fI [(1,.ptr (aJ o) 0),(3,bG true)] [] 0 0) ?_ λkk1=>?_;rotate_left
 .refine pN (λi:Int=>(s0 93 fI [(1,.ptr (aJ o) 0),(3,bG true),(50,iG (wI (ah o.Guards-1))),(51,iG i)] [] 0 0)) 111110122 (Zt h) [] [] (λB i w hs k5 d=>?_) [] [];unfold Ld at hs;rcases bC hs with⟨b1,hs⟩|⟨b1,hs⟩
  .obtain⟨a,c,hs⟩:=bS hs;obtain⟨b,eb,hs⟩:=bS hs;rcases bC hs with⟨b2,hs⟩|⟨b2,hs⟩
   .obtain rfl:=Bo hs;exact jw [hr 52 b1,AH 59 (rZ.ixZ c),AH 60 (rZ.p1Z tZ c),AH 65 (rZ.ixZ eb),AH 66 (rZ.p1Z tZ eb),hr 67 b2] [] (k5 _ rfl) [] []
   .cases hs
  .obtain rfl:=Bo hs;exact yl 1111101 [hr 52 b1] [] kk1 [] []
 have hc:=h.create;cases e:decide (o.Kind=1) with
 |false=>rw[e] at hc;exact Ar [AH 74 (kIx h.kind),AH 75 (rZ.p1Z tZ h.kind),hf 76 (IT fI h.kb h.rg),hf 80 (Es fI h.long),hr 88 hc,hr 91 e] []
 |true=>rw[e] at hc;exact Ar [AH 74 (kIx h.kind),AH 75 (rZ.p1Z tZ h.kind),hf 76 (IT fI h.kb h.rg),hf 80 (Es fI h.long),hr 88 hc,hr 91 e] []
theorem sc1(h1:a<=n)(h2:n<=b):iB n a b=some true:=by grind [iB]
theorem TW{b:CY}{s:Ya}(hb:b.length<=1073741824)(h:jJ pub b s=some true):lq pub b s=some true:=by
 unfold jJ at h;obtain⟨g,hj,h⟩:=bS h;rcases bC h with⟨rfl,h⟩|⟨rfl,h⟩
 .cases h
 rcases bC hj with⟨c1,hj⟩|⟨c1,hj⟩
 .cases hj
 rw[show fV=some 2305843009213693950 from rfl,aL] at hj;rcases bC hj with⟨c2,hj⟩|⟨c2,hj⟩
 .cases hj
 rcases bC hj with⟨c3,hj⟩|⟨c3,hj⟩
 .cases hj
 rw[aL] at hj;rcases bC hj with⟨c4,hj⟩|⟨c4,hj⟩
 .cases hj
 rw[aL] at hj;have c5:=Bo hj;have c1:=Mu c1;have c2:=Mu c2;have c3:=Mu c3;have c4:=Mu c4;have c5:=Mu c5;obtain⟨i,h4,h⟩:=bS h;obtain⟨j,h6,h⟩:=bS h;obtain⟨k,h8,h⟩:=bS h;obtain⟨d,h10,h⟩:=bS h;have hpow:∀{a n r:Nat},n<18446744073709551616->iK a n=some r->r<2305843009213693951:=λhn e=>by obtain⟨q,e1,e2⟩:=ka _ hn;rw[e] at e1;grind
 unfold lq;rw[sc1 aa aa,aL];simp only[Bool.not_true,Be];rw[sc1 aa aa,aL];simp only[Bool.not_true,Be];rw[sc1 aa aa,aL];simp only[Bool.not_true,aL,Be];unfold Pi at h6;obtain⟨m,hm,h6⟩:=bS h6;obtain⟨e,he,h6⟩:=bS h6;cases h6;unfold Ph at hm;have hm':jI [115,105,103,110,101,100] b=some m:=by simp_all
 obtain⟨m2,f1,f2,o⟩:=xe (label:=[115,105,103,110,101,100]) (b:=b) Cd hb;obtain rfl:m2=m:=by grind
 obtain⟨e2,g1,g2,c⟩:=ET (label:=[115,105,103]) (l:=[s.R,pub,m2]) Cd aC λw hw=>by simp only[EY,LD,or_false] at hw;rcases hw with rfl|rfl|rfl<;>omega
 rw[he] at g2;cases g2;unfold xh;rw[f1,aL,g1,aL,aL,nf Cd aa h4,aL];dsimp only;rw[nf aa c h8,aL];have f:=hpow c h8;rw[PG aa aa,aL];rw[ll] at h10;simp_all
section
attribute [local irreducible] qc
theorem OD{c:DQ}(ho:Bg o)(hb:o.By=c.Device)(h:lq c.Sign (qc o) o.Sig=some true):ba prog gl 79 [.agg (bv c),.agg (aJ o)] (bG true):=by
 have h14:=yY ho;have e:decide (o.By=c.Device)=true:=C5 hb;refine Gh func79 ?_;refine pO [1,0] (s0 20 gl [(2,.ptr (bv c) 0),(3,.ptr (aJ o) 0)] [] 0 0) [] [hc (eB (gs:=bv c) aH),hc (eB (gs:=aJ o) aH)] ?_ [] [];exact Ar [hr 9 e,tN 14 [] 0 [] [.agg (aJ o)] [(0,oO 1 (qc o)),(1,oY (qc o))] (MP gl ho) trivial ⟨⟨rfl,.inl rfl⟩,⟨rfl,.inr ⟨rfl,rY.imm _⟩⟩,trivial⟩,
  tN 15 [0,1] 2 [(0,oO 1 (qc o)),(1,oY (qc o))] [.ref 0 0] [(0,oO 1 (qc o)),(1,oY (qc o)),(2,oY (qc o))] (rS gl (l:=qc o) aa) ⟨⟨rfl,.inl rfl⟩,⟨rfl,.inr ⟨rfl,rY.imm _⟩⟩,trivial⟩ ⟨⟨rfl,.inl rfl⟩,⟨rfl,.inr ⟨rfl,rY.imm _⟩⟩,⟨rfl,.inr ⟨rfl,rY.imm _⟩⟩,trivial⟩,
  hq 18 [uG c.Sign,aE cY (qc o),.agg (yy o.Sig)] [hc (rY.al (qc o))] (GF gl h)] []
end
def blT:Br:=[0,1,2,2,3,3,3,3,4,4,4,4,4,4,4,4,5,5,5,5,5,5,5,5,5,5,5,5,5,5,5,5]
def WZ(n:Nat):Nat:=blT.getD n 0
theorem RB(h:n<32):ba prog gl 311 [uG (n:Int)] (iG (WZ n:Int)):=by have e:n=0\/n=1\/n=2\/n=3\/n=4\/n=5\/n=6\/n=7\/n=8\/n=9\/n=10\/n=11\/n=12\/n=13\/n=14\/n=15\/n=16\/n=17\/n=18\/n=19\/n=20\/n=21\/n=22\/n=23\/n=24\/n=25\/n=26\/n=27\/n=28\/n=29\/n=30\/n=31:=aa;rcases e with rfl|rfl|rfl|rfl|rfl|rfl|rfl|rfl|rfl|rfl|rfl|rfl|rfl|rfl|rfl|rfl|rfl|rfl|rfl|rfl|rfl|rfl|rfl|rfl|rfl|rfl|rfl|rfl|rfl|rfl|rfl|rfl<;>(refine Gh func311 ?_;exact Ar [] [])
theorem RC{n:Nat}(h:n<32):ba prog gl 218 [uG (n:Int)] (iG (WZ n:Int)):=by refine Gh func218 ?_;exact Ar [hf 7 (RB gl h)] []
def Lf(l:Mj)(i:Int):Option (Int⊕Unit):=bif i<ah l then(aS l i).bind λa=>(aS l (wI (i-1))).bind λb=>bif decide (0<i)&& !decide (wI (a.Device-b.Device)<0)then some (.inl (wI (i+1)))else none else some (.inr ())
def aa3(_:Unit):Option (Unit⊕Unit):=some (.inr ())
theorem Lg:AQ aa3 ()=some ():=T.eq (T.loop (λ_=>True) (λ_=>0) trivial Cd λ_ _=> .some rfl)
abbrev oC(l:Mj):Option Ob:=some ⟨145,l.flatMap bv,none⟩
abbrev zP:G:= .clo (.func 174) [] []
def xf(l:Mj):Prop:=l.length<=12/\∀(k:Nat) (a b:DQ),l[k]?=some a->l[k+1]?=some b->a.Device<=b.Device/\0<=a.Device/\b.Device<=1000000
theorem Zw{l:Mj}(h:xf l):AQ (Lf l) (wI (0+1))=some ():=by
 have hn:=h.1;refine T.eq (T.loop (λi=>∃k:Nat,i=((k+1:Nat):Int)/\k<=12) (λi=>14-i.toNat) ⟨0,rfl,aa⟩ (by show 14-_<_;omega) ?_);rintro i ⟨k,rfl,hk⟩;unfold Lf;refine .dec (λhh=>?_) λhh=> .some rfl;unfold ah at hh;have h1:k<l.length:=aa;have h2:k+1<l.length:=aa;have ew:wI (((k+1:Nat):Int)+1)=((k+1+1:Nat):Int):=aq aa;have em:wI (((k+1:Nat):Int)-1)=(k:Int):=by grind [bM]
 obtain⟨q1,a,b⟩:=h.2 k _ _ (EA h1) (EA h2);refine .bind (.ix aa (x:=l[k+1]) (by rw[Fu,EA h2]) (.bind (.ix (by rw[em];omega) (x:=l[k]) (by rw[em,Fu,EA h1]) ?_)));rw[bM (z:=l[k+1].Device-l[k].Device) aa aa,C5 (by grind),Dk (by grind)];refine .some ⟨⟨k+1,ew,aa⟩,?_⟩;grind
theorem OE{l:Mj}(h:xf l):OU prog gl 339 [.rsl 0 0 l.length,iG 0,iG (ah l),zP] [(0,oC l)] 1 1 (.tup []) [(0,oC l)]:=by
 refine ZU func339 ?_ (λi hi=>by match i,hi with|0,_=>exact⟨_,rfl⟩);refine pN (λi:Int=>(s0 53 gl [(0,.rsl 0 0 l.length),(1,iG 0),(2,iG (ah l)),(3,zP),(8,iG i)] [(0,oC l)] 1 1)) 1122 (Zw h) [] [hc (el l),hc (aG 20 zP aH),hc (bT.imm l)] (λB i w hs k5 d=>?_);unfold Lf at hs;rcases bC hs with⟨b1,hs⟩|⟨b1,hs⟩
 .obtain⟨a,c,hs⟩:=bS hs;obtain⟨b,eb,hs⟩:=bS hs;rcases bC hs with⟨b2,hs⟩|⟨b2,hs⟩
  rotate_left
  .cases hs
  obtain rfl:=Bo hs;simp only[bA,Bool.not_eq_true'] at b2;refine Ix 11221021 (s0 53 gl [(0,.rsl 0 0 l.length),(1,iG 0),(2,iG (ah l)),(3,zP),(8,iG i)] [(0,oC l)] 1 1) ?_ λkk=>?_
  .exact jw [] [hc (el l),hc (aG 20 zP aH),hc (bT.imm l)] (k5 _ rfl)
  refine pN (λ_:Unit=>(s0 53 gl [(0,.rsl 0 0 l.length),(1,iG 0),(2,iG (ah l)),(3,zP),(8,iG i),(9,iG i)] [(0,oC l)] 1 1)) 1122102122 Lg [hr 14 b1] [hc (el l),hc (aG 20 zP aH),hc (bT.imm l)] (λe z v hz2 f g=>?_);exact yl 11221021 [hr 20 b2.1,AH 25 (bT.ixrZ 0 c),AH 26 (bT.pt0Z E2 c),AH 30 (bT.ixrZ 0 eb),AH 31 (bT.pt0Z E2 eb),hf 32 (Dt gl (a:=a) (b:=b) rfl),hr 33 b2.2] [hc (el l),hc (aG 20 zP aH),hc (bT.imm l)] kk
 .exact ZT [hr 14 b1] [hc (bT.imm l)] [(0,0)] [(0,.row)]
theorem zr{gs gs0:Bn}{g0:G}{i:Nat}(h:CI i gs gs0)(hg:nF 20 g0=true:=by kernel_rfl):CI i (g0::gs) (g0::gs0):=CJ (aG 20 _ hg) h
theorem OF{l:Mj}(h:xf l)(k:Int):OU prog gl 275 [.rsl 0 0 l.length,iG 0,iG (ah l),iG k,zP] [(0,oC l)] 1 1 (.tup []) [(0,oC l)]:=by
 have e:wI (ah l-0)=ah l:=by have:=h.1;grind [bM,ah]
 have hd:decide (wI (ah l-0)<=12)=true:=by rw[e];exact C5 (by have:=h.1;unfold ah;omega)
 refine ZU func275 ?_ (λi hi=>by match i,hi with|0,_=>exact⟨_,rfl⟩);refine pN (λ_:Unit=>(s0 148 gl [(0,.rsl 0 0 l.length),(1,iG 0),(2,iG (ah l)),(3,iG k),(4,zP)] [(0,oC l)] 1 1)) 11122 Lg [] [hc (el l),hc (aG 20 zP aH),hc (bT.imm l)] (λa z v hz2 b d=>?_);exact ZT [hr 25 hd,hz 30 [0] (wS (i:=0) (c:=1) aH (OE gl h) (aG 20 _ aH) (bT.imm l) Cd (by rfl) (w5 (zr (zr (zr wZ)))))] [hc (bT.imm l)] [(0,0)] [(0,.row)]
theorem Lh{l:Mj}(h:xf l):OU prog gl 173 [.rsl 0 0 l.length,zP] [(0,oC l)] 1 1 (.tup []) [(0,oC l)]:=by
 have e:wU (ah l)=l.length:=by have:=h.1;unfold ah;rw[gP];omega
 have hl:ba prog gl 218 [uG (wU (ah l):Int)] (iG (WZ l.length:Int)):=by rw[e];exact RC gl (by have:=h.1;omega)
 refine ZU func173 ?_ (λi hi=>by match i,hi with|0,_=>exact⟨_,rfl⟩);exact ZT [AH 10 (C8 (ah l)),hf 11 hl,hz 13 [0] (wS (i:=0) (c:=1) aH (OF gl h (WZ l.length:Int)) (aG 20 _ aH) (bT.imm l) Cd (by rfl) (w5 (zr (zr (zr (zr wZ))))))] [hc (bT.imm l)] [(0,0)] [(0,.row)]
abbrev Ko(l:Bp):Option Ob:=some ⟨3,l.flatMap cZ,none⟩
def Aar(s:Bp×Int):Option ((Bp×Int)⊕Bp):=
 bif 0<s.2 then(aS s.1 s.2).bind λa=>(aS s.1 (wI (s.2-1))).bind λb=>bif a<b then(ji s.1 s.2 b).bind λc=>(ji c (wI (s.2-1)) a).bind λd=>some (.inl (d,wI (s.2-1)))else some (.inr s.1)else some (.inr s.1)
def Acv(n:Int)(s:Bp×Int):Option ((Bp×Int)⊕Bp):=
 bif s.2<n then(AQ Aar (s.1,s.2)).bind λl=>some (.inl (l,wI (s.2+1)))else some (.inr s.1)
def inZ(l:Bp):Option Bp:=AQ (Acv (ah l)) (l,wI (0+1))
theorem AhD(a b:Int):ba prog gl 358 [iG a,iG b] (bG (decide (a<b))):=WA gl (by unfold Uy Fw;simp)
theorem An3{l c d:Bp}{i j a b:Int}(h1:ji l i b=some c)(h2:ji c j a=some d):fh prog 22 (.rsl 0 0 l.length) j=some (.ref 0 (0+j.toNat*1)):=by rw[hZ h1];exact rZ.ixsZ 0 h2
theorem AhE{l r:Bp}(h:inZ l=some r):jg prog gl 352 [.rsl 0 0 l.length,iG 0,iG (ah l)] [(0,Ko l)] 1 (.tup []) [(0,Ko r)] 1:=by
 unfold inZ at h;refine pP func352 ?_;refine pN (λs:Bp×Int=>(s0 49 gl [(0,.rsl 0 0 s.1.length),(1,iG 0),(2,iG (ah l)),(6,iG s.2)] [(0,Ko s.1)] 1 1)) 1122 h [] [hc (el l),hc (rZ.imm l)] (λB s w hs k5 g=>?_);obtain⟨l1,i⟩:=s;unfold Acv at hs;dsimp only at hs;rcases bC hs with⟨b1,hs⟩|⟨b1,hs⟩
 .obtain⟨l2,e2,hs⟩:=bS hs;obtain rfl:=Bo hs;refine Ix 11221021 (s0 49 gl [(0,.rsl 0 0 l2.length),(1,iG 0),(2,iG (ah l)),(6,iG i)] [(0,Ko l2)] 1 1) ?_ λkk=>?_
  .exact jw [] [hc (el l2),hc (rZ.imm l2)] (k5 _ rfl)
  refine pN (λs:Bp×Int=>(s0 49 gl [(0,.rsl 0 0 s.1.length),(1,iG 0),(2,iG (ah l)),(6,iG i),(7,iG s.2)] [(0,Ko s.1)] 1 1)) 1122102122 e2 [hr 12 b1] [hc (el l1),hc (rZ.imm l1)] (λn z v hz k e=>?_);obtain⟨l3,j⟩:=z;unfold Aar at hz;dsimp only at hz;rcases bC hz with⟨b2,hz⟩|⟨b2,hz⟩
  .obtain⟨a,d,hz⟩:=bS hz;obtain⟨b,eb,hz⟩:=bS hz;have c:=AhD gl a b;rcases bC hz with⟨b3,hz⟩|⟨b3,hz⟩
   .obtain⟨m,e1,hz⟩:=bS hz;obtain⟨f,e3,hz⟩:=bS hz;obtain rfl:=Bo hz;rw[b3] at c;exact jw [hr 18 b2,AH 22 (rZ.ixrZ 0 d),AH 23 (rZ.p10Z tZ d),AH 27 (rZ.ixrZ 0 eb),AH 28 (rZ.p10Z tZ eb),hf 29 c,AH 41 (rZ.ixrZ 0 eb),AH 42 (rZ.p10Z tZ eb),AH 45 (rZ.ixrZ 0 d),AH 46 (rZ.p10Z tZ d),AH 47 (rZ.ixsZ 0 e1),hw 47 (m.flatMap cZ) (rZ.putZ e1),AH 48 (An3 e1 e3),hw 48 (f.flatMap cZ) (rZ.putZ e3)] [hc ((hZ e1).trans (hZ e3)),hc (rZ.imm f)] (k _ rfl)
   .obtain rfl:=Bo hz;obtain rfl:=e _ rfl;rw[b3] at c;exact yl 11221021 [hr 18 b2,AH 22 (rZ.ixrZ 0 d),AH 23 (rZ.p10Z tZ d),AH 27 (rZ.ixrZ 0 eb),AH 28 (rZ.p10Z tZ eb),hf 29 c] [hc (el l3),hc (rZ.imm l3)] kk
  .obtain rfl:=Bo hz;obtain rfl:=e _ rfl;exact yl 11221021 [hr 18 b2] [hc (el l3),hc (rZ.imm l3)] kk
 .obtain rfl:=Bo hs;obtain rfl:=g _ rfl;exact Hf .normal (s0 49 gl [] [(0,Ko l1)] 1 1) [] [hr 12 b1] [hc (rZ.imm l1)] (kd:=[(0,.row)])
theorem AhF{l r:Bp}(hl:l.length<=12)(h:inZ l=some r)(k:Int):jg prog gl 287 [.rsl 0 0 l.length,iG 0,iG (ah l),iG k] [(0,Ko l)] 1 (.tup []) [(0,Ko r)] 1:=by
 have e:wI (ah l-0)=ah l:=by grind [bM,ah]
 have hd:decide (wI (ah l-0)<=12)=true:=by grind [ah]
 refine pP func287 ?_;refine pN (λ_:Unit=>(s0 134 gl [(0,.rsl 0 0 l.length),(1,iG 0),(2,iG (ah l)),(3,iG k)] [(0,Ko l)] 1 1)) 11122 Lg [] [hc (el l),hc (rZ.imm l)] (λa z v hz2 b c=>?_);exact Hf .ret (s0 134 gl [] [(0,Ko r)] 1 1) [] [hr 23 hd,tN 27 [0] 1 [(0,Ko l)] [.rsl 0 0 l.length,iG 0,iG (ah l)] [(0,Ko r)] (AhE gl h) ⟨⟨rfl,.inr ⟨rfl,rZ.imm l⟩⟩,trivial⟩ ⟨⟨rfl,.inr ⟨rfl,rZ.imm r⟩⟩,trivial⟩] [hc (rZ.imm r)] (kd:=[(0,.row)])
theorem PN{l r:Bp}(hl:l.length<=12)(h:inZ l=some r):jg prog gl 186 [.rsl 0 0 l.length] [(0,Ko l)] 1 (.tup []) [(0,Ko r)] 1:=by
 have e:wU (ah l)=l.length:=by unfold ah;rw[gP];omega
 have hb:ba prog gl 218 [uG (wU (ah l):Int)] (iG (WZ l.length:Int)):=by rw[e];exact RC gl aa
 refine pP func186 ?_;exact Hf .normal (s0 11 gl [] [(0,Ko r)] 1 1) [] [AH 8 (C8 (ah l)),hf 9 hb,tN 10 [0] 1 [(0,Ko l)] [.rsl 0 0 l.length,iG 0,iG (ah l),iG (WZ l.length:Int)] [(0,Ko r)] (AhF gl hl h (WZ l.length:Int)) ⟨⟨rfl,.inr ⟨rfl,rZ.imm l⟩⟩,trivial⟩ ⟨⟨rfl,.inr ⟨rfl,rZ.imm r⟩⟩,trivial⟩] [hc (rZ.imm r)] (kd:=[(0,.row)])
theorem AfQ{A B:List α}{x:α}:(A++x::B)[A.length]?=some x:=aC
def PO(l:Bp):Prop:=l.Pairwise λa b=>a<=b
theorem AfR{S R:Bp}(hn:(S++x::R).length<=1000)(hs:PO S):T (AQ Aar (S++x::R,(S.length:Int))) λr=>∃S',r=S'++R/\S'.length=S.length+1/\PO S'/\S'.Perm (x::S):=by
 have hl:S.length+R.length+1<=1000:=by simp at hn;omega
 refine T.loop (λs=>∃b a,s.1=b++x::(a++R)/\s.2=(b.length:Int)/\S=b++a/\∀y∈a,x<=y) (λs=>s.2.toNat) ⟨S,[],rfl,rfl,aC,aC⟩ (by show((S.length:Int)).toNat<_;omega) ?_;rintro⟨l,j⟩ ⟨b,a,e1,e2,e3,e4⟩;dsimp only at e1 e2;subst e1 e2 e3;have fin:(∀y∈b,y<=x)->∃S',b++x::(a++R)=S'++R/\S'.length=(b++a).length+1/\PO S'/\S'.Perm (x::(b++a)):=λh=>by refine⟨b++x::a,aC,by simp;omega,?_,List.perm_middle⟩;grind [PO,List.pairwise_cons]
 unfold Aar;dsimp only;rcases List.eq_nil_or_concat b with rfl|⟨A,y,rfl⟩
 .rw[Dk aC,Be];exact .some (fin aC)
 .have hA:((A++[y]).length:Int)=((A.length+1:Nat):Int):=aC;have hAl:A.length<=1000:=by simp at hl;omega
  have ew:wI (((A.length+1:Nat):Int)-1)=(A.length:Int):=by grind [bM]
  rw[List.concat_eq_append] at*;rw[hA,C5 aa,ax,au,ew,au];have eq1:A++[y]++x::(a++R)=A++y::x::(a++R):=aC;have g1:(A++[y]++x::(a++R))[A.length+1]?=some x:=by simp
  have g2:(A++[y]++x::(a++R))[A.length]?=some y:=by rw[eq1];exact AfQ
  rw[g1,g2];simp only[aL];refine .dec (λc=>?_) λh=> .some (fin λz hz=>?_)
  .have s1:ji (A++[y]++x::(a++R)) ((A.length+1:Nat):Int) y=some (A++[y]++y::(a++R)):=by unfold ji;rw[BB ⟨aa,aC⟩,Fu];simp_all
   have s2:ji (A++[y]++y::(a++R)) (A.length:Int) x=some (A++x::(y::a++R)):=by unfold ji;simp_all
   rw[s1,aL,s2,aL];refine .some ⟨⟨A,y::a,rfl,rfl,aC,λz hz=>?_⟩,?_⟩
   .grind
   simp_all
  .have hyx:y<=x:=aa;rcases Jn.1 hz with hz|hz
   .have hs':=hs;unfold PO at hs';rw[List.append_assoc,List.pairwise_append] at hs';exact Int.le_trans (hs'.2.2 z hz y aC) hyx
   grind
theorem Adn{l:Bp}(hn:l.length<=1000):T (inZ l) λr=>r.Perm l/\PO r:=by
 unfold inZ;refine T.loop (λs=>∃S R,s.1=S++R/\PO S/\(S++R).Perm l/\((S.length:Int)=s.2\/(l=[]/\S=[]/\R=[]/\s.2=1))) (λs=>1002-s.2.toNat) ?_ (by show 1002-_<_;omega) ?_
 .cases l with
  |nil=>exact⟨[],[],rfl,.nil,.refl _,.inr ⟨rfl,rfl,rfl,rfl⟩⟩
  |cons a r=>exact⟨[a],r,rfl,List.pairwise_singleton _ _,.refl _,.inl rfl⟩
 rintro⟨l1,i⟩ ⟨S,R,e1,e2,e3,e4⟩;dsimp only at e1 e4;subst e1;have hlen:=e3.length_eq;unfold Acv;dsimp only;refine .dec (λhlt=>?_) λhge=> .some ⟨e3,?_⟩
 .unfold ah at hlt;rcases e4 with rfl|⟨rfl,rfl,rfl,rfl⟩
  rotate_left
  .simp at hlt
  cases R with
  |nil=>simp at hlen;omega
  |cons x R=>refine .bind ((AfR (by rw[hlen];exact hn) e2).mono λr ⟨S',b,d,c,r4⟩=> .some ⟨⟨S',R,b,c,?_,.inl ?_⟩,?_⟩);all_goals grind [bM]
 .unfold ah at hge;rcases e4 with rfl|⟨rfl,rfl,rfl,rfl⟩
  .have:R=[]:=List.eq_nil_of_length_eq_zero (by simp at hlen;omega);subst this;simpa using e2
  .exact .nil
theorem Ado{ks:Bp}(hs:PO srt)(hp:ks.Perm srt)(hn:srt.length<=1000):inZ ks=some srt:=by obtain⟨r,e,p,s⟩:=Adn (l:=ks) (by rw[hp.length_eq];exact hn);rw[e];refine congrArg some ?_;refine List.Perm.eq_of_pairwise (le:=λa b=>a<=b) (λa b _ _ h1 h2=>?_) s hs (p.trans hp);exact Int.le_antisymm h1 h2
def ksQ{K V:Type}(m:FM K V)(seen:Br):List K:=seen.filterMap λn=>(m.es.find? λe=>Nat.beq e.2.2 n).map (·.1)
theorem Aat(hm:FxOk m){seen:Br}(he:e∈m.es):ksQ m (seen++[e.2.2])=ksQ m seen++[e.1]:=by
 unfold ksQ;rw[List.filterMap_append];have:∀{es:List (K×V×Nat)},(es.map (·.2.2)).Nodup->e∈es->es.find? (λx=>Nat.beq x.2.2 e.2.2)=some e:=by
  intro es;induction es with
  |nil=>intro _ h;cases h
  |cons x r ih=>
   intro hd h;rw[Fe,MH] at hd;rcases EY.1 h with rfl|h
   .simp
   grind [bc]
 simp[this hm.nd he]
def KsQ{K V:Type}(m:FM K V)(seen:Br):Prop:=seen.Nodup/\∀n∈seen,n∈m.es.map (·.2.2)
theorem Q5{m:Br}(hd:l.Nodup)(hs:∀x∈l,x∈m):l.length<=m.length:=by
 induction l generalizing m with
 |nil=>exact Nat.zero_le _
 |cons a r ih=>rw[MH] at hd;have ha:=hs a aC;have:=ih (m:=m.erase a) hd.2 λx hx=>(List.mem_erase_of_ne (λe:x=a=>hd.1 (by rw[<-e];exact hx))).2 (hs x (by simp[hx]));grind
theorem Aau{seen:Br}(h:KsQ m seen):(ksQ m seen).length<=m.es.length:=by have h1:=Q5 h.1 h.2;grind [ksQ]
theorem Vv:KsQ m []:=⟨.nil,aC⟩
theorem Vx{seen:Br}(h:KsQ m seen)(he:e∈m.es)(hn:e.2.2∉seen):KsQ m (seen++[e.2.2]):=by
 refine⟨?_,λn hx=>?_⟩
 .rw[List.nodup_append];exact⟨h.1,aC,(by grind)⟩
 .rcases Jn.1 hx with hx|hx
  .exact h.2 n hx
  grind
theorem Abw(hm:FxOk m)(h:KsQ m seen)(ha:∀e∈m.es,e.2.2∈seen):(ksQ m seen).Perm (m.es.map (·.1)):=by
 have hp:seen.Perm (m.es.map (·.2.2)):=(List.perm_ext_iff_of_nodup h.1 hm.nd).2 λn=>⟨h.2 n,(by grind)⟩;have h1:(ksQ m seen).Perm (ksQ m (m.es.map (·.2.2))):=hp.filterMap _;have h2:∀es:List (K×V×Nat),(∀e∈es,e∈m.es)->ksQ m (es.map (·.2.2))=es.map (·.1):=by
  intro es;induction es with
  |nil=>intro _;rfl
  |cons e r ih=>intro hh;have:=Aat hm (seen:=[]) (hh e aC);grind [ksQ]
 grind
abbrev Zu:Bk:=87
abbrev Um(m:FM Int Bool):Option Ob:=some (M3 Zu Jo bG m)
abbrev OQ(i:Nat):G:= .clo (.func 187) [] [.ref i 0]
abbrev bxB:Option Ob:=some ⟨Zu,[.mref 1],none⟩
abbrev bxI(g:G):Option Ob:=some ⟨22,[g],none⟩
abbrev KSZ(m:FM Int Bool):Type:={ks:Bp//ks.Perm (m.es.map (·.1))}
noncomputable abbrev cAZ:Code:=bq 11012 (ai Tryz.f286)
noncomputable abbrev AfS(st:LoopState):Option Ob:=some ⟨0,[],some (.loop st none 13 [(2,.ref 2 0)] (Dy cAZ) (Dz cAZ) (DA cAZ))⟩
abbrev AjR(clock:Nat)(seen:Br):Option Ob:=some ⟨Zu,[],some (.iter (some 1) clock seen clock)⟩
theorem Un(m:FM Int Bool):∀e∈UF Jo bG m,bB e.2.1:=Ou λv=>mN _
abbrev AfT:Fr:=[(0,.yld 3),(5,.ref 4 0)]
noncomputable abbrev σKZ(m:FM Int Bool)(seen:Br)(l:Bp):aQ:=[(0,bxB),(1,Um m),(2,bxI (.rsl 5 0 l.length)),(3,AfS .ready),(4,AjR m.clk seen),(5,Ko l)]
noncomputable abbrev σKY(m:FM Int Bool)(seen:Br)(a:Bp):aQ:=[(0,bxB),(1,Um m),(2,bxI (.rsl 6 0 a.length)),(3,AfS .busy),(4,AjR m.clk seen),(6,Ko a)]
theorem Acy{m:FM Int Bool}(hm:FxOk m)(hn:m.es.length<=1000):Xx prog gl 286 [.lit (.slice none 0 0),OQ 0] [(0,bxB),(1,Um m)] 2 (ι:=KSZ m) (λx=> .rsl 2 0 x.1.length) (λx=>[(0,bxB),(1,Um m),(2,Ko x.1)]) (λ_=>3):=by
 refine dMF func286 ?_;refine YR [1,0,1,2] (s0 13 gl [(2,.ref 2 0),(6,OQ 0)] [(2,bxI (.lit (.slice none 0 0))),(0,bxB),(1,Um m)] 3 2) [] ?_;refine Xt (fst:=[]) (cap:=[.ref 0 0]) Tryz.f187 func187 ?_;refine pO [0] (s0 14 gl [(0,.yld 3),(1,.ref 0 0)] [(0,bxB),(1,Um m),(2,bxI (.lit (.slice none 0 0))),(3,AfS .ready)] 4 4) [] [hc (Un m)] ?_ [] [(0,0),(1,1),(2,2),(3,3)];refine yl (Bs':=[]) [0] (J:=(s0 14 gl AfT (σKZ m [] []) 6 4)) [] [hc (Un m),hc (rZ.imm [])] ?_ (vs:=[3]) (ρ:=rI 6) (kd:=[(5,.row)]);refine dNx [1] ?_;refine dMw 5 6 7 0 (iti:=4) (mi:=1) (clock:=m.clk) (since:=m.clk) (T:=Zu) (ty:=Zu) (es:=UF Jo bG m) (λseen=>(s0 14 gl AfT (σKZ m seen (ksQ m seen)) 6 4)) (KsQ m) Vv (by grind [FxOk]) rfl (Le.refl _) (λseen=>rfl) (λseen=>rfl) (by grind) (λB seen k g n hI hme hns c=>?_) (λseen hI hs=>?_)
 .obtain⟨e,he,d⟩:=EH.1 hme;simp only[Fq] at d;obtain⟨rfl,rfl,rfl⟩:=d;have hl:=Aau hI;have c:=c (Vx hI he hns);rw[Aat hm he] at c;generalize ksQ m seen=l at hl c⊢;have hge:jr ((4,AjR m.clk (seen++[e.2.2]))::σKZ m seen l) (.ref 4 0)=some (.tup [db (Jo e.1),bG e.2.1]):=yo (iti:=4) (mi:=1) (since:=m.clk) (clock:=m.clk) (T:=Zu) (ty:=Zu) (seen:=seen) rfl rfl (by rw[Hi];exact hm.nd) hme;refine pO 112211210 (s0 14 gl ((3,iG e.1)::AfT) (σKZ m (seen++[e.2.2]) l) 6 4) [YT 8 hge] [hc (Un m),hc (rfl:l.length=l.length),hc (rZ.imm l)] ?_ [] [(0,0),(1,1),(2,2),(3,3),(4,4),(5,5)] [(5,.row)];refine Xw (i:=3) (j:=2) (n:=13) (t:=0) (t2:=0) (pe:=none) (fr:=[(2,.ref 2 0)]) (ps:=Dy cAZ) (a:=Dz cAZ) (b:=DA cAZ) (s1:=(s0 14 gl ([(11,iG e.1),(10,.yld 3),(3,iG e.1)]++AfT) (σKZ m (seen++[e.2.2]) l) 6 4))
   (s3:=(s0 14 gl ([(13,bG false),(12,bG true),(11,iG e.1),(10,.yld 3),(3,iG e.1)]++AfT) ((3,AfS .ready)::σKY m (seen++[e.2.2]) (l++[e.1])) 7 4))
   (σKY m (seen++[e.2.2]) (l++[e.1])) 7 (.loop .ready none 13 [(2,.ref 2 0)] (Dy cAZ) (Dz cAZ) (DA cAZ)) [] [] ?_ ?_
  .refine C9 .normal ⟨13,gl,[(2,.ref 2 0),(5,iG e.1)],σKZ m (seen++[e.2.2]) l,6,6,true⟩ [] [hc (Un m),hc (rfl:l.length=l.length),hc (rZ.imm l)] (Xv Tryz.f286 ?_ rfl);exact C9 .normal ⟨13,gl,[],σKY m (seen++[e.2.2]) (l++[e.1]),7,6,true⟩ [Tn 11 rZ 8 l e.1 aa] [hc (Un m),hc (el (l++[e.1])),hc (rZ.imm (l++[e.1]))] (by grind [jy]) (ρ:=rI 6++[(6,7)]) (kd:=[(6,.row)])
  .exact jw [] [hc (Un m),hc (el (l++[e.1])),hc (rZ.imm (l++[e.1]))] c (ρ:=rI 5++[(5,6)]) (kd:=[(5,.row)])
 .have hp:=Abw hm hI λe he=>hs _ (EH.2 ⟨e,he,rfl⟩);generalize ksQ m seen=l at hp⊢;refine C9 .normal (s0 14 gl [] [(0,bxB),(1,Um m),(2,bxI (.rsl 5 0 l.length)),(3,AfS .ready),(5,Ko l)] 6 4) [] [hc (Un m),hc (rfl:l.length=l.length),hc (rZ.imm l)] (Xu ?_ rfl) (kd:=[(5,.row)]);exact C9 .ret (s0 13 gl [(4,.rsl 2 0 l.length)] [(0,bxB),(1,Um m),(2,Ko l)] 3 2) [] [hc (rfl:l.length=l.length),hc (Un m),hc (rZ.imm l)] (YY ⟨l,hp⟩ (Wo (gs:=[.rsl 2 0 l.length]) rfl aH rfl rfl rfl rfl))
theorem Aby{m:FM Int Bool}(hm:FxOk m)(hn:m.es.length<=1000):Xx prog gl 185 [OQ 0] [(0,bxB),(1,Um m)] 2 (ι:=KSZ m) (λx=> .rsl 2 0 x.1.length) (λx=>[(0,bxB),(1,Um m),(2,Ko x.1)]) (λ_=>3):=by refine dMF func185 ?_;refine pO [1,0] (s0 5 gl [(0,OQ 0)] [(0,bxB),(1,Um m)] 2 2) [] [hc (Un m)] ?_ [] [(0,0),(1,1)] [(999999,.clo)];refine dCl 3 4 2 (fst:=[]) (cap:=[]) (gs:=[.lit (.slice none 0 0),OQ 0]) (U6 (g:=λx:KSZ m=> .rsl 2 0 x.1.length) (c:=2) (c':=λ_=>3) (σR:=[(0,bxB),(1,Um m)]) [0,1] (λx:KSZ m=>[(0,bxB),(1,Um m),(2,Ko x.1)]) (Acy gl hm hn) ⟨⟨rfl,.inl rfl⟩,⟨rfl,rfl,rfl,rfl,.inr ⟨rfl,Un m⟩⟩,trivial⟩ (λx=>⟨⟨rfl,.inl rfl⟩,⟨rfl,rfl,rfl,rfl,.inr ⟨rfl,Un m⟩⟩,⟨rfl,.inr ⟨rfl,rZ.imm x.1⟩⟩,trivial⟩) (hcov:=λ_=>rfl) (hg:=λ_=>rfl) (hc:=λ_=>rfl)) λx=>?_;exact C9 .ret (s0 5 gl [(2,.rsl 2 0 x.1.length)] [(0,bxB),(1,Um m),(2,Ko x.1)] 3 2) [] [hc (rfl:x.1.length=x.1.length),hc (Un m),hc (rZ.imm x.1)] (YY x (Wo (gs:=[.rsl 2 0 x.1.length]) rfl aH rfl rfl rfl rfl))
theorem Acz{m:FM Int Bool}(hm:FxOk m)(hn:m.es.length<=12)(hs:∀a:Bp,a.Perm (m.es.map (·.1))->inZ a=some srt)(hsl:srt.length=m.es.length):jg prog gl 108 [OQ 0] [(0,bxB),(1,Um m)] 2 (.rsl 2 0 srt.length) [(0,bxB),(1,Um m),(2,Ko srt)] 3:=by
 refine pP func108 ?_;refine pO [1,0] (s0 9 gl [(0,OQ 0)] [(0,bxB),(1,Um m)] 2 2) [] [hc (Un m)] ?_ [] [(0,0),(1,1)] [(999999,.clo)];refine dCl 4 5 3 (fst:=[]) (cap:=[]) (gs:=[OQ 0]) (U6 (g:=λx:KSZ m=> .rsl 2 0 x.1.length) (c:=2) (c':=λ_=>3) (σR:=[(0,bxB),(1,Um m)]) [0,1] (λx:KSZ m=>[(0,bxB),(1,Um m),(2,Ko x.1)]) (Aby gl hm aa) ⟨⟨rfl,.inl rfl⟩,⟨rfl,rfl,rfl,rfl,.inr ⟨rfl,Un m⟩⟩,trivial⟩ (λx=>⟨⟨rfl,.inl rfl⟩,⟨rfl,rfl,rfl,rfl,.inr ⟨rfl,Un m⟩⟩,⟨rfl,.inr ⟨rfl,rZ.imm x.1⟩⟩,trivial⟩) (hcov:=λ_=>rfl) (hg:=λ_=>rfl) (hc:=λ_=>rfl)) λx=>?_;have hx:=hs x.1 x.2;have hxl:x.1.length<=12:=by rw[x.2.length_eq,GJ];exact hn
 have hsl:srt.length=x.1.length:=by rw[hsl,x.2.length_eq,GJ]
 rw[show(G.rsl 2 0 srt.length)= .rsl 2 0 x.1.length by rw[hsl]];exact Hf .ret (s0 9 gl [(2,.rsl 2 0 x.1.length)] [(0,bxB),(1,Um m),(2,Ko srt)] 3 2) [.rsl 2 0 x.1.length] [tN 7 [2] 3 [(2,Ko x.1)] [.rsl 2 0 x.1.length] [(0,Ko srt)] (PN gl hxl hx) ⟨⟨rfl,.inr ⟨rfl,rZ.imm x.1⟩⟩,trivial⟩ ⟨⟨rfl,.inr ⟨rfl,rZ.imm srt⟩⟩,trivial⟩] [hc (rfl:x.1.length=x.1.length),hc (Un m),hc (rZ.imm srt)]
theorem AfU(m:FM Int Bool):jg prog gl 109 [.mref 0] [(0,Um m)] 1 (OQ 1) [(0,Um m),(1,some ⟨Zu,[.mref 0],none⟩)] 2:=by refine pP func109 ?_;exact Hf .ret (s0 4 gl [(2,OQ 1)] [(0,Um m),(1,some ⟨Zu,[.mref 0],none⟩)] 2 1) [OQ 1] [] [hc (Un m)] (kd:=[(999999,.clo)])
def HA(R:Ad):Bp:=(inZ (R.in_.es.map (·.1))).getD []
theorem le6{l:Bp}(hd:l.Nodup)(h:∀x∈l,1<=x/\x<=6):l.length<=6:=by
 have hs:∀x∈l.map Int.toNat,x∈List.range' 1 6:=by grind
 have hn:(l.map Int.toNat).Nodup:=by clear hs;induction l<;>grind
 have:=Q5 hn hs;grind
theorem Bj.len{R:Ad}(hR:Bj R):R.in_.es.length<=6:=by
 have:=le6 hR.ci.kd λx hx=>by obtain⟨e,he,rfl⟩:=EH.1 hx;exact hR.i6 e he
 rwa [GJ] at this
theorem Nj(hR:Bj R):PO (HA R)/\(HA R).Perm (R.in_.es.map (·.1))/\∀a:Bp,a.Perm (R.in_.es.map (·.1))->inZ a=some (HA R):=by have hl:=hR.len;obtain⟨r,e,p,s⟩:=Adn (l:=R.in_.es.map (·.1)) (by rw[GJ];omega);grind [HA,Ado,List.Perm.length_eq,GJ]
section
abbrev bx2:Option Ob:=some ⟨Zu,[.mref 2],none⟩
theorem Sm(hR:Bj R):TG prog gl 41 [.ref 0 0] (BW f0 R) 14 14 (aE cZ (HA R)) (BW f0 R):=by
 obtain⟨h1,h2,h3⟩:=Nj hR;have hl:=hR.len;have hsl:(HA R).length=R.in_.es.length:=by rw[h2.length_eq,GJ]
 generalize HA R=srt at h1 h2 h3 hsl⊢;refine dFP func41 ?_;exact ZT [tN 7 [2] 14 [(2,Um R.in_)] [.mref 2] [(0,Um R.in_),(1,bx2)] (AfU gl R.in_) ⟨⟨rfl,rfl,rfl,rfl,.inr ⟨rfl,Un R.in_⟩⟩,trivial⟩ ⟨⟨rfl,rfl,rfl,rfl,.inr ⟨rfl,Un R.in_⟩⟩,⟨rfl,.inl rfl⟩,trivial⟩,tN 8 [14,2] 15 [(14,bx2),(2,Um R.in_)] [OQ 14] [(0,bx2),(1,Um R.in_),(2,Ko srt)] (Acz gl hR.ci.1 aa h3 hsl) ⟨⟨rfl,.inl rfl⟩,⟨rfl,rfl,rfl,rfl,.inr ⟨rfl,Un R.in_⟩⟩,trivial⟩ ⟨⟨rfl,.inl rfl⟩,⟨rfl,rfl,rfl,rfl,.inr ⟨rfl,Un R.in_⟩⟩,⟨rfl,.inr ⟨rfl,rZ.imm srt⟩⟩,trivial⟩] (hc (⟨rZ.len srt,rZ.imm srt,rfl⟩:(srt.flatMap cZ).length=srt.length*1/\(∀g∈srt.flatMap cZ,bB g)/\srt.length=srt.length)::rlA hR) (Gc f0) N3
def AcA(n k:Nat):Option (Nat⊕Unit):=if k<n then some (.inl (k+1))else if k=n then some (.inr ())else none
theorem XN{n:Nat}(h:n<=1000000):AQ (AcA n) 0=some ():=T.eq (T.loop (λk=>k<=n) (λk=>n-k) aa aa λk hk=>by
 unfold AcA;split
 .exact .some ⟨aa,aa⟩
 .rw[BB aa];exact .some rfl)
section
variable {P:Bu} [M:Mix P] {fn:Func} {Q:Exit->St->Prop} {Bs:List (St->Prop)} {m:Bool} {p:Br} {st:St}
theorem dLl{l:List α}(hn:l.length<=1000000)(S:Nat->St)(b:Br)(A O:List HP)(h:∀(B:St->Prop) (k:Nat) (x:α),l[k]?=some x->aS l (k:Int)=some x->B (S (k+1))->Gp P fn Q (Bs++[B]) false b (S k))(he:∀B:St->Prop,Gp P fn Q (Bs++[B]) false b (S l.length))(vs:List Bk:=[])(ρ:DF:=[])(kd:List (Nat×Rk):=[])
  (hk:TF A (Xr P (bK A) (LE m p (ai fn)) (bE p (ai fn) Bs []) vs ρ kd (S 0) st) (pR O,S 0,bq b (ai fn),Oj fn Bs b):=by exact⟨aH,aH⟩)
  (e2:∀B,bE b (ai fn) (Bs++[B]) []= .lp B::Oj fn Bs b:=by intro B;kernel_rfl):Gp P fn Q Bs m p st:=
 pN S b (XN hn) A O (λB k w hs k5 _=>by
  unfold AcA at hs;split at hs
  .rename_i hlt;obtain rfl:=Bo hs;have hx:l[k]?=some l[k]:=EA hlt;exact h B k _ hx (Bt hx) (k5 _ rfl)
  .split at hs
   .rename_i he';exact he'▸he B
   .cases hs) vs ρ kd hk e2
end
def S9(m:Int)(Q:Ad)(d:Int):Ad:=bif DE Q d=m then G8 Q d else Q
def AfV(R:Ad)(o:Bq):Ad:=(HA R).foldl (S9 o.Member) R
theorem Adp{Q:Ad}(hQ:Bj Q)(m d:Int):Bj (S9 m Q d):=by grind [S9,Ke]
theorem Vz{m:Int}:∀{l:Bp} {Q:Ad},Bj Q->Bj (l.foldl (S9 m) Q)
 |[],Q,h=>h
 |d::r,Q,h=>Vz (l:=r) (Adp h m d)
abbrev ρW:DF:=[(0,0),(1,1),(2,2),(3,3),(4,4),(5,16),(6,17),(7,18),(8,19),(9,20),(10,21),(11,22),(12,23),(13,24),(14,14),(15,15)]
theorem AcB(hR:Bj R){i:Ab}(hk:o.Kind=3)(hd:o.Device=0):UR gl R o i (AfV R o):=by
 have a1:decide (o.Kind=1)=false:=by rw[hk];rfl
 have a2:decide (o.Kind=2)=false:=by rw[hk];rfl
 have a3:decide (o.Kind=3)=true:=by rw[hk];rfl
 have ad:decide (o.Device≠0)=false:=Dk (by rw[hd];simp);have hdv:=Sm gl hR;have hn:(HA R).length<=6:=by have:=(Nj hR).2.1.length_eq;rw[GJ] at this;rw[this];exact hR.len
 refine PM gl hR ?_;unfold AfV;generalize HA R=l at hdv hn⊢;have hQ:∀k,Bj ((l.take k).foldl (S9 o.Member) R):=λk=>Vz hR;refine pN (λk:Nat=>(s0 259 gl [(0,.ref 0 0),(4,.ref 14 0),(69,aE cZ l),(70,iG (ah l)),(71,iG (k:Int))] (AfB ((l.take k).foldl (S9 o.Member) R) o i) 16 5)) 111121414131122 (XN (n:=l.length) aa) [hr 29 a1,hr 52 a2,hr 60 a3,hr 63 ad,hrr 69 f0 16 [] hR hdv] (rlB ρD f0 hR) (λB k v hs k5 a=>?_) [] ρD N3;unfold AcA at hs;split at hs
 .rename_i hlt;obtain rfl:=Bo hs;obtain⟨x,hx⟩:∃x,l[k]?=some x:=⟨_,EA hlt⟩;have hz:=Bt hx;have k5:=k5 _ rfl;have hq:=hQ k;rw[Jk,hx,Option.toList_some,No,List.foldl_cons,List.foldl_nil] at k5;generalize (l.take k).foldl (S9 o.Member) R=Q at hq k5⊢;unfold S9 at k5;cases hm:decide (DE Q x=o.Member) with
  |false=>rw[hm] at k5;exact jw [hr 72 (C7 hx),AH 73 (rZ.ixZ hz),AH 74 (rZ.p1Z tZ hz),hof gl 77 hq x 16,hr 80 hm,hbb 84 (Xl (q:=k) aa)] (rlB ρD f0 hq) k5 [] ρD N3
  |true=>rw[hm] at k5;exact jw [hr 72 (C7 hx),AH 73 (rZ.ixZ hz),AH 74 (rZ.p1Z tZ hz),hof gl 77 hq x 16,hr 80 hm,hrw 83 f0 16 [iG x] hq (Ke hq x) (Aan gl hq x),hbb 84 (Xl (q:=k) aa)] (rlB ρW f16 (Ke hq x)) k5 [] ρW N3
 .split at hs
  .rename_i he;subst he;rw[EG];exact Hh f0 _ (Vz hR) [hr 72 (DZ (s:=l))] (rlX (f:=f0) (R:=l.foldl (S9 o.Member) R))
  .cases hs
end
def VA(R:Ad)(o:Bq)(i:Ab):Ad:=
 if o.Kind=1 then Abt R o else if o.Kind=2 then I5 R o.Device o.Role else if o.Kind=3 then(if o.Device=0 then AfV R o else G8 R o.Device)else if o.Kind=5 then UE R o else if o.Kind=9 then Aaq R o i else if o.Kind=11 then Za R o else if o.Kind=12 then US R o else if o.Kind=13 then Zb R o else R
structure VB (o:Bq) (i:Ab):Prop where
 i:i.By=o.By
 g:o.Guards.length<=1000000
 n:o.Kind=9->1<=o.Need/\o.Need<=1000000
 b:1<=o.By/\o.By<=6
theorem R2(hR:Bj R){i:Ab}(ho:VB o i):Bj (VA R o i):=by
 unfold VA;split
 .exact AfO hR o
 split
 .exact Ho hR _ _
 split
 .split
  .exact Vz hR
  .exact Ke hR _
 grind [Adm,AfL,VB.i,VB.g,VB.n,AfJ,VB.b,AfI,AfP]
theorem AfW(hR:Bj R){i:Ab}(ho:VB o i):UR gl R o i (VA R o i):=by
 unfold VA;split
 .exact Aea gl hR (by assumption)
 split
 .exact AjI gl hR (by assumption)
 split
 .split
  .grind [AcB]
  grind [Ad6]
 split
 .exact Acq gl hR (by assumption)
 split
 .grind [AfM,VB.i,VB.g,VB.n]
 split
 .exact AfK gl hR (by assumption) ho.b
 split
 .exact Ad8 gl hR (by assumption)
 split
 .exact Acu gl hR (by assumption)
 grind [Ahy]
def AjS(l:Mj):FM Int DQ:=l.foldl (λm c=>CA m c.Device c) ⟨[],0⟩
def Hd(l:Mj):Ad:=⟨AjS l,⟨[],0⟩,⟨[],0⟩,⟨[],0⟩,0⟩
structure Aec (l:Mj):Prop where
 n:l.length<=1000
 r:∀c∈l,1<=c.Device/\c.Device<=6/\1<=c.Member/\c.Member<=3
theorem Abz{d:Int}{c:DQ}:∀{l:Mj} {m:FM Int DQ},(l.foldl (λm c=>CA m c.Device c) m).get d=some c->(c∈l/\c.Device=d)\/m.get d=some c
 |[],m,h=> .inr h
 |x::r,m,h=>by
  rcases Abz (l:=r) h with⟨h1,h2⟩|h
  all_goals grind [Bz]
theorem LF{l:Mj}(h:∀c∈l,1<=c.Device/\c.Device<=6/\1<=c.Member/\c.Member<=3):Bj (Hd l):=by
 have e:∀{K V:Type},QN (⟨[],0⟩:FM K V):=by grind [QN,FxOk]
 have hc:∀d,(DV ((Hd l).cards.get d)).Member=0\/∃c∈l,c.Device=d/\DV ((Hd l).cards.get d)=c:=λd=>by
  cases hg:(Hd l).cards.get d with
  |none=>exact .inl rfl
  |some c=>
   rcases Abz (l:=l) hg with⟨h1,h2⟩|h1
   .exact .inr ⟨c,h1,h2,rfl⟩
   .cases h1
 refine⟨e,e,e,λe he=>(by cases he),λd=>?_,λk x g h1=>(by cases h1),λk x g h1=>(by cases h1),λk x g h1=>(by cases h1),λk x g h1=>(by cases h1),λe he=>(by cases he),λd hd=>?_,λk x g h1=>(by cases h1)⟩;all_goals grind
abbrev ρN:DF:=[(0,4),(1,0),(2,1),(3,2),(4,3),(5,5),(6,6),(7,7),(8,8),(9,9),(10,10),(11,11),(12,12),(13,13)]
def fN0(k:Nat):Nat:=match k with
 |0=>4
 |1=>0
 |2=>1
 |3=>2
 |4=>3
 |k=>k
theorem AfX{l:Mj}(hl:Aec l):TG prog gl 104 [aE bv l] [] 0 0 (.ref 0 0) (BW f0 (Hd l)):=by
 have hQ:∀k,Bj (Hd (l.take k)):=λk=>LF λc hc=>hl.r c (List.mem_of_mem_take hc);refine dFP func104 ?_;refine dLl (l:=l) (by have:=hl.n;omega) (λk:Nat=>(s0 27 gl [(3,.ref 0 0),(12,aE bv l),(13,iG (ah l)),(14,iG (k:Int))] (BW f0 (Hd (l.take k))) 14 0)) 1110122 [] (rlB ρN fN0 (hQ 0)) (λB k x hx hz k5=>?_) (λB=>?_) [] ρN N3
 .have hlt:=(cr hx).1;have e:Hd (l.take (k+1))={Hd (l.take k) with cards:=CA (Hd (l.take k)).cards x.Device x}:=by unfold Hd AjS;rw[Jk,hx,Option.toList_some,No];rfl
  have hq:=hQ k;have a:=hQ (k+1);rw[e] at k5 a;have hn:=hl.n;have hp:=Acx (P:=prog) (σ:=[(1,some (M3 tMc Jo cdG (Hd (l.take k)).cards))]) (i:=1) (t:=tMc) (t':=tMc) (vg:=cdG) (et:=145) OY Abn aH (k:=x.Device) (gk:=iG x.Device) rfl (m:=(Hd (l.take k)).cards) rfl x;generalize Hd (l.take k)=Q at hq a hp k5⊢;exact jw [hr 15 (C7 hx),AH 16 (bT.ixZ hz),AH 17 (bT.ptZ E2 hz),hmr 15 hp,hbb 25 (Xl (q:=k) aa)] (rlB (Gc f0) f0 a) k5 [] (Gc f0) N3
 .rw[EG];exact ZT [hr 15 (DZ (s:=l))] (rlB (Gc f0) f0 (LF hl.r)) (Gc f0) N3
def I6(R:Ad)(m:Int):Bool:=decide (M2 R m=3)
def AfY(R:Ad)(o:Bq)(m:Int):Int:=bif DY R o.Device then(bif I6 R m then 0 else bif DE R o.Device≠m then 14 else 0)else 17
def Aed(R:Ad)(o:Bq)(m:Int):Int:=bif o.Device≠0 then(bif PL R o.Device then(bif I6 R m then 0 else bif DE R o.Device≠m then 14 else 0)else 17)else match R.members.get o.Member with
 |none=>16
 |some _=>bif I6 R m then 0 else bif o.Member≠m then 14 else 0
def AfZ(R:Ad)(o:Bq)(m:Int):Int:=bif I6 R m then(match R.members.get o.Member with
 |none=>16
 |some _=>0)else 14
def Af0(R:Ad)(m:Int):Int:=bif M2 R m<2 then 14 else 0
def Af1(R:Ad)(o:Bq)(m:Int):Int:=bif I6 R m then 0 else bif DE R o.Of.By≠m then 14 else 0
def AbA(R:Ad)(o:Bq)(m:Int):Int:=match R.members.get m with
 |none=>25
 |some x=>match x.guard with
  |none=>25
  |some g=>bif g.id=o.Of then 0 else 25
theorem Td(R:Ad)(m:Int):ba prog gl 435 [.ptr (CM R) 0,iG m] (bG (I6 R m)):=Gh func435 (Ar [hf 7 (Vr gl R m)] [])
theorem An6(R:Ad)(d:Int):∀σ,bL prog σ tMb false (FM.g Jo bG R.in_) (iG d)=some (bG (PL R d)):=QK R.in_ d
theorem AhI(R:Ad)(o:Bq)(m:Int):ba prog gl 434 [.ptr (CM R) 0,.agg (aJ o),iG m] (iG (AfY R o m)):=by
 have h1:=Abp gl R o.Device;have h2:=Td gl R m;have h3:=Abo gl R o.Device;unfold AfY;refine Gh func434 ?_;cases b1:DY R o.Device with
 |false=>rw[b1] at h1;exact Ar [hf 11 h1] []
 |true=>
  rw[b1] at h1;cases b2:I6 R m with
  |true=>rw[b2] at h2;exact Ar [hf 11 h1,hf 16 h2] []
  |false=>
   rw[b2] at h2;cases b3:decide (DE R o.Device≠m) with
   |true=>exact Ar [hf 11 h1,hf 16 h2,hf 22 h3,hr 24 b3] []
   |false=>exact Ar [hf 11 h1,hf 16 h2,hf 22 h3,hr 24 b3] []
theorem AhJ(R:Ad)(o:Bq)(m:Int):ba prog gl 436 [.ptr (CM R) 0,.agg (aJ o),iG m] (iG (Aed R o m)):=by
 have h2:=Td gl R m;have h3:=Abo gl R o.Device;have h4:=An6 R o.Device;have h5:=AhA R o.Member;unfold Aed;refine Gh func436 ?_;cases b1:decide (o.Device≠0) with
 |true=>
  cases b4:PL R o.Device with
  |false=>rw[b4] at h4;exact Ar [hr 12 b1,hm 19 h4] []
  |true=>
   rw[b4] at h4;cases b2:I6 R m with
   |true=>rw[b2] at h2;exact Ar [hr 12 b1,hm 19 h4,hf 24 h3,hf 35 h2] []
   |false=>
    rw[b2] at h2;cases b3:decide (DE R o.Device≠m) with
    |true=>exact Ar [hr 12 b1,hm 19 h4,hf 24 h3,hf 35 h2,hr 40 b3] []
    |false=>exact Ar [hr 12 b1,hm 19 h4,hf 24 h3,hf 35 h2,hr 40 b3] []
 |false=>
  cases b5:R.members.get o.Member with
  |none=>rw[b5] at h5;exact Ar [hr 12 b1,hm 31 h5] []
  |some x=>
   rw[b5] at h5;cases b2:I6 R m with
   |true=>rw[b2] at h2;exact Ar [hr 12 b1,hm 31 h5,hf 35 h2] []
   |false=>
    rw[b2] at h2;cases b3:decide (o.Member≠m) with
    |true=>exact Ar [hr 12 b1,hm 31 h5,hf 35 h2,hr 40 b3] []
    |false=>exact Ar [hr 12 b1,hm 31 h5,hf 35 h2,hr 40 b3] []
theorem AhK(R:Ad)(o:Bq)(m:Int):ba prog gl 437 [.ptr (CM R) 0,.agg (aJ o),iG m] (iG (AfZ R o m)):=by
 have h2:=Td gl R m;have h5:=AhA R o.Member;unfold AfZ;refine Gh func437 ?_;cases b2:I6 R m with
 |false=>rw[b2] at h2;exact Ar [hf 10 h2] []
 |true=>
  rw[b2] at h2;cases b5:R.members.get o.Member with
  |none=>rw[b5] at h5;exact Ar [hf 10 h2,hm 19 h5] []
  |some x=>rw[b5] at h5;exact Ar [hf 10 h2,hm 19 h5] []
theorem AhL(R:Ad)(o:Bq)(m:Int):ba prog gl 438 [.ptr (CM R) 0,.agg (aJ o),iG m] (iG (Af0 R m)):=by
 unfold Af0;refine Gh func438 ?_;cases b:decide (M2 R m<2) with
 |true=>exact Ar [hf 9 (Vr gl R m),hr 10 b] []
 |false=>exact Ar [hf 9 (Vr gl R m),hr 10 b] []
theorem AhM(R:Ad)(o:Bq)(m:Int):ba prog gl 439 [.ptr (CM R) 0,.agg (aJ o),iG m] (iG (Af1 R o m)):=by
 have h2:=Td gl R m;have h3:=Abo gl R o.Of.By;unfold Af1;refine Gh func439 ?_;cases b2:I6 R m with
 |true=>rw[b2] at h2;exact Ar [hf 9 h2] []
 |false=>
  rw[b2] at h2;cases b3:decide (DE R o.Of.By≠m) with
  |true=>exact Ar [hf 9 h2,hf 16 h3,hr 18 b3] []
  |false=>exact Ar [hf 9 h2,hf 16 h3,hr 18 b3] []
theorem Adq(R:Ad)(o:Bq)(m:Int):ba prog gl 442 [.ptr (CM R) 0,.agg (aJ o),iG m] (iG (AbA R o m)):=by
 have h5:=AhA R m;unfold AbA;refine Gh func442 ?_;cases b5:R.members.get m with
 |none=>rw[b5] at h5;exact Ar [hm 13 h5] []
 |some x=>
  rw[b5] at h5;obtain⟨role,gd⟩:=x;cases gd with
  |none=>exact Ar [hm 13 h5] []
  |some g=>
   dsimp only;cases b:decide (g.id=o.Of) with
   |true=>exact Ar [hm 13 h5,hV 33 (dy g.id o.Of (r:=false) (by rw[b];rfl))] []
   |false=>exact Ar [hm 13 h5,hV 33 (dy g.id o.Of (r:=true) (by rw[b];rfl))] []
def eQ{K V:Type}(m:FM K V)(seen:Br):List (K×V×Nat):=seen.filterMap λn=>m.es.find? λe=>Nat.beq e.2.2 n
theorem Sp{K V:Type}:∀{es:List (K×V×Nat)} {e:K×V×Nat},(es.map (·.2.2)).Nodup->e∈es->es.find? (λx=>Nat.beq x.2.2 e.2.2)=some e
 |[],e,_,h=>by cases h
 |x::r,e,hd,h=>by
  rw[Fe,MH] at hd;rcases EY.1 h with rfl|h
  .simp
  .have hb:Nat.beq x.2.2 e.2.2=false:=by grind [bc]
   rw[List.find?_cons,hb];exact Sp hd.2 h
theorem Af2(hm:FxOk m)(he:e∈m.es):eQ m (seen++[e.2.2])=eQ m seen++[e]:=by unfold eQ;rw[List.filterMap_append];simp[Sp hm.nd he]
theorem AiI{K V:Type}{m:FM K V}(hm:FxOk m):∀es:List (K×V×Nat),(∀e∈es,e∈m.es)->eQ m (es.map (·.2.2))=es
 |[],_=>rfl
 |e::r,h=>by have ih:=AiI hm r (by grind);unfold eQ at ih⊢;rw[Fe,List.filterMap_cons,Sp hm.nd (h e aC),ih]
theorem Adr(hm:FxOk m)(h:KsQ m seen)(ha:∀e∈m.es,e.2.2∈seen):(eQ m seen).Perm m.es:=by have hp:seen.Perm (m.es.map (·.2.2)):=(List.perm_ext_iff_of_nodup h.1 hm.nd).2 λn=>⟨h.2 n,(by grind)⟩;have h1:(eQ m seen).Perm (eQ m (m.es.map (·.2.2))):=hp.filterMap _;rwa [AiI hm m.es λe h=>h] at h1
theorem AjT(h:e∈eQ m seen):e∈m.es:=by grind [eQ]
theorem Al8:∀{seen:Br},KsQ m seen->(eQ m seen).Nodup
 |[],_=> .nil
 |n::r,h=>by grind [KsQ,eQ,bc]
abbrev dvE(d:Int)(l:List (C6×Int×Nat)):Bp:=(l.filter λe=>decide (e.1.device=d)).map (·.2.1)
theorem Aaw{m:FM C6 Int}(hk:(m.es.map (·.1)).Nodup)(hb:∀e∈m.es,1<=e.1.by_/\e.1.by_<=6){l:List (C6×Int×Nat)}(hn:l.Nodup)(hs:∀e∈l,e∈m.es)(d:Int):(dvE d l).length<=6:=by
 unfold dvE;rw[GJ];have key:∀l:List (C6×Int×Nat),l.Nodup->(∀e∈l,e∈m.es/\e.1.device=d)->(l.map (·.1.by_)).Nodup:=by
  intro l;induction l with
  |nil=>intro _ _;exact .nil
  |cons a r ih=>
   intro hn hs;rw[MH] at hn;rw[Fe,MH];refine⟨λhm=>?_,(by grind)⟩;obtain⟨b,hb,e⟩:=EH.1 hm;obtain⟨a1,a2⟩:=hs a aC;obtain⟨b1,b2⟩:=hs b (by simp[hb]);have:a.1=b.1:=by cases h1:a.1;cases h2:b.1;grind
   grind [Nz]
 have h2:=le6 (key _ (hn.sublist List.filter_sublist) λe he=>⟨hs e (IK.1 he).1,DS (IK.1 he).2⟩) λx hx=>by obtain⟨e,he,rfl⟩:=EH.1 hx;exact hb e (hs e (IK.1 he).1)
 rwa [GJ] at h2
def AcD(g:CD)(d:Int):Bp:=(inZ (dvE d g.vouches.es)).getD []
def ZH(R:Ad)(m d:Int):Int×Int:=match R.members.get m with
 |none=>(0,4)
 |some x=>match x.guard with
  |none=>(0,4)
  |some g=>bif ah (AcD g d)<g.need then(0,26)else bif g.objected&&decide ((AcD g d).getD 0 0<=g.last)then(0,28)else(wI ((AcD g d).getD (g.need.toNat-1) 0+g.wait),0)
abbrev frV(a:Nat){R:Ad}{k:Int}{x:AB}(_:R.members.get k=some x):Fr:=[(a,.ref (3+nM k) 0)]
abbrev miV{R:Ad}{k:Int}{x:AB}(_:R.members.get k=some x):Nat:=6+nM k
abbrev AhN(ρ:DF){R:Ad}(hR:Bj R){l:List (Nat×Ob)}(hl:∀q∈l,Bw f0 R q.1=some q.2)(h:okR ρ f0=true:=by kernel_rfl):List HP:=L0.map λk=>hc (show Y3 (HC ρ) (tg R l k) (tg R l k) from(aae hl k).symm▸PK (κ:=HC ρ) (f:=f0) (f':=f0) (λk ⟨ob,hk⟩=>Aak h (D3 hk)) hR k)
abbrev ρV:DF:=Gc f0++[(14,14),(15,18)]
abbrev kdV:List (Nat×Rk):=N3++[(15,.row)]
abbrev frD{R:Ad}{k:Int}{x:AB}(hx:R.members.get k=some x)(d:Int)(a:Bp):Fr:=frV 9 hx++[(2,iG d),(10,.rsl 15 0 a.length),(36,.ref 14 0)]
abbrev stD{R:Ad}{k:Int}{x:AB}(hx:R.members.get k=some x){l:List (Nat×Ob)}(hl:∀q∈l,Bw f0 R q.1=some q.2)(g:CD)(seen:Br)(a:Bp):aQ:=stT hl++[(14,Aam tMv (miV hx) g.vouches.clk seen),(15,Ko a)]
theorem AjU(hR:Bj R)(m d:Int):TG prog gl 445 [.ref 0 0,iG m,iG d] (BW f0 R) 14 14 (.tup [iG (ZH R m d).1,iG (ZH R m d).2]) (BW f0 R):=by
 have hr2:∀a b:Int,bB (.tup [iG a,iG b]):=λa b=>L7 λg hg=>by simp only[EY,LD,or_false] at hg;rcases hg with rfl|rfl<;>exact mN _
 refine dFP func445 ?_;unfold ZH;cases hx:R.members.get m with
 |none=>have hr:=hr2 0 4;exact Hh f0 _ hR [KJ 18 (Xj hx)] (Ht R hr)
 |some x=>
  have hlk:=Sh hx;obtain⟨j,hj,o⟩:∃j:Nat,m=(j:Int)/\(j=1\/j=2\/j=3):=by grind [Ahv]
  subst hj;obtain⟨role,gd⟩:=x;cases gd with
  |none=>
   have hl:=hl1 o hx;have hr:=hr2 0 4;rcases o with rfl|rfl|rfl
   all_goals
    refine pO 11100 (s0 88 gl (frP 8 hx++[(2,iG d)]) (stT hl) 14 14) [KJ 18 hlk] (rlT (Gc f0) f0 hR hl) ?_ (ρ:=Gc f0) (kd:=N3)
    exact Hh f0 _ hR [] (XK hl hr)
  |some g=>
   have hl:=hl3 o hx;have hv:=hR.cv _ _ g hx rfl;obtain⟨u,v⟩:=hR.gN _ _ g hx rfl;have hb:=hR.vb _ _ g hx rfl;have h6:=Aaw hv.kd hb (List.Pairwise.of_map (λx=>x.1) (λa b h e=>h (by rw[e])) hv.kd) (λe he=>he) d;obtain⟨srt,e1,p,s1⟩:=Adn (l:=dvE d g.vouches.es) aa;have hsr:∀q:Bp,q.Perm (dvE d g.vouches.es)->inZ q=some srt:=λq hk=>Ado s1 (hk.trans p.symm) (by rw[p.length_eq];omega);have hda:AcD g d=srt:=by unfold AcD;rw[e1];rfl
   dsimp only;rw[hda];have hadd:∀seen (e:C6×Int×Nat),e∈g.vouches.es->dvE d (eQ g.vouches (seen++[e.2.2]))=dvE d (eQ g.vouches seen)++(if e.1.device=d then[e.2.1] else[]):=λseen e he=>by grind [Af2,QN.toFxOk]
   rcases o with rfl|rfl|rfl
   all_goals
    refine pO 11100 (s0 88 gl (frP 8 hx++[(2,iG d)]) (stT hl) 14 14) [KJ 18 hlk] (rlT (Gc f0) f0 hR hl) ?_ (ρ:=Gc f0) (kd:=N3)
    refine pO 11111100 (s0 88 gl (frV 9 hx++[(2,iG d),(10,Iy)]) (stT hl) 14 14) [] (AhN (Gc f0) hR hl) ?_ (ρ:=Gc f0) (kd:=N3)
    refine yl (Bs':=[]) [1,1,1,1,1,0,0] (J:=(s0 88 gl (frD hx d []) (stD hx hl g [] []) 16 14)) [] (AhN ρD hR hl++[hc (rZ.imm [])]) ?_ (vs:=[3]) (kd:=kdV)
    refine dNx 11111101 ?_
    refine dMw 36 37 38 0 (iti:=14) (mi:=miV hx) (clock:=g.vouches.clk) (since:=g.vouches.clk) (T:=tMv) (ty:=tMv) (es:=UF B5 iG g.vouches) (λseen=>(s0 88 gl (frD hx d (dvE d (eQ g.vouches seen))) (stD hx hl g seen (dvE d (eQ g.vouches seen))) 16 14)) (KsQ g.vouches) Vv (λe he=>by obtain⟨x,hx,rfl⟩:=EH.1 he;exact hv.1.lt x hx) rfl (Le.refl _) (λseen=>aH) (λseen=>aH) (λseen=>⟨show 37<88 by decide,show 38<88 by decide⟩) (λB seen k w n hI Y6 hns c=>?_) (λseen hI hs=>?_)
    .obtain⟨e,he,s⟩:=EH.1 Y6
     simp only[Fq] at s
     obtain⟨rfl,rfl,rfl⟩:=s
     have hla:=Aaw hv.kd hb (Al8 hI) (λe he=>AjT he) d
     have c:=c (Vx hI he hns)
     rw[hadd seen e he] at c
     generalize dvE d (eQ g.vouches seen)=a at hla c⊢
     have hge:jr ((14,Aam tMv (miV hx) g.vouches.clk (seen++[e.2.2]))::stD hx hl g seen a) (.ref 14 0)=some (.tup [db (B5 e.1),iG e.2.1]):=yo (iti:=14) (mi:=miV hx) (since:=g.vouches.clk) (clock:=g.vouches.clk) (T:=tMv) (ty:=tMv) (seen:=seen) aH aH (by rw[Hi];exact hv.1.nd) Y6
     cases hdv:decide (e.1.device=d) with
     |false=>
      rw[BU (Mu hdv),KS] at c
      exact jw [YT 39 hge,hr 45 hdv] (hc (rfl:a.length=a.length)::AhN ρD hR hl++[hc (rZ.imm a)]) c [] ρD kdV
     |true=>
      rw[BB (DS hdv)] at c
      exact jw [YT 39 hge,hr 45 hdv,Tn 49 rZ 8 a e.2.1 aa] (hc (el (a++[e.2.1]))::AhN ρV hR hl++[hc (rZ.imm (a++[e.2.1]))]) c [] ρV kdV
    .have hp:=Adr hv.1 hI λe he=>hs (B5 e.1,iG e.2.1,e.2.2) (EH.2 ⟨e,he,rfl⟩)
     have hpa:(dvE d (eQ g.vouches seen)).Perm (dvE d g.vouches.es):=(hp.filter _).map _
     generalize dvE d (eQ g.vouches seen)=a at hpa⊢
     have hi:=hsr a hpa
     have hsl:srt.length=a.length:=by rw[p.length_eq,hpa.length_eq]
     have hal:a.length<=6:=by rw[hpa.length_eq];exact h6
     have hlz:decide ((a.length:Int)<g.need)=decide (ah srt<g.need):=by unfold ah;rw[hsl]
     cases c1:decide (ah srt<g.need) with
     |true=>
      have hr:=hr2 0 26
      exact Hh f0 _ hR [tN 51 [15] 16 [(15,Ko a)] [.rsl 15 0 a.length] [(0,Ko srt)] (PN gl aa hi) ⟨⟨rfl,.inr ⟨rfl,rZ.imm a⟩⟩,trivial⟩ ⟨⟨rfl,.inr ⟨rfl,rZ.imm srt⟩⟩,trivial⟩,Go.Proofs.YtdpdicldkohflaaGreatDoor.hr 59 (hlz.trans c1)] (XK hl hr)
     |false=>
      have hge:g.need<=ah srt:=by have:=Mu c1;omega
      have hz0:aS srt 0=some (srt.getD 0 0):=by grind [au]
      have h71:fh prog 22 (.rsl 15 0 a.length) 0=some (.ref 15 (0+(0:Int).toNat*1)):=by rw[<-hsl];exact rZ.ixrZ 15 hz0
      have f:=rZ.p10Z tZ hz0
      have hw1:wI (g.need-1)=((g.need.toNat-1:Nat):Int):=by grind [bM]
      have hz1:aS srt (wI (g.need-1))=some (srt.getD (g.need.toNat-1) 0):=by grind [au]
      have h81:fh prog 22 (.rsl 15 0 a.length) (wI (g.need-1))=some (.ref 15 (0+(wI (g.need-1)).toNat*1)):=by rw[<-hsl];exact rZ.ixrZ 15 hz1
      have i:=rZ.p10Z tZ hz1
      obtain⟨y,gg,gn,t,z,go,r⟩:=g
      dsimp only at*
      cases go with
      |false=>
       have hr:=hr2 (wI (srt.getD (gn.toNat-1) 0+t)) 0
       exact Hh f0 _ hR [tN 51 [15] 16 [(15,Ko a)] [.rsl 15 0 a.length] [(0,Ko srt)] (PN gl aa hi) ⟨⟨rfl,.inr ⟨rfl,rZ.imm a⟩⟩,trivial⟩ ⟨⟨rfl,.inr ⟨rfl,rZ.imm srt⟩⟩,trivial⟩,Go.Proofs.YtdpdicldkohflaaGreatDoor.hr 59 (hlz.trans c1),AH 81 h81,AH 82 i] (XK hl hr)
      |true=>
       cases c2:decide (srt.getD 0 0<=r) with
       |true=>
        have hr:=hr2 0 28
        exact Hh f0 _ hR [tN 51 [15] 16 [(15,Ko a)] [.rsl 15 0 a.length] [(0,Ko srt)] (PN gl aa hi) ⟨⟨rfl,.inr ⟨rfl,rZ.imm a⟩⟩,trivial⟩ ⟨⟨rfl,.inr ⟨rfl,rZ.imm srt⟩⟩,trivial⟩,Go.Proofs.YtdpdicldkohflaaGreatDoor.hr 59 (hlz.trans c1),AH 71 h71,AH 72 f,Go.Proofs.YtdpdicldkohflaaGreatDoor.hr 73 c2] (XK hl hr)
       |false=>
        have hr:=hr2 (wI (srt.getD (gn.toNat-1) 0+t)) 0
        exact Hh f0 _ hR [tN 51 [15] 16 [(15,Ko a)] [.rsl 15 0 a.length] [(0,Ko srt)] (PN gl aa hi) ⟨⟨rfl,.inr ⟨rfl,rZ.imm a⟩⟩,trivial⟩ ⟨⟨rfl,.inr ⟨rfl,rZ.imm srt⟩⟩,trivial⟩,Go.Proofs.YtdpdicldkohflaaGreatDoor.hr 59 (hlz.trans c1),AH 71 h71,AH 72 f,Go.Proofs.YtdpdicldkohflaaGreatDoor.hr 73 c2,AH 81 h81,AH 82 i] (XK hl hr)
end Go.Proofs.YtdpdicldkohflaaGreatDoor
