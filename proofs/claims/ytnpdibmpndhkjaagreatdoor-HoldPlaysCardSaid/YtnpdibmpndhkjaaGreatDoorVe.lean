/- Texts. -/
import Derived.Test.YtnpdibmpndhkjaaGreatDoorQB
namespace Go.Proofs.YtnpdibmpndhkjaaGreatDoor
set_option linter.unusedSectionVars false
set_option linter.unusedVariables false
set_option linter.unusedSimpArgs false
open Go.RowKit Tryz
variable (gl:List (Nat×List G))
variable {α:Type}{m:FM DHoldName Nat}{i k n p v:Nat}{r:List Bool}{a b x:DHoldName}{K d:Int}{fid:FuncId}{ops:Array Oper}{rest:List Oper}{o:DOp}{st:St}{l srt:List DHoldName}{e:DHoldName×Nat×Nat}{N:List DGraphNode}{g:D12G}{up:List Int}{c of_:DIdent}{w:D23H}{y:D23K}{s:A4W}
section
attribute [local irreducible] Tr dz Gp
def hmu(R:List Nat)(c:Nat){P:Program}{σ:aQ}{t:TypeId}{gm gk g:G}{i:Nat}{ob:Ob}(h:dZ P σ t gm gk g=some (i,ob)):HP:=⟨some (.e 999999998 (.lit undef) [(i,some ob)] c),(dZ P σ t gm gk g).map (λ(i,ob)=>(G.lit undef,[(i,some ob)],R,false,c))=some (.lit undef,[(i,some ob)],R,false,c),by rw[h];rfl⟩
abbrev mE(m:FM DIdent Int):oE:=m.es.map λe=>(ga e.1,iG e.2.1,e.2.2)
abbrev gMp(m:FM DIdent Int):G:= .mp ((mE m).map (·.1)) ((mE m).map (·.2.1)) ((mE m).map (·.2.2)) m.clk
abbrev oM(m:FM DIdent Int):Option Ob:=some ⟨164,[],some (.map (mE m) m.clk)⟩
abbrev oG(cs:List DCard)(n:Nat)(j:Nat):Option Ob:=some ⟨167,[aE bv cs,.mref 1,.rsl j 0 n],none⟩
abbrev zQ(N:List DGraphNode):Option Ob:=some ⟨173,N.flatMap d7,none⟩
theorem RJ(m:FM DIdent Int):FM.g ga iG m=gMp m:=by unfold FM.g gMp mE;simp only[List.map_map];rfl
theorem lkP{m:FM DIdent Int}{k:DIdent}{b:Bool}{v:Int}(h1:(m.get k).getD 0=v)(h2:(m.get k).isSome=b):bL prog [(1,oM m)] 164 true (.mref 1) (.agg (aj k))=some (.tup [iG v,bG b]):=by
 subst h1 h2;have hm:(mE m).map (·.1)=(m.es.map (·.1)).map ga:=by rw[List.map_map,List.map_map];rfl
 have hz:((prog.info? 3).bind (·.zero)).map db=some (iG 0):=aH;obtain⟨z,hz,hv⟩:=Option.map_eq_some_iff.1 hz;unfold bL;rw[show pB prog 164=some (50,3) from by kernel_rfl,show cD (.agg (aj k))=some (ga k) from rfl];dsimp only;rw[show gn [(1,oM m)] (.mref 1)=some (1,164,mE m,m.clk) from rfl];dsimp only;rw[jt.chk,ax,hm,jt.key];unfold FM.get;rcases fz k m.es with⟨h1,h2⟩|⟨j,e,h1,h2,h3⟩
 .rw[h1,h2,hz];show some (G.tup [db z,_])=_;rw[hv];rfl
 .rw[h1,h3];dsimp only;rw[List.getElem?_map,h2];rfl
theorem Zz{m:FM DIdent Int}{k:DIdent}{v:Int}(h1:(m.get k).getD 0=v):bL prog [(1,oM m)] 164 false (.mref 1) (.agg (aj k))=some (iG v):=by
 subst h1;have hm:(mE m).map (·.1)=(m.es.map (·.1)).map ga:=by rw[List.map_map,List.map_map];rfl
 have hz:((prog.info? 3).bind (·.zero)).map db=some (iG 0):=aH;obtain⟨z,hz,hv⟩:=Option.map_eq_some_iff.1 hz;unfold bL;rw[show pB prog 164=some (50,3) from by kernel_rfl,show cD (.agg (aj k))=some (ga k) from rfl];dsimp only;rw[show gn [(1,oM m)] (.mref 1)=some (1,164,mE m,m.clk) from rfl];dsimp only;rw[jt.chk,ax,hm,jt.key];unfold FM.get;rcases fz k m.es with⟨h1,h2⟩|⟨j,e,h1,h2,h3⟩
 .rw[h1,h2,hz];show some (db z)=_;rw[hv];rfl
 .rw[h1,h3];dsimp only;rw[List.getElem?_map,h2];rfl
def CW(m:FM DIdent Int)(k:DIdent)(n:Int):FM DIdent Int:=⟨m.es++[(k,n,m.clk)],m.clk+1⟩
theorem aa6{m:FM DIdent Int}{k:DIdent}(h:m.get k=none)(n:Int):dZ prog [(1,oM m)] 164 (.mref 1) (.agg (aj k)) (iG n)=some (1,⟨164,[],some (.map (mE (CW m k n)) (CW m k n).clk)⟩):=by
 have hm:(mE m).map (·.1)=(m.es.map (·.1)).map ga:=by rw[List.map_map,List.map_map];rfl
 unfold dZ;rw[show pB prog 164=some (50,3) from by kernel_rfl,show cD (.agg (aj k))=some (ga k) from rfl,show gn [(1,oM m)] (.mref 1)=some (1,164,mE m,m.clk) from rfl];dsimp only;rw[jt.chk,ax,hm,jt.key];rcases fz k m.es with⟨h1,h2⟩|⟨j,e,h1,h2,h3⟩
 .rw[h1];unfold CW mE;rw[List.map_append];rfl
 .unfold FM.get at h;rw[h3] at h;cases h
def W6(d:Nat){P:Program}{σ:aQ}{t:TypeId}{ok:Bool}{i:Nat}{gk g:G}(h:bL P σ t ok (.mref i) gk=some g):HP:=⟨some (.m d g),bL P σ t ok (.mref i) gk=some g,h⟩
structure AddP (cs:List DCard) (m:FM DIdent Int) (N:List DGraphNode) (o:DOp) (i:DIdent) (c:DCard) (kk:Nat):Prop where
 chk:ChkOk o kk
 sm:SmOp o
 cl:pG o=some o
 id:Rs o=some i
 fresh:m.get i=none
 room:N.length<200
 card:hY ⟨cs,m,N⟩ o.By=some (c,true)
 by_:o.By=c.Device
 sig:lq c.Sign (qc o) o.Sig=some true
 create:o.Kind=1->N=[]
 nPast:o.Past.length<1000000000
 par:∀x∈o.Past,∃n:Nat,m.get x=some (n:Int)/\n<200
abbrev z4:A4W:=⟨0,0,0,0⟩
def Z6(m:FM DIdent Int)(N:List DGraphNode)(l:List DIdent)(s:A4W×A4W×Int×Int×Int):Option ((A4W×A4W×Int×Int×Int)⊕(A4W×A4W×Int×Int)):=
 bif decide (s.2.2.2.2<ah l) then(aS l s.2.2.2.2).bind λx=>(aS N ((m.get x).getD 0)).bind λy=>some (.inl (yt s.1 ((m.get x).getD 0).toNat,vd s.2.1 y.past,gB s.2.2.1 y.o.At,gB s.2.2.2.1 (wI (y.level+1)),wI (s.2.2.2.2+1))) else some (.inr (s.1,s.2.1,s.2.2.1,s.2.2.2.1))
def ZA(s t:A4W):Nat->A4W
 |0=>s
 |1=>⟨bD s.a0 t.a0,s.a1,s.a2,s.a3⟩
 |2=>⟨bD s.a0 t.a0,bD s.a1 t.a1,s.a2,s.a3⟩
 |3=>⟨bD s.a0 t.a0,bD s.a1 t.a1,bD s.a2 t.a2,s.a3⟩
 |_=>⟨bD s.a0 t.a0,bD s.a1 t.a1,bD s.a2 t.a2,bD s.a3 t.a3⟩
def Z7(N:List DGraphNode)(o:DOp)(A:A4W)(s:Int×Bool×Int):Option ((Int×Bool×Int)⊕(Int×Bool)):=
 bif decide (s.2.2<ah N) then(aS N s.2.2).bind λy=>bif decide (y.o.By=o.By) then(iX A s.2.2).bind λh=>bif h then some (.inl (gB s.1 y.o.Seq,(bif s.2.1 then true else decide (y.o.Seq=wI (o.Seq-1))),wI (s.2.2+1))) else some (.inl (s.1,s.2.1,wI (s.2.2+1))) else some (.inl (s.1,s.2.1,wI (s.2.2+1))) else some (.inr (s.1,s.2.1))
section
variable {cs:List DCard} {m:FM DIdent Int} {N:List DGraphNode} {o:DOp} {i:DIdent} {c:DCard} {kk:Nat}
abbrev Z8(cs:List DCard)(m:FM DIdent Int)(N:List DGraphNode):G:= .ptr [aE bv cs,gMp m,aE d7 N] 0
theorem AddP.card'(h:AddP cs m N o i c kk):ba prog fI 98 [Z8 cs m N,iG o.By] (.tup [.agg (bv c),bG true]):=by have:=uN fI h.card;unfold di at this;rw[RJ] at this;exact this
theorem AddP.lacks'(h:AddP cs m N o i c kk):iV prog fI 100 [Z8 cs m N,.agg (aJ o)] 50 0 []:=by have:=RI fI (g:=⟨cs,m,N⟩) (o:=o) (λx hx=>by obtain⟨n,hn,_⟩:=h.par x hx;show(m.get x).isSome=true;rw[hn];rfl) h.nPast;unfold di at this;rw[RJ] at this;exact this
theorem cf(m:FM DIdent Int):∀e∈mE m,bB e.2.1:=λe he=>by obtain⟨x,_,rfl⟩:=List.mem_map.1 he;exact mN _
abbrev aa7(o:DOp)(a k:Int):Fr:=[(0,.ref 0 0),(3,.ptr (aJ o) 0),(6,.ref 3 0),(11,.ref 4 0),(12,.ref 5 0),(13,iG a),(80,aE aj o.Past),(81,iG (ah o.Past)),(82,iG k)]
abbrev Z9(cs:List DCard)(m:FM DIdent Int)(N:List DGraphNode)(x:DGraphNode)(p b:A4W):aQ:=[(0,oG cs N.length 2),(1,oM m),(2,zQ N),(3,OG x),(4,oA p),(5,oA b)]
theorem TZ(x:DGraphNode){n:Nat}(hn:n<256){r:Bool}(h:iX x.past (n:Int)=some r):ba prog fI 103 [.ptr (d7 x) 30,iG (n:Int)] (bG r):=by
 have hm:u9 (n:Int) 64=some ((n%64:Nat):Int):=by unfold u9;rw[if_neg a9,Int.tmod_eq_emod_of_nonneg aa];rfl
 have hcn:wJ ((n%64:Nat):Int)=some (n%64):=by unfold wJ;rw[if_neg aa];rfl
 have hq:∀q:Nat,n/64=q->Gg (n:Int) 64=some (q:Int):=λq e=>by unfold Gg;rw[if_neg a9,Int.tdiv_eq_ediv_of_nonneg aa,Mx aa];subst e;rfl
 have hd:wI (Int.tdiv (n:Int) 64)=((n/64:Nat):Int):=by rw[Int.tdiv_eq_ediv_of_nonneg aa,bM aa aa];rfl
 have ht:Int.tmod (n:Int) 64=((n%64:Nat):Int):=by rw[Int.tmod_eq_emod_of_nonneg aa];rfl
 unfold iX at h;rw[hd,ht,hcn] at h;refine Gh func103 ?_;have h4:n/64=0\/n/64=1\/n/64=2\/n/64=3:=aa;rcases h4 with e|e|e|e
 .rw[e] at h;obtain rfl:=bn h;exact Ar [hb 7 (Tt (hq 0 e)),hb 12 (KO hm),hV 13 (Am (P:=prog) (t:=23) x.past.a0 hcn),hV 14 (ju (P:=prog) (t:=23) (cw x.past.a0 (n%64)) 1)] []
 .rw[e] at h;obtain rfl:=bn h;exact Ar [hb 7 (Tt (hq 1 e)),hb 12 (KO hm),hV 13 (Am (P:=prog) (t:=23) x.past.a1 hcn),hV 14 (ju (P:=prog) (t:=23) (cw x.past.a1 (n%64)) 1)] []
 .rw[e] at h;obtain rfl:=bn h;exact Ar [hb 7 (Tt (hq 2 e)),hb 12 (KO hm),hV 13 (Am (P:=prog) (t:=23) x.past.a2 hcn),hV 14 (ju (P:=prog) (t:=23) (cw x.past.a2 (n%64)) 1)] []
 .rw[e] at h;obtain rfl:=bn h;exact Ar [hb 7 (Tt (hq 3 e)),hb 12 (KO hm),hV 13 (Am (P:=prog) (t:=23) x.past.a3 hcn),hV 14 (ju (P:=prog) (t:=23) (cw x.past.a3 (n%64)) 1)] []
theorem W7(h:AddP cs m N o i c kk){p b:A4W}{top lev:Int}(h1:loop (Z6 m N o.Past) (z4,z4,0,1,0)=some (p,b,top,lev))(h2:ZA p b 4=z4)(h3:decide (o.At<top)=false){last:Int}{fol:Bool}(h4:loop (Z7 N o (vd b p)) (0,false,0)=some (last,fol))(h5:decide (o.Seq<=last)=false)(h6:1<o.Seq->fol=true):jg prog fI 50 [.ref 0 0,.agg (aJ o)] [(0,oG cs N.length 2),(1,oM m),(2,zQ N)] 3 (iG 0) [(0,oG cs (N++[(⟨o,i,vd b p,lev⟩:DGraphNode)]).length 3),(1,oM (CW m i N.length)),(3,zQ (N++[⟨o,i,vd b p,lev⟩]))] 4:=by
 have l:=h.room;refine pP func50 ?_;refine pO 11111111100 (s0 234 fI [(0,.ref 0 0),(3,.ptr (aJ o) 0),(6,.ref 3 0)] [(0,oG cs N.length 2),(1,oM m),(2,zQ N),(3,OG ⟨o,i,z4,1⟩)] 4 3) [hf 24 (IW h.chk),hf 29 (Ds fI h.cl),hf 31 (TP fI h.sm h.id),W6 40 (lkP (m:=m) (k:=i) (v:=0) (b:=false) (by rw[h.fresh];rfl) (by rw[h.fresh];rfl)),hr 49 (show decide (200<=(N.length:Int))=false from decide_eq_false aa),hq 54 [Z8 cs m N,iG o.By] [hc (cf m),hc (az.al N)] h.card',hf 61 (OD fI h.sm h.by_ h.sig)] [hc (eB (gs:=aJ o) aH),hc (el N),hc (cf m),hc (az.imm N)] ?_ [] [(0,0),(1,1),(2,2),(3,4)] [(2,.row)];refine Ix 1111111110 (s0 234 fI [(0,.ref 0 0),(3,.ptr (aJ o) 0),(6,.ref 3 0)] [(0,oG cs N.length 2),(1,oM m),(2,zQ N),(3,OG ⟨o,i,z4,1⟩)] 4 3) ?_ λd=>?_;rotate_left
 .by_cases hk1:o.Kind=1
  .have e0:decide (0<(N.length:Int))=false:=by rw[h.create hk1];rfl
   exact yl 1111111110 [hr 65 (decide_eq_true hk1),hr 72 e0] [hc (el N),hc (cf m),hc (az.imm N)] d [] [(0,0),(1,1),(2,2),(3,3)] [(2,.row)]
  .exact yl 1111111110 [hr 65 (decide_eq_false hk1)] [hc (el N),hc (cf m),hc (az.imm N)] d [] [(0,0),(1,1),(2,2),(3,3)] [(2,.row)]
 refine Ix 111111111111101 (s0 234 fI [(0,.ref 0 0),(3,.ptr (aJ o) 0),(6,.ref 3 0),(11,.ref 4 0),(12,.ref 5 0),(13,iG top)] (Z9 cs m N ⟨o,i,z4,lev⟩ p b) 6 3) ?_ λd=>?_;rotate_left
 .refine pN (λs:A4W×A4W×Int×Int×Int=>(s0 234 fI (aa7 o s.2.2.1 s.2.2.2.2) (Z9 cs m N ⟨o,i,z4,s.2.2.2.1⟩ s.1 s.2.1) 6 3)) 11111111111110122 h1 [ho 76 [Z8 cs m N,.agg (aJ o)] [hc (cf m),hc (az.al N)] h.lacks' (λg hg=>by cases hg)] [hc (el N),hc (cf m),hc (az.imm N)] (λB s w hs k5 f=>?_) [] [(0,0),(1,1),(2,2),(3,3),(4,5),(5,6)] [(2,.row)];unfold Z6 at hs;rcases bC hs with⟨c1,hs⟩|⟨c1,hs⟩
  .obtain⟨x,j,hs⟩:=bS hs;obtain⟨n,r,hn⟩:=h.par x (bO (fH j).2);have ej:(m.get x).getD 0=(n:Int):=by rw[r];rfl
   rw[ej] at hs;obtain⟨y,a,hs⟩:=bS hs;obtain rfl:=bn hs;exact jw [hr 83 c1,hv 84 (ac.ixZ j),hv 85 (ac.ptZ aW j),W6 95 (Zz ej),hv 96 (az.ixrZ 2 a),W6 102 (Zz ej),tN 103 [4] 7 [(4,oA s.1)] [.ref 4 0,iG (n:Int)] [(0,oA (yt s.1 n))] (W0 fI s.1 aa) ⟨⟨rfl,.inl rfl⟩,trivial⟩ ⟨⟨rfl,.inl rfl⟩,trivial⟩,hv 107 (az.fs0Z aap aaq 30 a9 a),tN 108 [5] 7 [(5,oA s.2.1)] [.ref 5 0,.agg (FSq y.past)] [(0,oA (vd s.2.1 y.past))] (TX fI s.2.1 y.past) ⟨⟨rfl,.inl rfl⟩,trivial⟩ ⟨⟨rfl,.inl rfl⟩,trivial⟩,hv 114 (az.fd0Z tZ 3 a),hv 121 (az.fd0Z tZ 34 a)] [hc (el N),hc (cf m),hc (az.imm N)] (k5 _ rfl) [] [(0,0),(1,1),(2,2),(3,3),(4,4),(5,5)] [(2,.row)]
  .obtain rfl:=bn hs;have e:=f _ rfl;simp only[Prod.mk.injEq] at e;obtain⟨rfl,rfl,rfl,rfl⟩:=e;exact yl 111111111111101 [hr 83 c1] [hc (el N),hc (cf m),hc (az.imm N)] d [] [(0,0),(1,1),(2,2),(3,3),(4,4),(5,5)] [(2,.row)]
 refine Ix 11111111111111101 (s0 234 fI [(0,.ref 0 0),(3,.ptr (aJ o) 0),(6,.ref 3 0),(11,.ref 4 0),(12,.ref 5 0),(13,iG top),(17,.ref 6 0)] (Z9 cs m N ⟨o,i,z4,lev⟩ p b++[(6,oA z4)]) 7 3) ?_ λd=>?_;rotate_left
 .refine pN (λk:Nat=>(s0 234 fI [(0,.ref 0 0),(3,.ptr (aJ o) 0),(6,.ref 3 0),(11,.ref 4 0),(12,.ref 5 0),(13,iG top),(17,.ref 6 0),(127,iG (k:Int))] (Z9 cs m N ⟨o,i,z4,lev⟩ p b++[(6,oA (ZA p b k))]) 7 3)) 1111111111111110122 Li [] [hc (el N),hc (cf m),hc (az.imm N)] (λB k v hs k5 f=>?_) [] [(0,0),(1,1),(2,2),(3,3),(4,4),(5,5),(6,6)] [(2,.row)];rcases k with _|_|_|_|k
  .cases hs;exact jw [hV 136 (ju (P:=prog) (t:=23) p.a0 b.a0)] [hc (el N),hc (cf m),hc (az.imm N)] (k5 _ rfl) [] [(0,0),(1,1),(2,2),(3,3),(4,4),(5,5),(6,6)] [(2,.row)]
  .cases hs;exact jw [hV 136 (ju (P:=prog) (t:=23) p.a1 b.a1)] [hc (el N),hc (cf m),hc (az.imm N)] (k5 _ rfl) [] [(0,0),(1,1),(2,2),(3,3),(4,4),(5,5),(6,6)] [(2,.row)]
  .cases hs;exact jw [hV 136 (ju (P:=prog) (t:=23) p.a2 b.a2)] [hc (el N),hc (cf m),hc (az.imm N)] (k5 _ rfl) [] [(0,0),(1,1),(2,2),(3,3),(4,4),(5,5),(6,6)] [(2,.row)]
  .cases hs;exact jw [hV 136 (ju (P:=prog) (t:=23) p.a3 b.a3)] [hc (el N),hc (cf m),hc (az.imm N)] (k5 _ rfl) [] [(0,0),(1,1),(2,2),(3,3),(4,4),(5,5),(6,6)] [(2,.row)]
  .have e:ZA p b (k+1+1+1+1)=z4:=h2;rw[e];exact yl 11111111111111101 [hr 128 (show decide (((k+1+1+1+1:Nat):Int)<4)=false from decide_eq_false aa)] [hc (el N),hc (cf m),hc (az.imm N)] d [] [(0,0),(1,1),(2,2),(3,3),(4,4),(5,5),(6,6)] [(2,.row)]
 refine Ix 11111111111111111111101 (s0 234 fI [(0,.ref 0 0),(3,.ptr (aJ o) 0),(6,.ref 3 0),(19,iG last),(20,bG fol)] [(0,oG cs N.length 2),(1,oM m),(2,zQ N),(3,OG ⟨o,i,vd b p,lev⟩)] 4 3) ?_ λd=>?_;rotate_left
 .refine pN (λs:Int×Bool×Int=>(s0 234 fI [(0,.ref 0 0),(3,.ptr (aJ o) 0),(6,.ref 3 0),(19,iG s.1),(20,bG s.2.1),(157,iG (ah N)),(158,iG s.2.2)] [(0,oG cs N.length 2),(1,oM m),(2,zQ N),(3,OG ⟨o,i,vd b p,lev⟩)] 4 3)) 1111111111111111111110122 h4 [hr 146 h3,tN 152 [3] 7 [(3,OG ⟨o,i,b,lev⟩)] [.ref 3 30,.agg (FSq p)] [(0,OG ⟨o,i,vd b p,lev⟩)] (RE fI ⟨o,i,b,lev⟩ p) ⟨⟨rfl,.inl rfl⟩,trivial⟩ ⟨⟨rfl,.inl rfl⟩,trivial⟩] [hc (el N),hc (cf m),hc (az.imm N)] (λB s w hs k5 f=>?_) [] [(0,0),(1,1),(2,2),(3,3)] [(2,.row)];obtain⟨la,u,k⟩:=s;unfold Z7 at hs;dsimp only at hs;rcases bC hs with⟨c1,hs⟩|⟨c1,hs⟩
  .obtain⟨y,a,hs⟩:=bS hs;obtain⟨n,hn⟩:∃n:Nat,k=(n:Int):=⟨k.toNat,by have:=(fH a).1;omega⟩;rcases bC hs with⟨c2,hs⟩|⟨c2,hs⟩
   .obtain⟨q,eh,hs⟩:=bS hs;rw[hn] at eh;have eh:=TZ ⟨o,i,vd b p,lev⟩ (n:=n) (by have:=(cr (fH a).2).1;omega) eh;rw[<-hn] at eh;cases q
    .obtain rfl:=bn hs;exact jw [hr 159 c1,hv 166 (az.ixrZ 2 a),hv 171 (az.fd0Z tZ 0 a),hr 174 c2,hq 178 [.ptr (d7 ⟨o,i,vd b p,lev⟩) 30,iG k] [] eh] [hc (el N),hc (cf m),hc (az.imm N)] (k5 _ rfl) [] [(0,0),(1,1),(2,2),(3,3)] [(2,.row)]
    .obtain rfl:=bn hs;cases u
     .exact jw [hr 159 c1,hv 166 (az.ixrZ 2 a),hv 171 (az.fd0Z tZ 0 a),hr 174 c2,hq 178 [.ptr (d7 ⟨o,i,vd b p,lev⟩) 30,iG k] [] eh,hv 185 (az.fd0Z tZ 1 a),hv 193 (az.fd0Z tZ 1 a),hr 197 (rfl:decide (y.o.Seq=wI (o.Seq-1))=decide (y.o.Seq=wI (o.Seq-1)))] [hc (el N),hc (cf m),hc (az.imm N)] (k5 _ rfl) [] [(0,0),(1,1),(2,2),(3,3)] [(2,.row)]
     .exact jw [hr 159 c1,hv 166 (az.ixrZ 2 a),hv 171 (az.fd0Z tZ 0 a),hr 174 c2,hq 178 [.ptr (d7 ⟨o,i,vd b p,lev⟩) 30,iG k] [] eh,hv 185 (az.fd0Z tZ 1 a)] [hc (el N),hc (cf m),hc (az.imm N)] (k5 _ rfl) [] [(0,0),(1,1),(2,2),(3,3)] [(2,.row)]
   .obtain rfl:=bn hs;exact jw [hr 159 c1,hv 166 (az.ixrZ 2 a),hv 171 (az.fd0Z tZ 0 a),hr 174 c2] [hc (el N),hc (cf m),hc (az.imm N)] (k5 _ rfl) [] [(0,0),(1,1),(2,2),(3,3)] [(2,.row)]
  .obtain rfl:=bn hs;have e:=f _ rfl;simp only[Prod.mk.injEq] at e;obtain⟨rfl,rfl⟩:=e;exact yl 11111111111111111111101 [hr 159 c1] [hc (el N),hc (cf m),hc (az.imm N)] d [] [(0,0),(1,1),(2,2),(3,3)] [(2,.row)]
 refine pO 111111111111111111111100 (s0 234 fI [(0,.ref 0 0),(3,.ptr (aJ o) 0),(6,.ref 3 0),(19,iG last),(20,bG fol)] [(0,oG cs N.length 2),(1,oM m),(2,zQ N),(3,OG ⟨o,i,vd b p,lev⟩)] 4 3) [] [hc (el N),hc (cf m),hc (az.imm N)] ?_ [] [(0,0),(1,1),(2,2),(3,3)] [(2,.row)];refine Ix 11111111111111111111110 (s0 234 fI [(0,.ref 0 0),(3,.ptr (aJ o) 0),(6,.ref 3 0)] [(0,oG cs N.length 2),(1,oM m),(2,zQ N),(3,OG ⟨o,i,vd b p,lev⟩)] 4 3) ?_ λd=>?_;rotate_left
 .by_cases hs1:1<o.Seq
  .obtain rfl:=h6 hs1;exact yl 11111111111111111111110 [hr 203 h5,hr 207 (decide_eq_true hs1)] [hc (el N),hc (cf m),hc (az.imm N)] d [] [(0,0),(1,1),(2,2),(3,3)] [(2,.row)]
  .exact yl 11111111111111111111110 [hr 203 h5,hr 207 (decide_eq_false hs1)] [hc (el N),hc (cf m),hc (az.imm N)] d [] [(0,0),(1,1),(2,2),(3,3)] [(2,.row)]
 exact mt .ret (s0 234 fI [(4,iG 0)] [(0,oG cs (N++[(⟨o,i,vd b p,lev⟩:DGraphNode)]).length 3),(1,oM (CW m i N.length)),(3,zQ (N++[⟨o,i,vd b p,lev⟩]))] 4 3) [iG 0] [hmu [1] 4 (aa6 h.fresh N.length),Tn 231 az 392 N ⟨o,i,vd b p,lev⟩ aa] [hc (el (N++[⟨o,i,vd b p,lev⟩])),hc (cf (CW m i N.length)),hc (az.imm (N++[⟨o,i,vd b p,lev⟩]))] (ρ:=rI 3++[(3,5)]) (kd:=[(3,.row)])
end
end
section
attribute [local irreducible] Tr dz Gp
theorem ZB(l:List DCard):∀g∈l.flatMap bv,∃v,g= .lit v:=Gj (λx g hg=>by simp only[bv,List.mem_cons,List.not_mem_nil,or_false] at hg;rcases hg with rfl|rfl|rfl|rfl|rfl<;>exact⟨_,rfl⟩) l
theorem W8{cs:List DCard}(h:xf cs):jg prog gl 49 [aE bv cs] [] 0 (.ref 0 0) [(0,oG cs 0 2),(1,oM ⟨[],0⟩),(2,zQ [])] 3:=by
 have hcl:gv cs=some cs:=by unfold gv aT;rw[if_pos (by have:=h.1;simp;omega)];rfl
 refine pP func49 ?_;exact mt .ret (s0 15 gl [(2,.ref 0 0)] [(0,oG cs 0 2),(1,oM ⟨[],0⟩),(2,zQ [])] 3 0) [.ref 0 0] [ho 5 [aE bv cs] [] (tn gl hcl) (ZB _),hz 13 [0] (wS (i:=0) (c:=3) aH (Lh gl h) (aG 20 _ aH) (bT.imm cs) a9 (by rfl) (w5 (zr wZ)))] [hc (bT.al cs),hc (cf ⟨[],0⟩),hc (az.imm [])] (vs:=[173]) (ρ:=[(0,2),(1,1),(2,3)]) (kd:=[(2,.row)])
end
section
attribute [local irreducible] Tr dz Gp
abbrev DC(m:FM DHoldName Nat):oE:=m.es.map λe=>(bU e.1,uG (e.2.1:Nat),e.2.2)
abbrev eI(m:FM DHoldName Nat):Option Ob:=some ⟨80,[],some (.map (DC m) m.clk)⟩
abbrev oH(d:Int)(j:Nat):Option Ob:=some ⟨82,[iG d,.mref j],none⟩
def tt{K V:Type}[DecidableEq K](m:FM K V)(k:K)(p:V):FM K V:=match bu k (m.es.map (·.1)) with
 |none=>⟨m.es++[(k,p,m.clk)],m.clk+1⟩
 |some j=>⟨m.es.set j (k,p,(m.es[j]?.map (·.2.2)).getD 0),m.clk⟩
theorem aN(m:FM DHoldName Nat):∀e∈DC m,bB e.2.1:=λe he=>by obtain⟨x,_,rfl⟩:=List.mem_map.1 he;exact mN _
theorem mf{K:Type}[DecidableEq K]{k:K}:∀{l:List K} {j:Nat},bu k l=some j->l[j]?=some k
 |[],j,h=>by cases h
 |x::r,j,h=>by
  unfold bu at h;split at h
  .rename_i e;cases h;rw[e];rfl
  .rw[cn] at h;obtain⟨n,h,rfl⟩:=h;simpa using mf h
theorem ZH(k:DHoldName):Instr.sameBits 10000 (bU k) (bU k)=true:=by unfold bU f7;simp[Instr.sameBits]
theorem aa8(m:FM DHoldName Nat)(k:DHoldName)(p:Nat):dZ prog [(1,eI m)] 80 (.mref 1) (.agg (bj k)) (uG p)=some (1,⟨80,[],some (.map (DC (tt m k p)) (tt m k p).clk)⟩):=by
 have hm:(DC m).map (·.1)=(m.es.map (·.1)).map bU:=by rw[List.map_map,List.map_map];rfl
 unfold dZ;rw[show pB prog 80=some (74,23) from by kernel_rfl,show cD (.agg (bj k))=some (bU k) from rfl,show gn [(1,eI m)] (.mref 1)=some (1,80,DC m,m.clk) from rfl];dsimp only;rw[fk.chk,ax,hm,fk.key];unfold tt;cases hk:bu k (m.es.map (·.1)) with
 |none=>dsimp only;unfold DC;rw[List.map_append];rfl
 |some j=>have hj:=mf hk;rw[List.getElem?_map,cn] at hj;obtain⟨e,he,rfl⟩:=hj;dsimp only;rw[show(DC m)[j]?=some (bU e.1,uG (e.2.1:Nat),e.2.2) by rw[List.getElem?_map,he];rfl];dsimp only;rw[ZH,ax,he];unfold DC;rw[List.map_set];rfl
def O4(k:Nat):FM DHoldName Nat:=⟨[(⟨⟨0,0,0⟩,0⟩,k,0)],1⟩
theorem Lm(d:Int)(k:Nat):jg prog gl 19 [iG d,uG k] [] 0 (.ref 0 0) [(0,oH d 1),(1,eI (O4 k))] 2:=by refine pP func19 ?_;exact mt .ret (s0 12 gl [(4,.ref 0 0)] [(0,oH d 1),(1,eI (O4 k))] 2 0) [.ref 0 0] [] [hc (aN (O4 k))] (ρ:=[(0,1),(1,0)])
theorem RT(i:DIdent)(n:Int)(p:Nat):jg prog gl 22 [.ref 0 0,.agg (aj i),iG n,uG p] [(0,oH d 1),(1,eI m)] 2 (.tup []) [(0,oH d 1),(1,eI (tt m ⟨i,n⟩ p))] 2:=by refine pP func22 ?_;exact mt .normal (s0 16 gl [] [(0,oH d 1),(1,eI (tt m ⟨i,n⟩ p))] 2 2) [] [hmu [1] 3 (aa8 m ⟨i,n⟩ p)] [hc (aN (tt m ⟨i,n⟩ p))] (ρ:=[(0,0),(1,1)])
end
section
variable {P:Program}
def U5(P:Program)(gl:List (Nat×List G))(fid:FuncId)(gs:List G)(σR:aQ)(c:Nat){ι:Type}(g:ι->G)(U:ι->aQ)(c':ι->Nat):Prop:=∀(o:Oper) (st:St) (y:Operand) (xs:Array Operand) (ats:Array TypeId) (fst cap:List G),o.op= .call {callee:= .value y,args:=xs,argTypes:=ats}->(∀d,o.dst=some d->d<st.n)->aB st y= .clo (.func fid) fst cap->fst++xs.toList.map (aB st)++cap=gs->st.gl=gl->(∀q∈σR,ag st.σ q.1=q.2)->st.c=c->th P o st (λs=>∃x,s={st with σ:=U x++st.σ,c:=c' x}.put o.dst (g x))
theorem U6{gl:List (Nat×List G)}{gs0 gs:List G}{ι:Type}{σ0 σR:aQ}{σ1:ι->aQ}{r g:ι->G}{c:Nat}{c1 c':ι->Nat}(L:List Nat)(U:ι->aQ)(hM:Xx P gl fid gs0 σ0 L.length r σ1 c1)
  (hin:w6 (vi L) σR σ0 0 L) (d:∀x,oI (eD L c) (σ1 x) (U x)) (hlt:L.all (λi=>Nat.blt i c)=true:=by kernel_rfl) (hnd:decide L.Nodup=true:=by kernel_rfl) (hgs:gs.map (qg (vi L) 20)=gs0:=by kernel_rfl)
  (hk0:σ0.all (λq=>Nat.blt q.1 L.length)=true:=by kernel_rfl) (hcov:∀x,(List.range L.length).all (λk=>(U x).any λq=>Nat.beq q.1 k)=true) (hg:∀x,qg (eD L c) 20 (r x)=g x) (hc:∀x,c+(c1 x-L.length)=c' x) (z:σR.all (λq=>q.2.isSome)=true:=by kernel_rfl):U5 P gl fid gs σR c g (λx=>zO L c (U x)) c':=by
 intro o st y xs ats fst cap ho hd hf j hgl hq hsc
 have n:=hin.get
 have hgetR:∀i o,ag σR i=some o->ag st.σ i=some o:=λi o u=>by
  have:∀l:aQ,(∀q∈l,q∈σR)->ag l i=some o->ag st.σ i=some o:=by
   intro l;induction l with
   |nil=>intro _ h;cases h
   |cons q t ih=>
    intro hs h;rw[show(q::t:aQ)=(q.1,q.2)::t from rfl,am] at h;split at h
    .rename_i e;subst e;rw[hq q (hs q aC)];exact h
    .exact ih (λx hx=>hs x (by simp[hx])) h
  exact this σR (λ_ h=>h) u
 have key:=MC (o:=o) (st:=st) (f:=y) (xs:=xs) (ats:=ats) (fid:=fid) (fst:=fst) (cap:=cap) L (gs0:=gs0) (σ0:=σ0) (r:=r) (σ1:=σ1) (c1:=c1) ho hd hf (by rw[hgl];exact hM) (λk i hk=>by
   have:=List.all_eq_true.1 hlt i (bO hk);rw[hsc];exact cm this) (of_decide_eq_true hnd) (by rw[j,hgs]) (λk i hk=>by
   obtain⟨o,o0,h1,h2,h3⟩:=n k i hk;rw[Nat.zero_add] at h2;exact⟨o,o0,hgetR i o h1,h2,h3⟩) (λk o hkk=>by
   have:∀l:aQ,(∀q∈l,q∈σ0)->ag l k=some o->k<L.length:=by
    intro l;induction l with
    |nil=>intro _ h;cases h
    |cons q t ih=>
     intro hs h;rw[show(q::t:aQ)=(q.1,q.2)::t from rfl,am] at h;split at h
     .rename_i e;subst e;exact cm (List.all_eq_true.1 hk0 q (hs q aC))
     .exact ih (λx hx=>hs x (by simp[hx])) h
   exact this σ0 (λ_ h=>h) hkk) (λx=>zO L c (U x)++st.σ) (λx i o u=>by
   have:∀l:aQ,(∀q∈l,q∈U x)->ag (zO L c l++st.σ) i=some o->(∃k,(k,some o)∈U x/\eD L c k=some i)\/(ag st.σ i=some o/\∀q∈l,eD L c q.1≠some i):=by
    intro l;induction l with
    |nil=>intro _ h;exact .inr ⟨h,λq hq=>by cases hq⟩
    |cons q t ih=>
     intro hs h;obtain⟨A,hi'⟩:=Gl L c q.1;rw[show zO L c (q::t)++st.σ=((eD L c q.1).getD 0,q.2)::(zO L c t++st.σ) from rfl,hi',Option.getD_some,am] at h;split at h
     .rename_i e;subst e;exact .inl ⟨q.1,by rw[<-h];exact hs q aC,hi'⟩
     .rename_i hne;rcases ih (λy hy=>hs y (by simp[hy])) h with h|⟨h,h2⟩
      .exact .inl h
      .refine .inr ⟨h,λy hy=>?_⟩;rcases List.mem_cons.1 hy with rfl|hy
       .rw[hi'];intro e;cases e;exact hne rfl
       .exact h2 y hy
   rcases this (U x) (λ_ h=>h) u with⟨k,b,h1⟩|⟨h1,h2⟩
   .obtain⟨o1,e1,e2⟩:=(d x).get k o b;exact .inl ⟨k,o1,by rw[hsc];exact h1,e1,by rw[hsc];exact e2⟩
   .refine .inr ⟨h1,λhi=>?_⟩;obtain⟨k,hk⟩:=List.getElem?_of_mem hi;have hkl:=(cr hk).1;obtain⟨q,b,he⟩:=List.any_eq_true.1 (List.all_eq_true.1 (hcov x) k (List.mem_range.2 hkl));refine h2 q b ?_;rw[bc he];unfold eD;rw[hk])
 exact λcx a w K R hr v=>key cx a w K R hr λs ⟨x,hs⟩=>v s ⟨x,by rw[hs,hsc,hg,hc]⟩
end
section
variable {P:Program} [M:Mix P] {st:St} {Q:Exit->St->Prop} {fn:Func} {Bs:List (St->Prop)} {m:Bool} {p:List Nat} {ι:Type}
def YV(a b d:Nat):Code->Bool
 | .region _ ops false=>match ops.toList with
  |[⟨some a',.move _,_,_,_,none⟩,⟨some b',.call {callee:= .value _,args:=_,argTypes:=_},_,_,_,none⟩,⟨some d',.assign (.tmp b2),_,_,_,none⟩]=>Nat.beq a' a&&Nat.beq b' b&&Nat.beq d' d&&Nat.beq b2 b
  |_=>false
 |_=>false
def Z0:Code->Operand
 | .region _ ops _=>match ops.toList with
  |[⟨_,.move x,_,_,_,_⟩,_,_]=>x
  |_=> .tmp 0
 |_=> .tmp 0
def c3Y:Code->Operand
 | .region _ ops _=>match ops.toList with
  |[_,⟨_,.call {callee:= .value y,args:=_,argTypes:=_},_,_,_,_⟩,_]=>y
  |_=> .tmp 0
 |_=> .tmp 0
def c3A:Code->List Operand
 | .region _ ops _=>match ops.toList with
  |[_,⟨_,.call {callee:= .value _,args:=xs,argTypes:=_},_,_,_,_⟩,_]=>xs.toList
  |_=>[]
 |_=>[]
theorem U7{K:St->Prop}{o:Oper}{st st1:St}(hg:o.guard=none)(hs:GS P o st st1)(h:vU P ops K rest st1):vU P ops K (o::rest) st:= .inl ⟨by simp[ce,hg],hs.gsn.eqv λs hs'=>⟨s,by rw[hs'];exact h,Eqv.refl _⟩⟩
theorem YW{K:St->Prop}{o:Oper}{st:St}{S:St->Prop}(hg:o.guard=none)(hs:th P o st S)(h:∀s,S s->vU P ops K rest s):vU P ops K (o::rest) st:= .inl ⟨by simp[ce,hg],hs.eqv λs hs'=>⟨s,h s hs',Eqv.refl _⟩⟩
theorem dCl(a b d:Nat){gs:List G}{σR:aQ}{g:ι->G}{U:ι->aQ}{c':ι->Nat}{fst cap:List G}(hF:U5 P st.gl fid gs σR st.c g U c')
  (h:∀x,Gp P fn Q Bs true p {st with fr:=(d,g x)::(b,g x)::(a,aB st (Z0 (bq p (ai fn))))::st.fr,σ:=U x++st.σ,c:=c' x})
  (hi:YV a b d (bq p (ai fn))=true:=by kernel_rfl) (hy:aB {st with fr:=(a,aB st (Z0 (bq p (ai fn))))::st.fr} (c3Y (bq p (ai fn)))= .clo (.func fid) fst cap:=by kernel_rfl)
  (hx:fst++(c3A (bq p (ai fn))).map (aB {st with fr:=(a,aB st (Z0 (bq p (ai fn))))::st.fr})++cap=gs:=by kernel_rfl)
  (i:σR.map (λq=>ag st.σ q.1)=σR.map (·.2):=by kernel_rfl) (hn:(Nat.blt a st.n&&Nat.blt b st.n&&Nat.blt d st.n)=true:=by kernel_rfl):Gp P fn Q Bs false p st:=by
 show Tr P (bq p (ai fn)) st (dz P (bE p (ai fn) Bs []) Q)
 replace h:∀x,dz P (bE p (ai fn) Bs []) Q .normal _:=h
 revert hi hy hx h
 generalize bq p (ai fn)=c
 intro hi hy hx h
 unfold YV at hi
 split at hi
 .rename_i id ops
  split at hi
  .rename_i C x o t f1 D y xs ats t2 u f2 E b2 v A B hops
   simp only[bA] at hi hn
   obtain⟨⟨⟨k1,k2⟩,k3⟩,j⟩:=hi
   obtain⟨⟨n1,n2⟩,k⟩:=hn
   obtain rfl:=bc k1
   obtain rfl:=bc k2
   obtain rfl:=bc k3
   obtain rfl:=bc j
   have e:=congrArg List.toArray hops
   rw[Array.toArray_toList] at e
   subst e
   simp only[Z0,c3Y,c3A] at h hy hx
   refine lG (U7 rfl (fM (g:=aB st x) (λz hz=>by cases hz;exact cm n1) rfl) (YW rfl (hF _ _ y xs ats fst cap rfl (λz hz=>by cases hz;exact cm n2) hy hx rfl (λq hq=>?_) rfl) ?_))
   .have:∀l:aQ,l.map (λq=>ag st.σ q.1)=l.map (·.2)->∀q∈l,ag st.σ q.1=q.2:=by
     intro l;induction l with
     |nil=>intro _ q hq;cases hq
     |cons z r ih=>
      intro f q hq;simp only[List.map_cons,List.cons.injEq] at f;rcases List.mem_cons.1 hq with rfl|hq
      .exact f.1
      .exact ih f.2 q hq
    exact this σR i q hq
   .rintro s ⟨z,rfl⟩
    refine U7 rfl (fM (g:=g z) (λw hw=>by cases hw;exact cm k) ?_) (h z)
    exact congrArg some ((aO ..).trans (if_pos rfl))
  .cases hi
 .cases hi
def YX(P:Program)(fn:Func)(gl:List (Nat×List G)){ι:Type}(r:ι->G)(σ1:ι->aQ)(c1:ι->Nat)(e:Exit)(s:St):Prop:=(e= .normal\/e= .ret)/\s.gl=gl/\∃x,(∀k o,ag (σ1 x) k=some o->ag s.σ k=some o)/\s.c=c1 x/\∃a,fn.results.toList.mapM (jV P s)=some a/\r x=iU a
theorem YY{gl:List (Nat×List G)}{r:ι->G}{σ1:ι->aQ}{c1:ι->Nat}{ex:Exit}{S0:St}(x:ι)(h:Ok P fn gl (r x) (σ1 x) (c1 x) ex S0):YX P fn gl r σ1 c1 ex S0:=by obtain⟨h1,h2,h3,h4,h5⟩:=h;exact⟨h1,h2,x,h3,h4,h5⟩
theorem dMF{gl:List (Nat×List G)}{f:FuncId}{gs:List G}{σ0:aQ}{c0:Nat}{r:ι->G}{σ1:ι->aQ}{c1:ι->Nat}(hf:P.funcs[f]?=some fn)(h:Gp P fn (YX P fn gl r σ1 c1) [] false [] ⟨fn.ntmps,gl,bQ 0 gs,σ0,c0,c0,false⟩)(hc:aK P f=true:=by kernel_rfl)(hb:fn.body.isSome=true:=by kernel_rfl)(hn:Nat.ble gs.length fn.ntmps=true:=by kernel_rfl):Xx P gl f gs σ0 c0 r σ1 c1:=by
 obtain⟨body,hb'⟩:=Option.isSome_iff_exists.1 hb;refine⟨hc,fn,body,hf,hb',cm hn,?_⟩;have e:ai fn=body:=by unfold ai;rw[hb'];rfl
 rw[<-e];exact Tr.leQ h
end
section
attribute [local irreducible] Tr dz Gp
theorem av:RowTy prog 71 74 4 bj:=⟨aH,aH,a9,λ_=>rfl,λ_=>rfl⟩
abbrev pU(l:List DHoldName):Option Ob:=some ⟨74,l.flatMap bj,none⟩
abbrev oP:G:= .clo (.func 54) [] []
def GD(s:List DHoldName×Int):Option ((List DHoldName×Int)⊕(List DHoldName)):=
 bif decide (0<s.2) then(aS s.1 s.2).bind λa=>(aS s.1 (wI (s.2-1))).bind λb=>(wz a b).bind λr=>bif decide (r<0) then(ji s.1 s.2 b).bind λc=>(ji c (wI (s.2-1)) a).bind λd=>some (.inl (d,wI (s.2-1))) else some (.inr s.1) else some (.inr s.1)
def Ln(n:Int)(s:List DHoldName×Int):Option ((List DHoldName×Int)⊕(List DHoldName)):=
 bif decide (s.2<n) then(loop GD (s.1,s.2)).bind λl=>some (.inl (l,wI (s.2+1))) else some (.inr s.1)
def So(l:List DHoldName):Option (List DHoldName):=loop (Ln (ah l)) (l,wI (0+1))
theorem aa9{c d:List DHoldName}{i j:Int}(h1:ji l i b=some c)(h2:ji c j a=some d):fh prog 71 (.rsl 0 0 l.length) j=some (.ref 0 (0+j.toNat*4)):=by rw[hZ h1];exact av.ixsZ 0 h2
theorem T9{r:List DHoldName}(h:So l=some r):jg prog gl 268 [.rsl 0 0 l.length,iG 0,iG (ah l),oP] [(0,pU l)] 1 (.tup []) [(0,pU r)] 1:=by
 unfold So at h;refine pP func268 ?_;refine pN (λs:List DHoldName×Int=>(s0 53 gl [(0,.rsl 0 0 s.1.length),(1,iG 0),(2,iG (ah l)),(3,oP),(8,iG s.2)] [(0,pU s.1)] 1 1)) 1122 h [] [hc (el l),hc (aG 20 oP aH),hc (av.imm l)] (λB s w hs k5 g=>?_) [] [(0,0)] [(0,.row)];obtain⟨l1,i⟩:=s;unfold Ln at hs;dsimp only at hs;rcases bC hs with⟨b1,hs⟩|⟨b1,hs⟩
 .obtain⟨l2,e2,hs⟩:=bS hs;obtain rfl:=bn hs;refine Ix 11221021 (s0 53 gl [(0,.rsl 0 0 l2.length),(1,iG 0),(2,iG (ah l)),(3,oP),(8,iG i)] [(0,pU l2)] 1 1) ?_ λe=>?_
  .exact jw [] [hc (el l2),hc (aG 20 oP aH),hc (av.imm l2)] (k5 _ rfl) [] [(0,0)] [(0,.row)]
  refine pN (λs:List DHoldName×Int=>(s0 53 gl [(0,.rsl 0 0 s.1.length),(1,iG 0),(2,iG (ah l)),(3,oP),(8,iG i),(9,iG s.2)] [(0,pU s.1)] 1 1)) 1122102122 e2 [hr 14 b1] [hc (el l1),hc (aG 20 oP aH),hc (av.imm l1)] (λn z v hz k c=>?_) [] [(0,0)] [(0,.row)];obtain⟨l3,j⟩:=z;unfold GD at hz;dsimp only at hz;rcases bC hz with⟨b2,hz⟩|⟨b2,hz⟩
  .obtain⟨a,ea,hz⟩:=bS hz;obtain⟨b,eb,hz⟩:=bS hz;obtain⟨o,f,hz⟩:=bS hz;rcases bC hz with⟨b3,hz⟩|⟨b3,hz⟩
   .obtain⟨m,e1,hz⟩:=bS hz;obtain⟨d,e3,hz⟩:=bS hz;obtain rfl:=bn hz;exact jw [hr 20 b2,hv 25 (av.ixrZ 0 ea),hv 26 (av.pt0Z ee ea),hv 30 (av.ixrZ 0 eb),hv 31 (av.pt0Z ee eb),hf 32 (yW gl f),hr 33 b3,hv 45 (av.ixrZ 0 eb),hv 46 (av.pt0Z ee eb),hv 49 (av.ixrZ 0 ea),hv 50 (av.pt0Z ee ea),hv 51 (av.ixsZ 0 e1),hw 51 (m.flatMap bj) (av.putZ e1),hv 52 (aa9 e1 e3),hw 52 (d.flatMap bj) (av.putZ e3)] [hc ((hZ e1).trans (hZ e3)),hc (aG 20 oP aH),hc (av.imm d)] (k _ rfl) [] [(0,0)] [(0,.row)]
   .obtain rfl:=bn hz;obtain rfl:=c _ rfl;exact yl 11221021 [hr 20 b2,hv 25 (av.ixrZ 0 ea),hv 26 (av.pt0Z ee ea),hv 30 (av.ixrZ 0 eb),hv 31 (av.pt0Z ee eb),hf 32 (yW gl f),hr 33 b3] [hc (el l3),hc (aG 20 oP aH),hc (av.imm l3)] e [] [(0,0)] [(0,.row)]
  .obtain rfl:=bn hz;obtain rfl:=c _ rfl;exact yl 11221021 [hr 20 b2] [hc (el l3),hc (aG 20 oP aH),hc (av.imm l3)] e [] [(0,0)] [(0,.row)]
 .obtain rfl:=bn hs;obtain rfl:=g _ rfl;exact mt .normal (s0 53 gl [] [(0,pU l1)] 1 1) [] [hr 14 b1] [hc (av.imm l1)] (ρ:=[(0,0)]) (kd:=[(0,.row)])
theorem Ua{r:List DHoldName}(hl:l.length<=12)(h:So l=some r)(k:Int):jg prog gl 176 [.rsl 0 0 l.length,iG 0,iG (ah l),iG k,oP] [(0,pU l)] 1 (.tup []) [(0,pU r)] 1:=by
 have e:wI (ah l-0)=ah l:=by rw[bM (by unfold ah;omega) (by unfold ah;omega)];omega
 have hd:decide (wI (ah l-0)<=12)=true:=by rw[e];exact decide_eq_true (by unfold ah;omega)
 refine pP func176 ?_;refine pN (λ_:Unit=>(s0 148 gl [(0,.rsl 0 0 l.length),(1,iG 0),(2,iG (ah l)),(3,iG k),(4,oP)] [(0,pU l)] 1 1)) 11122 Lg [] [hc (el l),hc (aG 20 oP aH),hc (av.imm l)] (λa z v hz2 b c=>?_) [] [(0,0)] [(0,.row)];exact mt .ret (s0 148 gl [] [(0,pU r)] 1 1) [] [hr 25 hd,tN 30 [0] 1 [(0,pU l)] [.rsl 0 0 l.length,iG 0,iG (ah l),oP] [(0,pU r)] (T9 gl h) ⟨⟨rfl,.inr ⟨rfl,av.imm l⟩⟩,trivial⟩ ⟨⟨rfl,.inr ⟨rfl,av.imm r⟩⟩,trivial⟩] [hc (av.imm r)] (ρ:=[(0,0)]) (kd:=[(0,.row)])
theorem RU{r:List DHoldName}(hl:l.length<=12)(h:So l=some r):jg prog gl 106 [.rsl 0 0 l.length,oP] [(0,pU l)] 1 (.tup []) [(0,pU r)] 1:=by
 have e:wU (ah l)=l.length:=by unfold ah;rw[gP];omega
 have hb:ba prog gl 159 [uG (wU (ah l):Int)] (iG (WZ l.length:Int)):=by rw[e];exact RC gl aa
 refine pP func106 ?_;exact mt .normal (s0 14 gl [] [(0,pU r)] 1 1) [] [hv 10 (C8 (ah l)),hf 11 hb,tN 13 [0] 1 [(0,pU l)] [.rsl 0 0 l.length,iG 0,iG (ah l),iG (WZ l.length:Int),oP] [(0,pU r)] (Ua gl hl h (WZ l.length:Int)) ⟨⟨rfl,.inr ⟨rfl,av.imm l⟩⟩,trivial⟩ ⟨⟨rfl,.inr ⟨rfl,av.imm r⟩⟩,trivial⟩] [hc (av.imm r)] (ρ:=[(0,0)]) (kd:=[(0,.row)])
end
section
attribute [local irreducible] Tr dz Gp
structure FmOk {K V:Type} (m:FM K V):Prop where
 nd:(m.es.map (·.2.2)).Nodup
 lt:∀e∈m.es,e.2.2<m.clk
def tv(m:FM DHoldName Nat)(seen:List Nat):List DHoldName:=seen.filterMap λn=>(m.es.find? λe=>Nat.beq e.2.2 n).map (·.1)
abbrev GI:TypeId:=80
abbrev Xc(clock:Nat)(seen:List Nat):Option Ob:=some ⟨GI,[],some (.iter (some 1) clock seen clock)⟩
abbrev p6(i:Nat):G:= .clo (.func 107) [] [.ref i 0]
abbrev C3:Option Ob:=some ⟨GI,[.mref 1],none⟩
abbrev ZI(g:G):Option Ob:=some ⟨71,[g],none⟩
abbrev KS(m:FM DHoldName Nat):Type:={ks:List DHoldName//ks.Perm (m.es.map (·.1))}
noncomputable abbrev Ub:Code:=bq 11012 (ai Tryz.f175)
noncomputable abbrev RW(st:LoopState):Option Ob:=some ⟨0,[],some (.loop st none 13 [(2,.ref 2 0)] (Dy Ub) (Dz Ub) (DA Ub))⟩
theorem I1(hm:FmOk m){seen:List Nat}(he:e∈m.es):tv m (seen++[e.2.2])=tv m seen++[e.1]:=by
 unfold tv;rw[List.filterMap_append];have:∀{es:List (DHoldName×Nat×Nat)},(es.map (·.2.2)).Nodup->e∈es->es.find? (λx=>Nat.beq x.2.2 e.2.2)=some e:=by
  intro es;induction es with
  |nil=>intro _ h;cases h
  |cons x r ih=>
   intro hd h;rw[List.map_cons,List.nodup_cons] at hd;rcases List.mem_cons.1 h with rfl|h
   .simp
   .have hb:Nat.beq x.2.2 e.2.2=false:=by
     cases hb:Nat.beq x.2.2 e.2.2 with
     |true=>exact absurd (bc hb) (λe2=>hd.1 (by rw[e2];exact List.mem_map.2 ⟨_,h,rfl⟩))
     |false=>rfl
    rw[List.find?_cons,hb];exact ih hd.2 h
 simp[this hm.nd he]
def XI(m:FM DHoldName Nat)(seen:List Nat):Prop:=seen.Nodup/\∀n∈seen,n∈m.es.map (·.2.2)
theorem RX{l m:List Nat}(hd:l.Nodup)(hs:∀x∈l,x∈m):l.length<=m.length:=by
 induction l generalizing m with
 |nil=>exact Nat.zero_le _
 |cons a r ih=>rw[List.nodup_cons] at hd;have ha:=hs a aC;have:=ih (m:=m.erase a) hd.2 λx hx=>(List.mem_erase_of_ne (λe:x=a=>hd.1 (by rw[<-e];exact hx))).2 (hs x (by simp[hx]));rw[List.length_erase_of_mem ha] at this;have:=List.length_pos_of_mem ha;simp;omega
theorem Uc{seen:List Nat}(h:XI m seen):(tv m seen).length<=m.es.length:=by have h1:=RX h.1 h.2;rw[List.length_map] at h1;have:(tv m seen).length<=seen.length:=List.length_filterMap_le _ _;omega
theorem Ud:XI m []:=⟨.nil,aC⟩
theorem Ue{seen:List Nat}(h:XI m seen)(he:e∈m.es)(hn:e.2.2∉seen):XI m (seen++[e.2.2]):=by
 refine⟨?_,λn hx=>?_⟩
 .rw[List.nodup_append];exact⟨h.1,aC,λa ha b hb=>by simp at hb;rw[hb];exact λe2=>hn (e2▸ha)⟩
 .rcases List.mem_append.1 hx with hx|hx
  .exact h.2 n hx
  .simp at hx;rw[hx];exact List.mem_map.2 ⟨e,he,rfl⟩
theorem RY(hm:FmOk m){seen:List Nat}(h:XI m seen)(ha:∀e∈m.es,e.2.2∈seen):(tv m seen).Perm (m.es.map (·.1)):=by
 have hp:seen.Perm (m.es.map (·.2.2)):=(List.perm_ext_iff_of_nodup h.1 hm.nd).2 λn=>⟨h.2 n,λhn=>by obtain⟨e,he,rfl⟩:=List.mem_map.1 hn;exact ha e he⟩;have h1:(tv m seen).Perm (tv m (m.es.map (·.2.2))):=hp.filterMap _;have h2:∀es:List (DHoldName×Nat×Nat),(∀e∈es,e∈m.es)->tv m (es.map (·.2.2))=es.map (·.1):=by
  intro es;induction es with
  |nil=>intro _;rfl
  |cons e r ih=>
   intro a;have:=I1 hm (seen:=[]) (a e aC);have e1:tv m (e.2.2::r.map (·.2.2))=tv m [e.2.2]++tv m (r.map (·.2.2)):=by unfold tv;rw[<-List.filterMap_append];rfl
   rw[List.map_cons,e1,ih λx hx=>a x (by simp[hx])];simp only[List.nil_append] at this;rw[this];rfl
 rw[h2 m.es λe h=>h] at h1;exact h1
abbrev ZJ:Fr:=[(0,.yld 3),(5,.ref 4 0)]
noncomputable abbrev σK(m:FM DHoldName Nat)(seen:List Nat)(l:List DHoldName):aQ:=[(0,C3),(1,eI m),(2,ZI (.rsl 5 0 l.length)),(3,RW .ready),(4,Xc m.clk seen),(5,pU l)]
abbrev ZK(x:DHoldName):Option Ob:=some ⟨74,bj x,none⟩
noncomputable abbrev σK2(m:FM DHoldName Nat)(seen:List Nat)(x:DHoldName)(a:List DHoldName):aQ:=[(0,C3),(1,eI m),(2,ZI (.rsl 7 0 a.length)),(3,RW .busy),(4,Xc m.clk seen),(6,ZK x),(7,pU a)]
theorem Lo(hm:FmOk m)(hn:m.es.length<=1000):Xx prog gl 175 [.lit (.slice none 0 0),p6 0] [(0,C3),(1,eI m)] 2 (ι:=KS m) (λx=> .rsl 2 0 x.1.length) (λx=>[(0,C3),(1,eI m),(2,pU x.1)]) (λ_=>3):=by
 refine dMF func175 ?_;refine YR [1,0,1,2] (s0 13 gl [(2,.ref 2 0),(6,p6 0)] [(2,ZI (.lit (.slice none 0 0))),(0,C3),(1,eI m)] 3 2) [] ?_;refine Xt (fst:=[]) (cap:=[.ref 0 0]) Tryz.f107 func107 ?_;refine pO [0] (s0 14 gl [(0,.yld 3),(1,.ref 0 0)] [(0,C3),(1,eI m),(2,ZI (.lit (.slice none 0 0))),(3,RW .ready)] 4 4) [] [hc (aN m)] ?_ [] [(0,0),(1,1),(2,2),(3,3)];refine yl (Bs':=[]) [0] (J:=(s0 14 gl ZJ (σK m [] []) 6 4)) [] [hc (aN m),hc (av.imm [])] ?_ (vs:=[74]) (ρ:=rI 6) (kd:=[(5,.row)]);refine dNx [1] ?_;refine dMw 5 6 7 0 (iti:=4) (mi:=1) (clock:=m.clk) (since:=m.clk) (T:=GI) (ty:=GI) (es:=DC m) (λseen=>(s0 14 gl ZJ (σK m seen (tv m seen)) 6 4)) (XI m) Ud (λe he=>by obtain⟨x,hx,rfl⟩:=List.mem_map.1 he;exact hm.lt x hx) rfl (Le.refl _) (λseen=>rfl) (λseen=>rfl) (λseen=>⟨show 6<14 by decide,show 7<14 by decide⟩) (λB seen k g n hI c hns d=>?_) (λseen hI hs=>?_)
 .obtain⟨e,he,f⟩:=List.mem_map.1 c;simp only[Prod.mk.injEq] at f;obtain⟨rfl,rfl,rfl⟩:=f;have hl:=Uc hI;have d:=d (Ue hI he hns);rw[I1 hm he] at d;generalize tv m seen=l at hl d⊢;have hge:jr ((4,Xc m.clk (seen++[e.2.2]))::σK m seen l) (.ref 4 0)=some (.tup [db (bU e.1),uG (e.2.1:Nat)]):=yo (iti:=4) (mi:=1) (since:=m.clk) (clock:=m.clk) (T:=GI) (ty:=GI) (seen:=seen) rfl rfl (by rw[List.map_map];exact hm.nd) c;refine pO 112211210 (s0 14 gl ((3,.ref 6 0)::ZJ) (σK m (seen++[e.2.2]) l++[(6,ZK e.1)]) 7 4) [YT 8 hge] [hc (aN m),hc (rfl:l.length=l.length),hc (av.imm l)] ?_ [] [(0,0),(1,1),(2,2),(3,3),(4,4),(5,5),(6,6)] [(5,.row)];refine Xw (i:=3) (j:=2) (n:=13) (t:=0) (t2:=0) (pe:=none) (fr:=[(2,.ref 2 0)]) (ps:=Dy Ub) (a:=Dz Ub) (b:=DA Ub) (s1:=(s0 14 gl ([(11,.agg (bj e.1)),(10,.yld 3),(3,.ref 6 0)]++ZJ) (σK m (seen++[e.2.2]) l++[(6,ZK e.1)]) 7 4))
   (s3:=(s0 14 gl ([(13,bG false),(12,bG true),(11,.agg (bj e.1)),(10,.yld 3),(3,.ref 6 0)]++ZJ) ((3,RW .ready)::σK2 m (seen++[e.2.2]) e.1 (l++[e.1])) 8 4))
   (σK2 m (seen++[e.2.2]) e.1 (l++[e.1])) 8 (.loop .ready none 13 [(2,.ref 2 0)] (Dy Ub) (Dz Ub) (DA Ub)) [] [] ?_ ?_
  .refine C9 .normal ⟨13,gl,[(2,.ref 2 0),(5,.ref 7 0)],σK m (seen++[e.2.2]) l++[(6,ZK e.1),(7,ZK e.1)],8,7,true⟩ [] [hc (aN m),hc (rfl:l.length=l.length),hc (av.imm l)] (Xv Tryz.f175 ?_ rfl) (ρ:=rI 8) (kd:=[(5,.row)]);exact C9 .normal ⟨13,gl,[],σK2 m (seen++[e.2.2]) e.1 (l++[e.1]),8,7,true⟩ [Tn 11 av 32 l e.1 aa] [hc (aN m),hc (el (l++[e.1])),hc (av.imm (l++[e.1]))] (jy rfl rfl rfl rfl rfl rfl) (ρ:=rI 7++[(7,9)]) (kd:=[(7,.row)])
  .exact jw [] [hc (aN m),hc (el (l++[e.1])),hc (av.imm (l++[e.1]))] d (ρ:=rI 5++[(5,7)]) (kd:=[(5,.row)])
 .have hp:=RY hm hI λe he=>hs _ (List.mem_map.2 ⟨e,he,rfl⟩);generalize tv m seen=l at hp⊢;refine C9 .normal (s0 14 gl [] [(0,C3),(1,eI m),(2,ZI (.rsl 5 0 l.length)),(3,RW .ready),(5,pU l)] 6 4) [] [hc (aN m),hc (rfl:l.length=l.length),hc (av.imm l)] (Xu ?_ rfl) (ρ:=rI 4++[(5,5)]) (kd:=[(5,.row)]);exact C9 .ret (s0 13 gl [(4,.rsl 2 0 l.length)] [(0,C3),(1,eI m),(2,pU l)] 3 2) [] [hc (rfl:l.length=l.length),hc (aN m),hc (av.imm l)] (YY ⟨l,hp⟩ (Wo (gs:=[.rsl 2 0 l.length]) rfl aH rfl rfl rfl rfl)) (ρ:=[(0,0),(1,1),(2,5)]) (kd:=[(2,.row)])
theorem I3(hm:FmOk m)(hn:m.es.length<=1000):Xx prog gl 105 [p6 0] [(0,C3),(1,eI m)] 2 (ι:=KS m) (λx=> .rsl 2 0 x.1.length) (λx=>[(0,C3),(1,eI m),(2,pU x.1)]) (λ_=>3):=by refine dMF func105 ?_;refine pO [1,0] (s0 5 gl [(0,p6 0)] [(0,C3),(1,eI m)] 2 2) [] [hc (aN m)] ?_ [] [(0,0),(1,1)] [(999999,.clo)];refine dCl 3 4 2 (fst:=[]) (cap:=[]) (gs:=[.lit (.slice none 0 0),p6 0]) (U6 (g:=λx:KS m=> .rsl 2 0 x.1.length) (c:=2) (c':=λ_=>3) (σR:=[(0,C3),(1,eI m)]) [0,1] (λx:KS m=>[(0,C3),(1,eI m),(2,pU x.1)]) (Lo gl hm hn) ⟨⟨rfl,.inl rfl⟩,⟨rfl,rfl,rfl,rfl,.inr ⟨rfl,aN m⟩⟩,trivial⟩ (λx=>⟨⟨rfl,.inl rfl⟩,⟨rfl,rfl,rfl,rfl,.inr ⟨rfl,aN m⟩⟩,⟨rfl,.inr ⟨rfl,av.imm x.1⟩⟩,trivial⟩) (hcov:=λ_=>rfl) (hg:=λ_=>rfl) (hc:=λ_=>rfl)) λx=>?_;exact C9 .ret (s0 5 gl [(2,.rsl 2 0 x.1.length)] [(0,C3),(1,eI m),(2,pU x.1)] 3 2) [] [hc (rfl:x.1.length=x.1.length),hc (aN m),hc (av.imm x.1)] (YY x (Wo (gs:=[.rsl 2 0 x.1.length]) rfl aH rfl rfl rfl rfl)) (ρ:=rI 3) (kd:=[(2,.row)])
theorem Lq(hm:FmOk m)(hn:m.es.length<=12)(hs:∀a:List DHoldName,a.Perm (m.es.map (·.1))->So a=some srt)(hsl:srt.length=m.es.length):jg prog gl 52 [p6 0,oP] [(0,C3),(1,eI m)] 2 (.rsl 2 0 srt.length) [(0,C3),(1,eI m),(2,pU srt)] 3:=by
 refine pP func52 ?_;refine pO [1,0] (s0 12 gl [(0,p6 0),(1,oP)] [(0,C3),(1,eI m)] 2 2) [] [hc (aN m)] ?_ [] [(0,0),(1,1)] [(999999,.clo)];refine dCl 6 7 5 (fst:=[]) (cap:=[]) (gs:=[p6 0]) (U6 (g:=λx:KS m=> .rsl 2 0 x.1.length) (c:=2) (c':=λ_=>3) (σR:=[(0,C3),(1,eI m)]) [0,1] (λx:KS m=>[(0,C3),(1,eI m),(2,pU x.1)]) (I3 gl hm aa) ⟨⟨rfl,.inl rfl⟩,⟨rfl,rfl,rfl,rfl,.inr ⟨rfl,aN m⟩⟩,trivial⟩ (λx=>⟨⟨rfl,.inl rfl⟩,⟨rfl,rfl,rfl,rfl,.inr ⟨rfl,aN m⟩⟩,⟨rfl,.inr ⟨rfl,av.imm x.1⟩⟩,trivial⟩) (hcov:=λ_=>rfl) (hg:=λ_=>rfl) (hc:=λ_=>rfl)) λx=>?_;have hx:=hs x.1 x.2;have hxl:x.1.length<=12:=by rw[x.2.length_eq,List.length_map];exact hn
 have hsl:srt.length=x.1.length:=by rw[hsl,x.2.length_eq,List.length_map]
 rw[show(G.rsl 2 0 srt.length)= .rsl 2 0 x.1.length by rw[hsl]];exact mt .ret (s0 12 gl [(4,.rsl 2 0 x.1.length)] [(0,C3),(1,eI m),(2,pU srt)] 3 2) [.rsl 2 0 x.1.length] [tN 10 [2] 3 [(2,pU x.1)] [.rsl 2 0 x.1.length,oP] [(0,pU srt)] (RU gl hxl hx) ⟨⟨rfl,.inr ⟨rfl,av.imm x.1⟩⟩,trivial⟩ ⟨⟨rfl,.inr ⟨rfl,av.imm srt⟩⟩,trivial⟩] [hc (rfl:x.1.length=x.1.length),hc (aN m),hc (av.imm srt)] (ρ:=rI 3) (kd:=[(2,.row)])
theorem Uf(m:FM DHoldName Nat):jg prog gl 53 [.mref 0] [(0,eI m)] 1 (p6 1) [(0,eI m),(1,some ⟨GI,[.mref 0],none⟩)] 2:=by refine pP func53 ?_;exact mt .ret (s0 4 gl [(2,p6 1)] [(0,eI m),(1,some ⟨GI,[.mref 0],none⟩)] 2 1) [p6 1] [] [hc (aN m)] (ρ:=[(0,0),(1,1)]) (kd:=[(999999,.clo)])
theorem RZ(hm:FmOk m)(hn:m.es.length<=12)(hs:∀a:List DHoldName,a.Perm (m.es.map (·.1))->So a=some srt)(hsl:srt.length=m.es.length):jg prog gl 24 [.ref 0 0] [(0,oH d 1),(1,eI m)] 2 (.rsl 2 0 srt.length) [(0,oH d 1),(1,eI m),(2,pU srt)] 3:=by refine pP func24 ?_;exact mt .ret (s0 9 gl [(2,.rsl 2 0 srt.length)] [(0,oH d 1),(1,eI m),(2,pU srt)] 3 2) [.rsl 2 0 srt.length] [tN 7 [1] 2 [(1,eI m)] [.mref 1] [(0,eI m),(1,C3)] (Uf gl m) ⟨⟨rfl,rfl,rfl,rfl,.inr ⟨rfl,aN m⟩⟩,trivial⟩ ⟨⟨rfl,rfl,rfl,rfl,.inr ⟨rfl,aN m⟩⟩,⟨rfl,.inl rfl⟩,trivial⟩,tN 8 [2,1] 3 [(2,C3),(1,eI m)] [p6 2,oP] [(0,C3),(1,eI m),(2,pU srt)] (Lq gl hm hn hs hsl) ⟨⟨rfl,.inl rfl⟩,⟨rfl,rfl,rfl,rfl,.inr ⟨rfl,aN m⟩⟩,trivial⟩ ⟨⟨rfl,.inl rfl⟩,⟨rfl,rfl,rfl,rfl,.inr ⟨rfl,aN m⟩⟩,⟨rfl,.inr ⟨rfl,av.imm srt⟩⟩,trivial⟩] [hc (rfl:srt.length=srt.length),hc (aN m),hc (av.imm srt)] (ρ:=[(0,0),(1,1),(2,3)]) (kd:=[(2,.row)])
end
section
attribute [local irreducible] Tr dz Gp
abbrev frG(r:D12G):Fr:=[(1,.ptr (aI r) 0),(3,.ref 0 0)]
structure OfRun (r:D12G) (ms:Nat->FM DIdent Int) (N:List DGraphNode):Prop where
 srt:xf r.Cards
 sml:r.L.length<=1000
 len:N.length=r.L.length
 m0:ms 0=⟨[],0⟩
 step:∀(k:Nat) (o:DOp),r.L[k]?=some o->jg prog fI 50 [.ref 0 0,.agg (aJ o)] [(0,oG r.Cards k 2),(1,oM (ms k)),(2,zQ (N.take k))] 3 (iG 0) [(0,oG r.Cards (k+1) 3),(1,oM (ms (k+1))),(3,zQ (N.take (k+1)))] 4
def Lk(n k:Nat):Option (Nat⊕Unit):=if k<n then some (.inl (k+1)) else if k=n then some (.inr ()) else none
theorem CX{n:Nat}(h:n<=1000):loop (Lk n) 0=some ():=T.eq (T.loop (λk=>k<=n) (λk=>n-k) aa aa λk hk=>by
 unfold Lk;split
 .exact .some ⟨aa,aa⟩
 .rw[if_pos aa];exact .some rfl)
theorem ZC{r:D12G}{ms:Nat->FM DIdent Int}(h:OfRun r ms N):jg prog fI 16 [.agg (aI r)] [] 0 (.ref 0 0) [(0,oG r.Cards r.L.length 2),(1,oM (ms r.L.length)),(2,zQ (N.take r.L.length))] 3:=by
 have hn:=h.sml;refine pP func16 ?_;refine Ix 111101 (s0 26 fI (frG r) [(0,oG r.Cards r.L.length 2),(1,oM (ms r.L.length)),(2,zQ (N.take r.L.length))] 3 0) ?_ λa=>?_
 .exact mt .ret (s0 26 fI [(2,.ref 0 0)] [(0,oG r.Cards r.L.length 2),(1,oM (ms r.L.length)),(2,zQ (N.take r.L.length))] 3 0) [.ref 0 0] [] [hc (rfl:r.L.length=r.L.length),hc (cf (ms r.L.length)),hc (az.imm (N.take r.L.length))] (ρ:=rI 3) (kd:=[(2,.row)])
 have hw:jg prog fI 49 [aE bv r.Cards] [] 0 (.ref 0 0) [(0,oG r.Cards 0 2),(1,oM (ms 0)),(2,zQ [])] 3:=by rw[h.m0];exact W8 fI h.srt
 refine pN (λk:Nat=>(s0 26 fI [(1,.ptr (aI r) 0),(3,.ref 0 0),(4,iG (k:Int))] [(0,oG r.Cards k 2),(1,oM (ms k)),(2,zQ (N.take k))] 3 0)) 11110122 (CX hn) [tN 7 [] 1 [] [aE bv r.Cards] [ob 0 167 [aE bv r.Cards,.mref 2,.rsl 3 0 0],(1,oM (ms 0)),(2,zQ [])] hw trivial ⟨⟨rfl,.inl rfl⟩,⟨rfl,rfl,rfl,rfl,.inr ⟨rfl,cf _⟩⟩,⟨rfl,.inr ⟨rfl,az.imm []⟩⟩,trivial⟩] [hc (eB (gs:=aI r) aH),hc (rfl:0=0),hc (cf (ms 0)),hc (az.imm [])] (λB k v hs k5 b=>?_) [] [(0,1),(1,2),(2,3)] [(2,.row)];unfold Lk at hs;split at hs
 .rename_i hk;obtain rfl:=bn hs;obtain⟨o,ho⟩:∃o,r.L[k]?=some o:=⟨_,cv hk⟩;have hz:aS r.L (k:Int)=some o:=by rw[au];exact ho
  exact jw [hr 14 (show decide ((k:Int)<(r.L.length:Int))=true from decide_eq_true aa),hv 21 (eJ.ixZ hz),hv 22 (eJ.ptZ GN hz),tN 23 [0,1,2] 3 [(0,oG r.Cards k 2),(1,oM (ms k)),(2,zQ (N.take k))] [.ref 0 0,.agg (aJ o)] [(0,oG r.Cards (k+1) 3),(1,oM (ms (k+1))),(2,none),(3,zQ (N.take (k+1)))] (h.step k o ho) ⟨⟨rfl,.inl rfl⟩,⟨rfl,rfl,rfl,rfl,.inr ⟨rfl,cf _⟩⟩,⟨rfl,.inr ⟨rfl,az.imm _⟩⟩,trivial⟩ ⟨⟨rfl,.inl rfl⟩,⟨rfl,rfl,rfl,rfl,.inr ⟨rfl,cf _⟩⟩,⟨rfl,.inr ⟨rfl,az.imm _⟩⟩,trivial⟩,hb 16 (Xl (q:=k) aa)] [hc (rfl:k+1=k+1),hc (cf (ms (k+1))),hc (az.imm (N.take (k+1)))] (k5 _ rfl) [] [(0,0),(1,1),(2,3)] [(2,.row)]
 .rename_i hk;split at hs
  .rename_i he;subst he;obtain rfl:=bn hs;exact yl 111101 [hr 14 (show decide ((r.L.length:Int)<(r.L.length:Int))=false from decide_eq_false aa)] [hc (rfl:r.L.length=r.L.length),hc (cf (ms r.L.length)),hc (az.imm (N.take r.L.length))] a [] [(0,0),(1,1),(2,2)] [(2,.row)]
  .cases hs
end
section
attribute [local irreducible] Tr dz Gp
structure HoldOk (m:FM DHoldName Nat) (srt:List DHoldName):Prop where
 ok:FmOk m
 n:m.es.length<=12
 sr:∀ks:List DHoldName,ks.Perm (m.es.map (·.1))->So ks=some srt
 len:srt.length=m.es.length
theorem HoldOk.names{m:FM DHoldName Nat}{srt:List DHoldName}(h:HoldOk m srt)(d:Int):jg prog gl 24 [.ref 0 0] [(0,oH d 1),(1,eI m)] 2 (.rsl 2 0 srt.length) [(0,oH d 1),(1,eI m),(2,pU srt)] 3:=RZ gl h.ok h.n h.sr h.len
abbrev Ug(m:FM DHoldName Nat):G:= .mp ((DC m).map (·.1)) ((DC m).map (·.2.1)) ((DC m).map (·.2.2)) m.clk
theorem MY(m:FM DHoldName Nat):FM.g bU (λx:Nat=>uG x) m=Ug m:=by unfold FM.g Ug DC;simp only[List.map_map];rfl
def C4(d:Int)(x:DHoldName):DTerm:=if x=⟨⟨0,0,0⟩,0⟩ then⟨1,⟨0,0,0⟩,d,0⟩ else⟨3,x.commit,x.n,0⟩
theorem R3(d:Int)(m:FM DHoldName Nat)(x:DHoldName):ba prog gl 25 [.ptr [iG d,Ug m] 0,.agg (bj x)] (.agg (fT (C4 d x))):=by
 have:nw ⟨d,m⟩ x=some (C4 d x):=by unfold nw C4;by_cases e:x=⟨⟨0,0,0⟩,0⟩<;>simp[e]
 have:=xX gl this;unfold Cd at this;rw[MY] at this;exact this
abbrev oTm(l:List DTerm):Option Ob:=some ⟨70,l.flatMap fT,none⟩
abbrev MoH(m:FM DHoldName Nat):MB (vi [0,1]) ⟨GI,[],some (.map (DC m) m.clk)⟩ ⟨GI,[],some (.map (DC m) m.clk)⟩:=⟨rfl,rfl,rfl,rfl,.inr ⟨rfl,aN m⟩⟩
theorem R4{d:Int}(h:HoldOk m srt):jg prog gl 7 [.ref 0 0] [(0,oH d 1),(1,eI m)] 2 (.rsl 2 0 ((srt.take srt.length).map (C4 d)).length) [(0,oH d 1),(1,eI m),(2,oTm ((srt.take srt.length).map (C4 d)))] 3:=by
 have hn:srt.length<=1000:=by have:=h.n;have:=h.len;omega
 refine pP func7 ?_;refine pN (λk:Nat=>(s0 21 gl [(0,.ref 0 0),(3,.rsl 3 0 ((srt.take k).map (C4 d)).length),(7,.rsl 2 0 srt.length),(8,iG (ah srt)),(9,iG (k:Int))] [(0,oH d 1),(1,eI m),(2,pU srt),(3,oTm ((srt.take k).map (C4 d)))] 4 2)) 1110122 (CX hn) [tN 7 [0,1] 2 [(0,oH d 1),(1,eI m)] [.ref 0 0] [(0,oH d 1),(1,eI m),(2,pU srt)] (h.names gl d) ⟨⟨rfl,.inl rfl⟩,MoH m,trivial⟩ ⟨⟨rfl,.inl rfl⟩,⟨rfl,rfl,rfl,rfl,.inr ⟨rfl,aN m⟩⟩,⟨rfl,.inr ⟨rfl,av.imm srt⟩⟩,trivial⟩] [hc (el srt),hc (aN m),hc (av.imm srt),hc (fL.imm [])] (λB k v hs k5 a=>?_) [70] [(0,0),(1,1),(2,2),(3,3)] [(2,.row),(3,.row)];unfold Lk at hs;split at hs
 .rename_i hk;obtain rfl:=bn hs;obtain⟨x,hx⟩:∃x,srt[k]?=some x:=⟨_,cv hk⟩;have hz:aS srt (k:Int)=some x:=by rw[au];exact hx
  have k5:=k5 _ rfl;have e:(srt.take (k+1)).map (C4 d)=(srt.take k).map (C4 d)++[C4 d x]:=by rw[List.take_add_one,hx,List.map_append];rfl
  have hl:((srt.take k).map (C4 d)).length<=1000:=by rw[List.length_map,List.length_take];omega
  simp only[e] at k5;generalize (srt.take k).map (C4 d)=l at hl k5⊢;exact jw [hr 10 (show decide ((k:Int)<(srt.length:Int))=true from decide_eq_true aa),hv 11 (av.ixrZ 2 hz),hv 12 (av.pt0Z ee hz),hq 16 [.ptr [iG d,Ug m] 0,.agg (bj x)] [hc (aN m)] (R3 gl d m x),Tn 18 fL 48 l (C4 d x) aa,hb 19 (Xl (q:=k) aa)] [hc (el (l++[C4 d x])),hc (el srt),hc (aN m),hc (av.imm srt),hc (fL.imm (l++[C4 d x]))] k5 [] [(0,0),(1,1),(2,2),(3,6)] [(2,.row),(3,.row)]
 .rename_i hk;split at hs
  .rename_i he;subst he;obtain rfl:=bn hs;generalize (srt.take srt.length).map (C4 d)=l;exact mt .ret (s0 21 gl [(2,.rsl 2 0 l.length)] [(0,oH d 1),(1,eI m),(2,oTm l)] 3 2) [.rsl 2 0 l.length] [hr 10 (show decide ((srt.length:Int)<(srt.length:Int))=false from decide_eq_false aa)] [hc (el l),hc (aN m),hc (fL.imm l)] (ρ:=[(0,0),(1,1),(2,3)]) (kd:=[(2,.row)])
  .cases hs
theorem Xd{m:FM DHoldName Nat}{k:DHoldName}(h1:(m.get k).getD 0=v):bL prog [(1,eI m)] GI false (.mref 1) (.agg (bj k))=some (uG (v:Nat)):=by
 subst h1;have:=zK m k [];rw[MY] at this;have hm:(DC m).map (·.1)=(m.es.map (·.1)).map bU:=by rw[List.map_map,List.map_map];rfl
 have hz:((prog.info? 23).bind (·.zero)).map db=some (uG 0):=aH;obtain⟨z,hz,hv⟩:=Option.map_eq_some_iff.1 hz;unfold bL;rw[show pB prog GI=some (74,23) from by kernel_rfl,show cD (.agg (bj k))=some (bU k) from rfl];dsimp only;rw[show gn [(1,eI m)] (.mref 1)=some (1,GI,DC m,m.clk) from rfl];dsimp only;rw[fk.chk,ax,hm,fk.key];unfold FM.get;rcases fz k m.es with⟨h1,h2⟩|⟨j,e,h1,h2,h3⟩
 .rw[h1,h2,hz];show some (db z)=_;rw[hv];rfl
 .rw[h1,h3];dsimp only;rw[List.getElem?_map,h2];rfl
def MZ(m:FM DHoldName Nat)(srt:List DHoldName)(pub:Nat)(k:Nat):Option (Nat⊕(Unit⊕Nat)):=match srt[k]? with
 |none=>some (.inr (.inl ()))
 |some x=>(mg ((m.get x).getD 0)).bind λq=>bif decide ((q:Int)=(pub:Int)) then some (.inr (.inr ((m.get x).getD 0))) else some (.inl (k+1))
theorem Uh{d:Int}(h:HoldOk m srt){pub:Nat}{x:Unit⊕Nat}{a:Nat}{is:Bool}(b:loop (MZ m srt pub) 0=some x)(h1:x= .inl ()->a=0/\is=false)(h2:∀v,x= .inr v->a=v/\is=true):jg prog gl 12 [.ref 0 0,uG pub] [(0,oH d 1),(1,eI m)] 2 (.tup [uG a,bG is]) [(0,oH d 1),(1,eI m)] 2:=by
 have hn:srt.length<=1000:=by have:=h.n;have:=h.len;omega
 refine pP func12 ?_;refine pN (λk:Nat=>(s0 28 gl [(0,.ref 0 0),(1,uG pub),(10,.rsl 2 0 srt.length),(11,iG (ah srt)),(12,iG (k:Int))] [(0,oH d 1),(1,eI m),(2,pU srt)] 3 2)) 110122 b [tN 10 [0,1] 2 [(0,oH d 1),(1,eI m)] [.ref 0 0] [(0,oH d 1),(1,eI m),(2,pU srt)] (h.names gl d) ⟨⟨rfl,.inl rfl⟩,MoH m,trivial⟩ ⟨⟨rfl,.inl rfl⟩,⟨rfl,rfl,rfl,rfl,.inr ⟨rfl,aN m⟩⟩,⟨rfl,.inr ⟨rfl,av.imm srt⟩⟩,trivial⟩] [hc (el srt),hc (aN m),hc (av.imm srt)] (λB k v hs k5 c=>?_) [] [(0,0),(1,1),(2,2)] [(2,.row)];unfold MZ at hs;cases hx:srt[k]? with
 |none=>rw[hx] at hs;obtain rfl:=bn hs;obtain⟨rfl,rfl⟩:=h1 (c _ rfl).symm;have:srt.length<=k:=List.getElem?_eq_none_iff.1 hx;exact mt .ret (s0 28 gl [(4,uG (0:Nat)),(5,bG false)] [(0,oH d 1),(1,eI m)] 2 2) [uG (0:Nat),bG false] [hr 13 (show decide ((k:Int)<(srt.length:Int))=false from decide_eq_false aa)] [hc (aN m)] (ρ:=[(0,0),(1,1)])
 |some y=>
  rw[hx] at hs;have hk:k<srt.length:=(cr hx).1;have hz:aS srt (k:Int)=some y:=by rw[au];exact hx
  obtain⟨q,e,hs⟩:=bS hs;rcases bC hs with⟨b1,hs⟩|⟨b1,hs⟩
  .obtain rfl:=bn hs;obtain⟨rfl,rfl⟩:=h2 _ (c _ rfl).symm;exact mt .ret (s0 28 gl [(4,uG ((m.get y).getD 0:Nat)),(5,bG true)] [(0,oH d 1),(1,eI m)] 2 2) [uG ((m.get y).getD 0:Nat),bG true] [hr 13 (show decide ((k:Int)<(srt.length:Int))=true from decide_eq_true aa),hv 14 (av.ixrZ 2 hz),hv 15 (av.pt0Z ee hz),W6 21 (Xd (m:=m) (k:=y) rfl),hf 23 (yv gl e),hr 25 b1] [hc (aN m)] (ρ:=[(0,0),(1,1)])
  .obtain rfl:=bn hs;exact jw [hr 13 (show decide ((k:Int)<(srt.length:Int))=true from decide_eq_true aa),hv 14 (av.ixrZ 2 hz),hv 15 (av.pt0Z ee hz),W6 21 (Xd (m:=m) (k:=y) rfl),hf 23 (yv gl e),hr 25 b1,hb 27 (Xl (q:=k) aa)] [hc (el srt),hc (aN m),hc (av.imm srt)] (k5 _ rfl) [] [(0,0),(1,1),(2,2)] [(2,.row)]
end
section
attribute [local irreducible] Tr dz Gp
theorem abc{k:DHoldName}(h1:m.get k=some v):bL prog [(1,eI m)] GI true (.mref 1) (.agg (bj k))=some (.tup [uG (v:Nat),bG true]):=by
 have hm:(DC m).map (·.1)=(m.es.map (·.1)).map bU:=by rw[List.map_map,List.map_map];rfl
 unfold bL;rw[show pB prog GI=some (74,23) from by kernel_rfl,show cD (.agg (bj k))=some (bU k) from rfl];dsimp only;rw[show gn [(1,eI m)] (.mref 1)=some (1,GI,DC m,m.clk) from rfl];dsimp only;rw[fk.chk,ax,hm,fk.key];unfold FM.get at h1;rcases fz k m.es with⟨h1',h2⟩|⟨j,e,h1',h2,h3⟩
 .rw[h2] at h1;cases h1
 .rw[h3] at h1;cases h1;rw[h1'];dsimp only;rw[List.getElem?_map,h2];rfl
def Vm:DHoldName:=⟨⟨0,0,0⟩,0⟩
def GJ(m:FM DHoldName Nat)(x:DHoldName):List UInt8:=sN x.commit++aV x.n++nb ((m.get x).getD 0)
def gg(d:Int)(ld n:Nat):List UInt8:=aV d++aV 1++nb ld++aV (n:Int)
theorem Lr{rest:List DHoldName}(h:HoldOk m (x::rest))(hd:c8 d){ld:Nat}(hl:m.get Vm=some ld)(a:fS ld)(hs:∀y∈rest,SmId y.commit/\c8 y.n/\fS ((m.get y).getD 0)){b:List UInt8}(hbb:gg d ld rest.length++(rest.take rest.length).flatMap (GJ m)=b):
  jg prog gl 9 [.ref 0 0] [(0,oH d 1),(1,eI m)] 2 (.rsl 2 0 b.length) [(0,oH d 1),(1,eI m),(2,oY b)] 3:=by
 have hn:rest.length<=11:=by have:=h.n;have:=h.len;simp at this;omega
 have l1:=aR hd
 have l2:(aV 1).length<=10:=aR ⟨a9,a9⟩
 have l3:=gH a
 have l4:(aV (rest.length:Int)).length<=10:=aR ⟨aa,aa⟩
 have lI:∀y∈rest,(GJ m y).length<=50:=λy hy=>by obtain⟨a1,a2,a3⟩:=hs y hy;have:=gN a1;have:=aR a2;have:=gH a3;unfold GJ;simp only[List.length_append];omega
 have lF:∀k,((rest.take k).flatMap (GJ m)).length<=50*11:=λk=>by
  have:∀l:List DHoldName,(∀y∈l,y∈rest)->(l.flatMap (GJ m)).length<=50*l.length:=by
   intro l;induction l with
   |nil=>intro _;simp
   |cons y r ih=>intro c;have:=lI y (c y aC);have:=ih λz hz=>c z (by simp[hz]);rw[List.flatMap_cons,List.length_append,List.length_cons];omega
  have:=this (rest.take k) λy hy=>List.mem_of_mem_take hy;have h2:(rest.take k).length<=11:=by rw[List.length_take];omega
  omega
 have lB:(gg d ld rest.length).length<=40:=by unfold gg;simp only[List.length_append];omega
 refine pP func9 ?_
 refine pO 1110 (s0 56 gl [(0,.ref 0 0),(3,.ref 2 0)] [(0,oH d 1),(1,eI m),(2,oO 3 []),(3,oY [])] 4 2) [] [hc (aN m),hc (rY.imm [])] ?_ [5] [(0,0),(1,1),(2,2),(3,3)] [(3,.row)]
 have hMo:MB (vi [0,1]) ⟨GI,[],some (.map (DC m) m.clk)⟩ ⟨GI,[],some (.map (DC m) m.clk)⟩:=MoH m
 have c1:0+Int.toNat 1*4+((x::rest).length-Int.toNat 1)*4<=((x::rest).flatMap bj).length/\∀g∈(x::rest).flatMap bj,bB g:=⟨by rw[av.len];simp;omega,av.imm _⟩
 refine pO 111111110 (s0 56 gl [(0,.ref 0 0),(3,.ref 2 0),(6,.sl ((rest.flatMap bj).take (rest.length*4)) rest.length)] [(0,oH d 1),(1,eI m),(2,oO 3 (aV d++aV 1++nb ld)),(3,oY (aV d++aV 1++nb ld))] 4 2) [gD 13 2 3 4 [.ref 2 0,iG d] (cA gl (l:=[]) hd aC (r:=aV d) rfl),W6 20 (abc hl),gD 24 2 4 5 [.ref 2 0,bG true] (K4 gl (l:=aV d) true aa (r:=aV d++aV 1) rfl),tN 26 [0,1] 6 [(0,oH d 1),(1,eI m)] [.ref 0 0] [(0,oH d 1),(1,eI m),(2,pU (x::rest))] (h.names gl d) ⟨⟨rfl,.inl rfl⟩,hMo,trivial⟩ ⟨⟨rfl,.inl rfl⟩,⟨rfl,rfl,rfl,rfl,.inr ⟨rfl,aN m⟩⟩,⟨rfl,.inr ⟨rfl,av.imm (x::rest)⟩⟩,trivial⟩,gD 29 2 5 7 [.ref 2 0,uG ld] (gC gl (l:=aV d++aV 1) a (by rw[List.length_append];omega) (r:=aV d++aV 1++nb ld) rfl),hv 31 (av.sufZ 6 (l:=x::rest) (i:=1) (y:=rest) (by unfold mc;rw[if_pos aC];rfl))] [hc c1,hc (aN m),hc (el (aV d++aV 1++nb ld)),hc (rY.imm (aV d++aV 1++nb ld))] ?_ [] [(0,0),(1,1),(2,2),(3,7)] [(3,.row)]
 rw[List.take_of_length_le (show(rest.flatMap bj).length<=rest.length*4 by rw[av.len];exact Nat.le_refl _)]
 refine pN (λk:Nat=>(s0 56 gl [(0,.ref 0 0),(3,.ref 2 0),(35,aE bj rest),(36,iG (ah rest)),(37,iG (k:Int))] [(0,oH d 1),(1,eI m),(2,oO 3 (gg d ld rest.length++(rest.take k).flatMap (GJ m))),(3,oY (gg d ld rest.length++(rest.take k).flatMap (GJ m)))] 4 2)) 1111111110122 (CX (n:=rest.length) aa) [gD 34 2 3 4 [.ref 2 0,iG (rest.length:Int)] (cA gl (l:=aV d++aV 1++nb ld) (n:=(rest.length:Int)) ⟨aa,aa⟩ (by rw[List.length_append,List.length_append];omega) (r:=gg d ld rest.length++(rest.take 0).flatMap (GJ m)) (by simp[gg]))] [hc (aN m),hc (el (gg d ld rest.length++(rest.take 0).flatMap (GJ m))),hc (rY.imm (gg d ld rest.length++(rest.take 0).flatMap (GJ m)))] (λB k v hs' k5 f=>?_) [] [(0,0),(1,1),(2,2),(3,4)] [(3,.row)]
 unfold Lk at hs'
 split at hs'
 .rename_i hk
  obtain rfl:=bn hs'
  obtain⟨y,hy⟩:∃y,rest[k]?=some y:=⟨_,cv hk⟩
  have hz:aS rest (k:Int)=some y:=by rw[au];exact hy
  obtain⟨a1,a2,a3⟩:=hs y (bO hy)
  have b1:=gN a1
  have b2:=aR a2
  have k5:=k5 _ rfl
  have e:gg d ld rest.length++(rest.take (k+1)).flatMap (GJ m)=gg d ld rest.length++(rest.take k).flatMap (GJ m)++sN y.commit++aV y.n++nb ((m.get y).getD 0):=by rw[List.take_add_one,hy,List.flatMap_append];simp[GJ]
  have hl':(gg d ld rest.length++(rest.take k).flatMap (GJ m)).length<=600:=by rw[List.length_append];have:=lF k;omega
  simp only[e] at k5
  generalize gg d ld rest.length++(rest.take k).flatMap (GJ m)=l at hl' k5⊢
  exact jw [hr 38 (show decide ((k:Int)<(rest.length:Int))=true from decide_eq_true aa),hv 39 (av.ixZ hz),hv 40 (av.ptZ ee hz),gD 43 2 3 5 [.ref 2 0,.agg (aj y.commit)] (kh gl (l:=l) a1 aa (r:=l++sN y.commit) rfl),gD 46 2 5 6 [.ref 2 0,iG y.n] (cA gl (l:=l++sN y.commit) a2 (by rw[List.length_append];omega) (r:=l++sN y.commit++aV y.n) rfl),W6 52 (Xd (m:=m) (k:=y) rfl),gD 53 2 6 7 [.ref 2 0,uG ((m.get y).getD 0:Nat)] (gC gl (l:=l++sN y.commit++aV y.n) a3 (by rw[List.length_append,List.length_append];omega) (r:=l++sN y.commit++aV y.n++nb ((m.get y).getD 0)) rfl),hb 54 (Xl (q:=k) aa)] [hc (aN m),hc (el (l++sN y.commit++aV y.n++nb ((m.get y).getD 0))),hc (rY.imm (l++sN y.commit++aV y.n++nb ((m.get y).getD 0)))] k5 [] [(0,0),(1,1),(2,2),(3,7)] [(3,.row)]
 .rename_i hk
  split at hs'
  .rename_i he
   subst he
   obtain rfl:=bn hs'
   have lb:b.length<=1000:=by rw[<-hbb,List.length_append];have:=lF rest.length;omega
   rw[hbb]
   exact mt .ret (s0 56 gl [(2,.rsl 2 0 b.length)] [(0,oH d 1),(1,eI m),(2,oY b)] 3 2) [.rsl 2 0 b.length] [hr 38 (show decide ((rest.length:Int)<(rest.length:Int))=false from decide_eq_false aa),tN 55 [2,3] 4 [(2,oO 3 b),(3,oY b)] [.ref 2 0] [(0,oO 3 b),(1,oY b),(2,oY b)] (rS gl (l:=b) aa) ⟨⟨rfl,.inl rfl⟩,⟨rfl,.inr ⟨rfl,rY.imm _⟩⟩,trivial⟩ ⟨⟨rfl,.inl rfl⟩,⟨rfl,.inr ⟨rfl,rY.imm _⟩⟩,⟨rfl,.inr ⟨rfl,rY.imm _⟩⟩,trivial⟩] [hc (el b),hc (aN m),hc (rY.imm b)] (ρ:=[(0,0),(1,1),(2,4)]) (kd:=[(2,.row)])
  .cases hs'
end
section
variable {α β ρ:Type}
theorem cL{c:Bool}{a b:α}:(bif c then some a else some b)=some (bif c then a else b):=by cases c<;>rfl
theorem T.bindc{x:Option α}{f:α->Option β}{Q:β->Prop}(h:T x λ_=>True)(k:∀v,x= .some v->T (f v) Q):T (x.bind f) Q:=by obtain⟨v,e,_⟩:=h;exact .bind ⟨v,e,k v e⟩
theorem T.for1{step:Int->Option (Int⊕ρ)}{Q:ρ->Prop}(n:Nat)(J:Nat->Prop)(hn:n<2305843009213693952)(h0:J 1)(h:∀k,1<=k->k<n->J k->T (step (k:Int)) (Rd (λs'=>s'=((k+1:Nat):Int)/\J (k+1)) Q))(he:∀k,n<=k->k<=n+1->J k->T (step (k:Int)) (Rd (λ_=>False) Q)):T (Go.Proofs.YtnpdibmpndhkjaaGreatDoor.loop step 1) Q:=by
 refine T.loop (λs=>∃k:Nat,1<=k/\k<=n+1/\s=(k:Int)/\J k) (λs=>n+1-s.toNat) ⟨1,aa,aa,rfl,h0⟩ cq ?_;rintro i ⟨k,h1,hk,hik,hj⟩;subst hik;rcases Nat.lt_or_ge k n with hlt|hge
 .refine(h k h1 hlt hj).mono λr hr=>?_;cases r with
  |inl s'=>refine⟨⟨k+1,aa,aa,hr.1,hr.2⟩,?_⟩;rw[hr.1];simp;omega
  |inr r=>exact hr
 .refine(he k hge hk hj).mono λr hr=>?_;cases r with
  |inl s'=>exact hr.elim
  |inr r=>exact hr
theorem T.search{step:Int->Option (Int⊕(Unit⊕ρ))}(l:List α)(p:α->Bool)(g:Nat->α->ρ)(hn:l.length<2305843009213693952)(h:∀(k:Nat) (x:α),l[k]?= .some x->k<l.length->step (k:Int)= .some (bif p x then .inr (.inr (g k x)) else .inl ((k+1:Nat):Int)))(he:step (l.length:Int)= .some (.inr (.inl ()))):T (Go.Proofs.YtnpdibmpndhkjaaGreatDoor.loop step 0) (λr=>(r= .inl ()/\∀x∈l,p x=false)\/∃k x,l[k]?= .some x/\p x=true/\r= .inr (g k x)/\∀(j:Nat) (y:α),j<k->l[j]?= .some y->p y=false):=by
 refine T.forI l.length (λk=>∀(j:Nat) (y:α),j<k->l[j]?= .some y->p y=false) hn (λj y hj=>absurd hj (Nat.not_lt_zero _)) (λk hk hj=>?_) λhj=>?_
 .have hx:l[k]?= .some (l[k]'hk):=cv hk;rw[h k _ hx hk];refine .some ?_;cases hp:p l[k] with
  |true=>exact .inr ⟨k,_,hx,hp,rfl,hj⟩
  |false=>
   refine⟨rfl,λj y a hy=>?_⟩;rcases Nat.lt_or_ge j k with hlt|hge
   .exact hj j y hlt hy
   .obtain rfl:j=k:=aa;rw[hx] at hy;cases hy;exact hp
 .rw[he];refine .some (.inl ⟨rfl,λx hx=>?_⟩);obtain⟨j,hj'⟩:=List.getElem?_of_mem hx;exact hj j x (cr hj').1 hj'
end
theorem gT(n a b:Int):fB n a b=some (decide (a<=n/\n<=b)):=by unfold fB;by_cases h1:a<=n<;>by_cases h2:n<=b<;>simp[h1,h2]
theorem Cq(n:Nat):AL n=some (decide (n<2305843009213693951)):=by unfold AL;congr 2;exact propext ⟨λh=>aa,λh=>aa⟩
def l7(i:DIdent):Bool:=decide (1<=i.By/\i.By<=12/\1<=i.Seq/\i.Seq<=2147483647/\i.Sum<2305843009213693951)
def Cr(n:Nat):Bool:=decide (1<=n/\n<2305843009213693951)
theorem mY(i:DIdent):iM i=some (l7 i):=by
 unfold iM l7;simp only[gT,Cq,aL];by_cases h1:1<=i.By/\i.By<=12
 .by_cases h2:1<=i.Seq/\i.Seq<=2147483647
  .simp[h1,h2]
  .simp[h1,h2,decide_eq_false_iff_not];intro h3 h4;exact absurd ⟨h3,h4⟩ h2
 .simp[h1];intro h3 h4;exact absurd ⟨h3,h4⟩ h1
theorem kS(n:Nat):ir n=some (Cr n):=by
 unfold ir Cr;by_cases h1:1<=n
 .rw[decide_eq_true (show((1:Nat):Int)<=(n:Int) by omega)];by_cases h2:n<2305843009213693951
  .simp[h1,h2];omega
  .simp[h1,h2];omega
 .rw[decide_eq_false (show¬((1:Nat):Int)<=(n:Int) by omega)];simp[h1]
def yZ(b:DBox):Bool:=Cr b.To&&Cr b.Eph&&decide (b.Body<2305843009213693951)&&decide (b.Tag<2305843009213693951)
theorem Cs{l:List DBox}(hn:l.length<=1000000):T (qw l) λb=>b=l.all yZ:=by
 unfold qw;refine .bind ((T.search l (λb=> !yZ b) (λ_ _=>false) aa (λk x hx hk=>?_) ?_).mono ?_)
 .unfold qv;rw[eA hk,ax,au,hx];simp only[aL,kS,Cq];unfold yZ;rw[aq aa];cases Cr x.To<;>cases Cr x.Eph<;>cases decide (x.Body<2305843009213693951)<;>cases decide (x.Tag<2305843009213693951)<;>rfl
 .unfold qv;rw[eF,aM]
 .rintro r (⟨rfl,h⟩|⟨k,x,hx,hp,rfl,_⟩)
  .refine .some (Eq.symm (List.all_eq_true.2 λx hx=>?_));have:=h x hx;simpa using this
  .refine .some (Eq.symm (Bool.eq_false_iff.2 λh=>?_));have:=List.all_eq_true.1 h x (bO hx);rw[this] at hp;cases hp
theorem Ip{p:α->Bool}{step:Int->Option (Int⊕(Unit⊕Bool))}{next:Unit->Option Bool}{rest:Bool}(l:List α)(hl:l.length<=1000000)(h:∀(k:Nat) (x:α),l[k]?=some x->x∈l->k<l.length->step (k:Int)=some (bif p x then .inl ((k+1:Nat):Int) else .inr (.inr false)))(he:step (l.length:Int)=some (.inr (.inl ())))(hn:T (next ()) λb=>b=rest):T ((loop step 0).bind λx=>ma x next (λq=>some q)) λb=>b=(l.all p&&rest):=by
 refine .bind ((T.search l (λx=> !p x) (λ_ _=>false) aa (λk x hx hk=>?_) he).mono ?_)
 .rw[h k x hx (bO hx) hk];cases p x<;>rfl
 .rintro r (⟨rfl,hr⟩|⟨k,x,hx,hp,rfl,_⟩)
  .have:l.all p=true:=List.all_eq_true.2 λx hx=>by simpa using hr x hx
   rw[this,Bool.true_and];exact hn
  .have:l.all p=false:=Bool.eq_false_iff.2 λh=>by have:=List.all_eq_true.1 h x (bO hx);rw[this] at hp;cases hp
   rw[this,Bool.false_and];exact .some rfl
theorem Mq{p:α->Bool}{step:Int->Option (Int⊕(Unit⊕Bool))}{next:Unit->Option Bool}{rest:Bool}(l:List α)(hl:l.length<=1000000)(h:∀(k:Nat) (x:α),l[k]?=some x->x∈l->k<l.length->step (k:Int)=some (bif p x then .inr (.inr true) else .inl ((k+1:Nat):Int)))(he:step (l.length:Int)=some (.inr (.inl ())))(hn:T (next ()) λb=>b=rest):T ((loop step 0).bind λx=>ma x next (λq=>some q)) λb=>b=(l.any p||rest):=by
 refine .bind ((T.search l p (λ_ _=>true) aa (λk x hx hk=>?_) he).mono ?_)
 .rw[h k x hx (bO hx) hk]
 .rintro r (⟨rfl,hr⟩|⟨k,x,hx,hp,rfl,_⟩)
  .have:l.any p=false:=Bool.eq_false_iff.2 λh=>by obtain⟨x,hx,h⟩:=List.any_eq_true.1 h;rw[hr x hx] at h;cases h
   rw[this,Bool.false_or];exact hn
  .have:l.any p=true:=List.any_eq_true.2 ⟨x,bO hx,hp⟩;rw[this,Bool.true_or];exact .some rfl
def yb(o:DOp):Bool:=o.Guards.all (λz=>decide (1<=z/\z<=12))&&(o.Refs.all (λn=>decide (n<2305843009213693951))&&(o.Past.all l7&&(o.Path.all (λn=>Cr n.Pub&&n.Boxes.all yZ)&&(o.Hist.all (λx=>l7 x.Of)&&o.Boxes.all yZ))))
theorem KA(h:SmOp o):T (vw o) λb=>b=yb o:=by
 have n1:=h.nPast;have n2:=h.nPath;have a:=h.nRefs;have c:=h.nGuards;have d:=h.nHist;have f:=h.nBoxes;unfold vw yb;refine Ip o.Guards aa (λk x hx hm hk=>?_) (by unfold qB;rw[eF,aM]) (Ip o.Refs aa (λk x hx hm hk=>?_) (by unfold qA;rw[eF,aM]) (Ip o.Past aa (λk x hx hm hk=>?_) (by unfold qz;rw[eF,aM]) (Ip o.Path aa (λk x hx hm hk=>?_) (by unfold qy;rw[eF,aM]) (Ip o.Hist aa (λk x hx hm hk=>?_) (by unfold qx;rw[eF,aM]) (.then (Cs aa) (.some rfl))))))
 .unfold qB;rw[eA hk,ax,au,hx,aq aa];simp only[aL,gT];cases decide (1<=x/\x<=12)<;>rfl
 .unfold qA;rw[eA hk,ax,au,hx,aq aa];simp only[aL,Cq];cases decide (x<2305843009213693951)<;>rfl
 .unfold qz;rw[eA hk,ax,au,hx,aq aa];simp only[aL,mY];cases l7 x<;>rfl
 .have e:=(Cs (l:=x.Boxes) (by have:=(h.path x hm).n;omega)).eq;unfold qy;rw[eA hk,ax,au,hx,aq aa];simp only[aL,kS,e];cases Cr x.Pub<;>cases x.Boxes.all yZ<;>rfl
 .unfold qx;rw[eA hk,ax,au,hx,aq aa];simp only[aL,mY];cases l7 x.Of<;>rfl
def Ct(o:DOp):Bool:=o.Path.any (λn=>decide (12<n.Boxes.length))||(o.Hist.any (λn=>decide (208<n.Body.length))||(decide (12<o.Past.length\/5<o.Path.length\/208<o.Body.length\/8<o.Refs.length\/20<o.Hist.length\/6<o.Guards.length)||(if o.Kind=7 then !decide (1<=o.Body.length/\o.Body.length<=20) else if o.Kind=9 then decide (o.Boxes.length≠o.Guards.length) else if o.Kind=10 then !decide (1<=o.Boxes.length/\o.Boxes.length<=6) else if o.Kind=11 then decide (o.Boxes.length≠1) else false)))
theorem Iq(l:List α)(n:Nat):decide ((n:Int)<ah l)=decide (n<l.length):=decide_eq_decide.2 (by unfold ah;omega)
theorem Tk{p:Prop}[Decidable p]{a b:α}:(bif decide p then a else b)=if p then a else b:=by by_cases h:p<;>simp[h]
theorem NZ(h:SmOp o):T (z6 o) λb=>b=Ct o:=by
 have n1:=h.nPast;have n2:=h.nPath;have a:=h.nHist;unfold z6 Ct;refine Mq o.Path aa (λk x hx hm hk=>?_) (by unfold tV;rw[eF,aM]) (Mq o.Hist aa (λk x hx hm hk=>?_) (by unfold tU;rw[eF,aM]) ?_)
 .unfold tV;rw[eA hk,ax,au,hx,aq aa,aL,show decide ((12:Int)<ah x.Boxes)=decide (12<x.Boxes.length) from Iq x.Boxes 12];cases decide (12<x.Boxes.length)<;>rfl
 .unfold tU;rw[eA hk,ax,au,hx,aq aa,aL,show decide ((208:Int)<ah x.Body)=decide (208<x.Body.length) from Iq x.Body 208];cases decide (208<x.Body.length)<;>rfl
 .have a1:decide ((12:Int)<ah o.Past)=decide (12<o.Past.length):=Iq o.Past 12;have a2:decide ((5:Int)<ah o.Path)=decide (5<o.Path.length):=Iq o.Path 5;have a3:decide ((208:Int)<ah o.Body)=decide (208<o.Body.length):=Iq o.Body 208;have a4:decide ((8:Int)<ah o.Refs)=decide (8<o.Refs.length):=Iq o.Refs 8;have a5:decide ((20:Int)<ah o.Hist)=decide (20<o.Hist.length):=Iq o.Hist 20;have a6:decide ((6:Int)<ah o.Guards)=decide (6<o.Guards.length):=Iq o.Guards 6;have b1:decide ((1:Int)<=ah o.Body/\ah o.Body<=20)=decide (1<=o.Body.length/\o.Body.length<=20):=decide_eq_decide.2 (by unfold ah;omega);have b2:decide ((1:Int)<=ah o.Boxes/\ah o.Boxes<=6)=decide (1<=o.Boxes.length/\o.Boxes.length<=6):=decide_eq_decide.2 (by unfold ah;omega);have b3:decide (ah o.Boxes≠ah o.Guards)=decide (o.Boxes.length≠o.Guards.length):=decide_eq_decide.2 (by unfold ah;omega);have b4:decide (ah o.Boxes≠1)=decide (o.Boxes.length≠1):=decide_eq_decide.2 (by unfold ah;omega);rw[a1,a2,a3,a4,a5,a6];simp only[gT,aL,b1,b2,b3,b4,cL];refine⟨_,rfl,?_⟩;simp only[Tk];by_cases c1:12<o.Past.length
  .simp[c1]
  by_cases c2:5<o.Path.length
  .simp[c2]
  by_cases c3:208<o.Body.length
  .simp[c3]
  by_cases c4:8<o.Refs.length
  .simp[c4]
  by_cases c5:20<o.Hist.length
  .simp[c5]
  by_cases c6:6<o.Guards.length
  .simp[c6]
  simp[c1,c2,c3,c4,c5,c6]
def Mr(o:DOp):Bool:=(mz o).getD false
theorem Cu(o:DOp):mz o=some (Mr o):=by
 have:T (mz o) λ_=>True:=by unfold mz;repeat'(first|exact T.some trivial|(refine T.bindc ?_ λv _=>?_)|(refine T.ite (λ_=>?_) λ_=>?_))
 obtain⟨b,e,_⟩:=this;unfold Mr;rw[e];rfl
def gU(o:DOp):Bool:=(ed o).getD false
theorem jF(o:DOp):ed o=some (gU o):=by
 have:T (ed o) λ_=>True:=by unfold ed;simp only[gT,mY,kS];repeat'(first|exact T.some trivial|(refine T.bindc ?_ λv _=>?_)|(refine T.ite (λ_=>?_) λ_=>?_))
 obtain⟨b,e,_⟩:=this;unfold gU;rw[e];rfl
def dt(a b:DIdent):Bool:=if a.By≠b.By then decide (a.By<b.By) else if a.Seq≠b.Seq then decide (a.Seq<b.Seq) else decide (a.Sum<b.Sum)
theorem pJ(a b:DIdent):oU a b=some (dt a b):=by
 unfold oU dt;rw[show decide ((a.Sum:Int)<(b.Sum:Int))=decide (a.Sum<b.Sum) from decide_eq_decide.2 aa];by_cases h1:a.By≠b.By
 .simp[h1]
 .by_cases h2:a.Seq≠b.Seq<;>simp[h1,h2]
structure CheckOk (o:DOp):Prop where
 kind:1<=o.Kind/\o.Kind<=13
 bare:Mr o=true
 numbers:gU o=true
 items:yb o=true
 long:Ct o=false
 past:∀(k:Nat) (a b:DIdent),o.Past[k]?=some a->o.Past[k+1]?=some b->dt a b=true
 guards:∀(k:Nat) (a b:Int),o.Guards[k]?=some a->o.Guards[k+1]?=some b->a<b
 create:o.Past=[]↔o.Kind=1
theorem F7(h:1<=k)(h2:k<2305843009213693952):wI ((k:Int)-1)=((k-1:Nat):Int):=by rw[bM aa aa];omega
theorem Cv(h:SmOp o):T (qE o) λe=>e=0->CheckOk o:=by
 have n1:=h.nPast;have f:=h.nGuards;unfold qE;rw[cL,aL];refine .ite (λ_=> .some (λe=>absurd e a9)) λhk=>?_;rw[Cu,aL];refine .ite (λ_=> .some (λe=>absurd e a9)) λhb=>?_;rw[jF,aL];refine .then (v:= !(gU o)|| !(yb o)) ?_ ?_
 .cases hn:gU o with
  |false=>exact .some rfl
  |true=>exact .then (KA h) (.some aC)
 refine .ite (λ_=> .some (λe=>absurd e a9)) λhn=>?_;refine .then (NZ h) (.ite (λ_=> .some (λe=>absurd e a9)) λhl=>?_);refine .bind (T.for1 o.Past.length (λk=>∀(j:Nat) (a b:DIdent),j+1<k->o.Past[j]?=some a->o.Past[j+1]?=some b->dt a b=true) aa (λj a b hj=>absurd hj aa) (λk h1 hk hj=>?_) λk hge _ hj=>?_)
 .obtain⟨a0,e0⟩:∃a0,o.Past[k-1]?=some a0:=⟨_,cv aa⟩;obtain⟨a1,e1⟩:∃a1,o.Past[k]?=some a1:=⟨_,cv hk⟩;unfold qD;rw[eA hk,ax,F7 h1 aa,au,au,e0,e1,aq aa];simp only[aL,pJ];refine .ite (λ_=> .some (.some (λe=>absurd e a9))) λc=> .some ⟨rfl,λj a b d ha hb'=>?_⟩;rcases Nat.lt_or_ge (j+1) k with hlt|hge
  .exact hj j a b hlt ha hb'
  .obtain rfl:j+1=k:=aa;rw[Nat.add_sub_cancel] at e0;rw[e0] at ha;cases ha;rw[e1] at hb';cases hb';simpa using c
 unfold qD;rw[show decide ((k:Int)<ah o.Past)=false from decide_eq_false (by unfold ah;omega),aM];refine .some ?_;have hpast:∀(j:Nat) (a b:DIdent),o.Past[j]?=some a->o.Past[j+1]?=some b->dt a b=true:=λj a b ha hb'=>hj j a b (by have:=(cr hb').1;omega) ha hb';clear hj;refine .bind (T.for1 o.Guards.length (λk=>∀(j:Nat) (a b:Int),j+1<k->o.Guards[j]?=some a->o.Guards[j+1]?=some b->a<b) aa (λj a b hj=>absurd hj aa) (λk h1 hk hj=>?_) λk hge _ hj=>?_)
 .obtain⟨a0,e0⟩:∃a0,o.Guards[k-1]?=some a0:=⟨_,cv aa⟩;obtain⟨a1,e1⟩:∃a1,o.Guards[k]?=some a1:=⟨_,cv hk⟩;unfold qC;rw[eA hk,ax,F7 h1 aa,au,au,e0,e1,aq aa];simp only[aL];refine .dec (λ_=> .some (.some (λe=>absurd e a9))) λc=> .some ⟨rfl,λj a b d ha hb'=>?_⟩;rcases Nat.lt_or_ge (j+1) k with hlt|hge
  .exact hj j a b hlt ha hb'
  .obtain rfl:j+1=k:=aa;rw[Nat.add_sub_cancel] at e0;rw[e0] at ha;cases ha;rw[e1] at hb';cases hb';omega
 unfold qC;rw[show decide ((k:Int)<ah o.Guards)=false from decide_eq_false (by unfold ah;omega),aM];refine .some ?_;have hguards:∀(j:Nat) (a b:Int),o.Guards[j]?=some a->o.Guards[j+1]?=some b->a<b:=λj a b ha hb'=>hj j a b (by have:=(cr hb').1;omega) ha hb';rw[cL,cL,cL,aL];refine .ite (λ_=> .some (λe=>absurd e a9)) λhc=> .some λ_=>⟨?_,?_,?_,?_,hl,hpast,hguards,?_⟩
 .by_cases c1:o.Kind<1
  .simp[c1] at hk
  .simp[c1] at hk;omega
 .simpa using hb
 .cases hx:gU o with
  |true=>rfl
  |false=>rw[hx] at hn;cases hn
 .cases hx:yb o with
  |true=>rfl
  |false=>rw[hx] at hn;cases hy:gU o<;>rw[hy] at hn<;>cases hn
 .have e:ah o.Past=0↔o.Past=[]:=by
   unfold ah;constructor
   .intro h0;exact List.eq_nil_of_length_eq_zero aa
   .intro h0;rw[h0];rfl
  rw[<-e];by_cases c1:ah o.Past=0<;>by_cases c2:o.Kind=1<;>simp[c1,c2] at hc⊢
theorem uW{x:Option α}{Q:α->Prop}(h:T x Q):T x λ_=>True:=h.mono λ_ _=>trivial
theorem KB{b:List UInt8}{s:DSig}(hp:fS p)(hS:fS s.S)(hb:b.length<=1073741824):T (jJ p b s) λ_=>True:=by
 unfold jJ;have e:fV=some 2305843009213693950:=rfl;simp only[e,aL];refine .bindc ?_ λj _=>?_
 .repeat'(first|exact T.some trivial|(refine T.ite (λ_=>?_) λ_=>?_))
 .refine .ite (λ_=> .some trivial) λ_=>?_;refine .bind ((ka _ hS).mono λc _=> .bind ((QE hb).mono λd h6=> .bind ((ka _ h6).mono λf _=> .bind ((wL _ _).mono λa _=> .some trivial))))
section
variable {K:Type} [DecidableEq K]
theorem gb{k:K}:∀{l:List K} {n:Nat},bu k l=some n->l[n]?=some k/\∀j,j<n->l[j]?≠some k
 |[],n,h=>by cases h
 |x::r,n,h=>by
  unfold bu at h;split at h
  .rename_i e;cases h;exact⟨by rw[e];rfl,λj hj=>absurd hj (Nat.not_lt_zero _)⟩
  .rename_i e;rw[cn] at h;obtain⟨a,h',rfl⟩:=h;obtain⟨h1,h2⟩:=gb h';refine⟨by simpa using h1,λj hj=>?_⟩;cases j with
   |zero=>intro hx;simp at hx;exact e hx.symm
   |succ j=>simpa using h2 j aa
theorem jv{k:K}:∀{l:List K},bu k l=none↔k∉l
 |[]=>by simp[bu]
 |x::r=>by
  unfold bu;by_cases h:k=x
  .simp[h]
  .simp[h,jv (l:=r)]
theorem y0{k:K}{l:List K}(h:l[n]?=some k)(h2:∀j,j<n->l[j]?≠some k):bu k l=some n:=by
 cases hk:bu k l with
 |none=>exact absurd (bO h) (jv.1 hk)
 |some m=>
  obtain⟨h3,h4⟩:=gb hk;rcases Nat.lt_trichotomy m n with hlt|rfl|hgt
  .exact absurd h3 (h2 m hlt)
  .rfl
  .exact absurd h (h4 n hgt)
end
def gO(g:D12G)(id:DIdent):Int:=match bu id g.IDs with
 |none=> -1
 |some k=>(k:Int)
theorem dC(hn:g.IDs.length<=1000000)(id:DIdent):fC g id=some (gO g id):=by
 unfold fC;refine T.eq (.bind ((T.search g.IDs (λx=>decide (x=id)) (λk _=>(k:Int)) aa (λk x hx hk=>?_) ?_).mono ?_))
 .unfold qF;rw[eA hk,ax,au,hx,aq aa,aL];cases decide (x=id)<;>rfl
 .unfold qF;rw[eF,aM]
 .rintro r (⟨rfl,h⟩|⟨k,x,hx,hp,rfl,h⟩)
  .have:bu id g.IDs=none:=jv.2 λhm=>by simpa using h id hm
   refine .some ?_;unfold gO;rw[this]
  .have hp:=of_decide_eq_true hp;subst hp;have:bu x g.IDs=some k:=y0 hx λj hj e=>by simpa using h j x hj e
   refine .some ?_;unfold gO;rw[this]
def UW:DCard:=⟨0,0,0,0,0⟩
def mZ(g:D12G)(d:Int):DCard×Bool:=match g.Cards.find? (λc=>decide (c.Device=d)) with
 |none=>(UW,false)
 |some c=>(c,true)
theorem Cw(hn:g.Cards.length<=1000000)(d:Int):vz g d=some (mZ g d):=by
 unfold vz;refine T.eq (.bind (T.forA g.Cards.length (λk b=>b=UW/\∀(j:Nat) (c:DCard),j<k->g.Cards[j]?=some c->c.Device≠d) aa ⟨rfl,λj c hj=>absurd hj (Nat.not_lt_zero _)⟩ (λk b hk hj=>?_) λb hj=>?_))
 .obtain⟨c,hc⟩:∃c,g.Cards[k]?=some c:=⟨_,cv hk⟩;unfold tX;dsimp only;rw[eA hk,ax,au,hc,aL];refine .dec (λh=>?_) λh=> .some ⟨aq aa,hj.1,λj c' e a=>?_⟩
  .refine .some (.some ?_);unfold mZ;have:g.Cards.find? (λc=>decide (c.Device=d))=some c:=by rw[List.find?_eq_some_iff_getElem];refine⟨decide_eq_true h,k,hk,(cr hc).2,λj e=>?_⟩;have:=hj.2 j _ e (cv aa);simpa using this
   rw[this]
  .rcases Nat.lt_or_ge j k with hlt|hge
   .exact hj.2 j c' hlt a
   .obtain rfl:j=k:=aa;rw[hc] at a;cases a;exact h
 .unfold tX;dsimp only;rw[eF,aM];refine .some (.some ?_);unfold mZ;have:g.Cards.find? (λc=>decide (c.Device=d))=none:=by rw[List.find?_eq_none];intro c hc;obtain⟨j,hj'⟩:=List.getElem?_of_mem hc;have:=hj.2 j c (cr hj').1 hj';simpa using this
  rw[this];rfl
def QF(l:List Int)(n:Int):Bool:=l.any λx=>decide (x=n)
theorem cX{l:List Int}(hn:l.length<=1000000)(n:Int):fb l n=some (QF l n):=by
 unfold fb QF;refine T.eq ((Mq l hn (rest:=false) (next:=λ_=>some false) (λk x hx hm hk=>?_) ?_ (.some rfl)).mono λv hv=>by simpa using hv)
 .unfold xq;rw[eA hk,ax,au,hx,aq aa,aL,cL]
 .unfold xq;rw[eF,aM]
def nA(l:List DIdent)(n:DIdent):Bool:=l.any λx=>decide (x=n)
theorem kf{l:List DIdent}(hn:l.length<=1000000)(n:DIdent):jL l n=some (nA l n):=by
 unfold jL nA;refine T.eq ((Mq l hn (rest:=false) (next:=λ_=>some false) (λk x hx hm hk=>?_) ?_ (.some rfl)).mono λv hv=>by simpa using hv)
 .unfold qJ;rw[eA hk,ax,au,hx,aq aa,aL,cL]
 .unfold qJ;rw[eF,aM]
def vf(g:D12G)(i k:Nat):Bool:=((g.In[i]?).bind λr=>r[k]?).getD false
structure WfG (g:D12G):Prop where
 nL:g.L.length<=200
 nI:g.IDs.length=g.L.length
 nU:g.Up.length=g.L.length
 nN:g.In.length=g.L.length
 nC:g.Cards.length<=1000
 cards:∀c∈g.Cards,c8 c.Device/\c8 c.Member/\fS c.Sign
 up:∀(i:Nat) (u:List Int),g.Up[i]?=some u->u.length<=12/\∀x∈u,0<=x/\x<(i:Int)
 rows:∀(i:Nat) (r:List Bool),g.In[i]?=some r->r.length=g.L.length
 inlt:∀i k,vf g i k=true->k<i/\i<g.L.length
 ops:∀(i:Nat) (o:DOp),g.L[i]?=some o->SmOp o/\CheckOk o/\fS o.Sig.S
 ids:∀(i:Nat) (o:DOp) (id:DIdent),g.L[i]?=some o->g.IDs[i]?=some id->pV o=some id
 nd:g.IDs.Nodup
 one:∀(i k:Nat) (u:List Int),g.Up[i]?=some u->(k:Int)∈u->vf g i k=true
 tr:∀(i j k:Nat) (u:List Int),vf g i j=true->g.Up[j]?=some u->(k:Int)∈u->vf g i k=true
 la:∀(i k:Nat),vf g i k=true->∃u,g.Up[i]?=some u/\((k:Int)∈u\/∃j v,vf g i j=true/\g.Up[j]?=some v/\(k:Int)∈v)
def behind(g:D12G)(up:List Int)(k:Nat):Prop:=(k:Int)∈up\/∃j:Nat,(j:Int)∈up/\vf g j k=true
theorem yc(w:WfG g){up:List Int}(h1:up.length<=1000)(h2:∀x∈up,0<=x/\x<(g.L.length:Int)):T (jA g up) λr=>r.length=g.L.length/\∀k,k<g.L.length->(r[k]?=some true↔behind g up k):=by
 have nL:=w.nL;unfold jA;refine .bind (.make (by unfold ah;omega) (by unfold ah;omega) (by unfold ah;omega) ?_);have e0:wI (ah g.L-1)=(g.L.length:Int)-1:=bM (by unfold ah;omega) (by unfold ah;omega);rw[e0];have e1:(ah g.L).toNat=g.L.length:=by unfold ah;omega
 rw[e1];refine .bind (T.loop (λs=> -1<=s.2/\s.2<g.L.length/\s.1.length=g.L.length/\(∀k:Nat,k<g.L.length->s.2<k->(s.1[k]?=some true↔behind g up k))/\∀k:Nat,(k:Int)<=s.2->(s.1[k]?=some true↔∃j v,s.2<(j:Nat)/\behind g up j/\j<g.L.length/\g.Up[j]?=some v/\(k:Int)∈v)) (λs=>(s.2+1).toNat) ⟨by simp only;omega,by simp only;omega,aC,λk hk hi=>by simp only at hi;omega,λk hk=>?_⟩ (by simp only;omega) ?_)
 .simp only at hk⊢;constructor
  .intro h;rw[List.getElem?_replicate] at h;split at h<;>cases h
  .rintro⟨j,v,hj,_,hjl,_⟩;omega
 rintro⟨r,i⟩ ⟨l,i1,a,c,i4⟩;simp only at l i1 a c i4;unfold AJ;dsimp only;refine .dec (λhi=>?_) λhi=> .some (.some ⟨a,λk hk=>c k hk aa⟩);obtain⟨n,rfl⟩:∃n:Nat,i=(n:Int):=⟨i.toNat,aa⟩;have hn:n<g.L.length:=aa;rw[cX aa,aL];have hUp:∃u,g.Up[n]?=some u:=⟨_,cv (by rw[w.nU];exact hn)⟩;obtain⟨u,hu⟩:=hUp;obtain⟨u1,f⟩:=w.up n u hu;have hbeh:∀k,behind g up k↔((k:Int)∈up\/∃j v,behind g up j/\g.Up[j]?=some v/\(k:Int)∈v):=λk=>by
  constructor
  .rintro(h|⟨j,hj,e⟩)
   .exact .inl h
   .obtain⟨v,hv,hk|⟨m,p,h3,h4,h5⟩⟩:=w.la j k e
    .exact .inr ⟨j,v,.inl hj,hv,hk⟩
    .exact .inr ⟨m,p,.inr ⟨j,hj,h3⟩,h4,h5⟩
  .rintro(h|⟨j,v,hj|⟨m,hm,hmj⟩,hv,hk⟩)
   .exact .inl h
   .exact .inr ⟨j,hj,w.one j k v hv hk⟩
   .exact .inr ⟨m,hm,w.tr m j k v hmj hv hk⟩
 have hlt:∀(j:Nat) (v:List Int) (k:Nat),g.Up[j]?=some v->(k:Int)∈v->k<j:=λj v k hv hk=>by have:=(w.up j v hv).2 _ hk;omega
 refine .bind (T.mono (Q:=λs=>s.length=g.L.length/\(∀k:Nat,k≠n->s[k]?=r[k]?)/\(s[n]?=some true↔behind g up n)) ?_ ?_)
 .have key:(r[n]?=some true\/(n:Int)∈up)↔behind g up n:=by
   rw[hbeh n,i4 n (Int.le_refl _)];constructor
   .rintro(⟨j,v,_,h3,_,h4,h5⟩|h)
    .exact .inr ⟨j,v,h3,h4,h5⟩
    .exact .inl h
   .rintro(h|⟨j,v,h3,h4,h5⟩)
    .exact .inr h
    .have:=hlt j v n h4 h5;exact .inl ⟨j,v,aa,h3,by have:=(cr h4).1;rw[w.nU] at this;exact this,h4,h5⟩
  refine .ite (λd=>?_) λd=>?_
  .have hm:(n:Int)∈up:=by obtain⟨x,hx,hb⟩:=List.any_eq_true.1 d;rw[<-of_decide_eq_true hb];exact hx
   refine .bind (.set aa (by rw[a];omega) (.some ⟨by simpa using a,λk hk=>?_,?_⟩))
   .rw[Int.toNat_natCast,List.getElem?_set_ne (Ne.symm hk)]
   .rw[Int.toNat_natCast,List.getElem?_set_self aa];simp;exact key.1 (.inr hm)
  .have hm:(n:Int)∉up:=λhm=>by have:QF up n=true:=List.any_eq_true.2 ⟨_,hm,aC⟩;rw[this] at d;cases d
   refine .some ⟨a,λ_ _=>rfl,?_⟩;rw[<-key];exact⟨.inl,λh=>h.resolve_right hm⟩
 .rintro s ⟨s1,s2,s3⟩;obtain⟨b,hb⟩:∃b,s[n]?=some b:=⟨_,cv aa⟩;rw[au,hb,aL];have ew:wI ((n:Int)-1)=(n:Int)-1:=bM aa aa;refine .ite (λhbt=>?_) λhbf=>?_
  .have hbt:b=true:=hbt;subst hbt;have hbn:=s3.1 hb;refine .bind (T.mono (Q:=λt=>t.length=g.L.length/\∀k:Nat,t[k]?=some true↔(s[k]?=some true\/(k:Int)∈u)) (T.forA u.length (λm t=>t.length=g.L.length/\∀k:Nat,t[k]?=some true↔(s[k]?=some true\/∃j,j<m/\u[j]?=some (k:Int))) aa ⟨s1,λk=>aC⟩ (λm t hm hj=>?_) λt hj=>?_) ?_)
   .obtain⟨x,hx⟩:∃x,u[m]?=some x:=⟨_,cv hm⟩;have hxu:=f x (bO hx);unfold tT;dsimp only;rw[au,hu,aL,eA hm,ax,aL,au,hx,aL];refine .bind (.set hxu.1 (by rw[hj.1];omega) (.some ⟨aq aa,by simpa using hj.1,λk=>?_⟩));obtain⟨y,rfl⟩:∃y:Nat,x=(y:Int):=⟨x.toNat,aa⟩;simp only[Int.toNat_natCast];by_cases hk:k=y
    .subst hk;rw[List.getElem?_set_self (by rw[hj.1];omega)];simp;exact .inr ⟨m,aa,hx⟩
    .rw[List.getElem?_set_ne (Ne.symm hk),hj.2 k];constructor
     .rintro(h|⟨j,h3,h4⟩)
      .exact .inl h
      .exact .inr ⟨j,aa,h4⟩
     .rintro(h|⟨j,h3,h4⟩)
      .exact .inl h
      .rcases Nat.lt_or_ge j m with hlt'|hge
       .exact .inr ⟨j,hlt',h4⟩
       .obtain rfl:j=m:=aa;rw[hx] at h4;have:(y:Int)=(k:Int):=bn h4;omega
   .unfold tT;dsimp only;rw[au,hu,aL,eF,aM];refine .some ⟨hj.1,λk=>?_⟩;rw[hj.2 k];constructor
    .rintro(h|⟨j,_,h4⟩)
     .exact .inl h
     .exact .inr (bO h4)
    .rintro(h|h)
     .exact .inl h
     .obtain⟨j,hj'⟩:=List.getElem?_of_mem h;exact .inr ⟨j,(cr hj').1,hj'⟩
   .rintro t ⟨o,t2⟩;refine .some ⟨⟨?_,?_,o,λk hk hik=>?_,λk hk=>?_⟩,?_⟩
    .show-1<=wI ((n:Int)-1);rw[ew];omega
    .show wI ((n:Int)-1)<_;rw[ew];omega
    .replace hik:wI ((n:Int)-1)<k:=hik;rw[ew] at hik;show t[k]?=some true↔_;rw[t2 k];have hku:(k:Int)∉u:=λh=>by have:=f _ h;omega
     rcases Nat.lt_trichotomy k n with h|rfl|h
     .omega
     .rw[hb];simp[hku,hbn]
     .rw[s2 k aa,c k hk aa];simp[hku]
    .replace hk:(k:Int)<=wI ((n:Int)-1):=hk;rw[ew] at hk;show t[k]?=some true↔∃j v,wI ((n:Int)-1)<(j:Nat)/\_;rw[ew,t2 k,s2 k aa,i4 k aa];constructor
     .rintro(⟨j,v,h3,h4⟩|h)
      .exact⟨j,v,aa,h4⟩
      .exact⟨n,u,aa,hbn,hn,hu,h⟩
     .rintro⟨j,v,h3,h4,h5,h6,h7⟩;rcases Nat.lt_or_ge n j with h|h
      .exact .inl ⟨j,v,aa,h4,h5,h6,h7⟩
      .obtain rfl:j=n:=aa;rw[hu] at h6;cases h6;exact .inr h7
    .show(wI ((n:Int)-1)+1).toNat<_;rw[ew];omega
  .have hbf:b=false:=hbf;subst hbf;have hbn:¬behind g up n:=λh=>by have:=s3.2 h;rw[hb] at this;cases this
   refine .some ⟨⟨?_,?_,s1,λk hk hik=>?_,λk hk=>?_⟩,?_⟩
   .show-1<=wI ((n:Int)-1);rw[ew];omega
   .show wI ((n:Int)-1)<_;rw[ew];omega
   .replace hik:wI ((n:Int)-1)<k:=hik;rw[ew] at hik;show s[k]?=some true↔_;by_cases h:k=n
    .subst h;exact s3
    .rw[s2 k h,c k hk aa]
   .replace hk:(k:Int)<=wI ((n:Int)-1):=hk;rw[ew] at hk;show s[k]?=some true↔∃j v,wI ((n:Int)-1)<(j:Nat)/\_;rw[ew,s2 k aa,i4 k aa];constructor
    .rintro⟨j,v,h3,h4⟩;exact⟨j,v,aa,h4⟩
    .rintro⟨j,v,h3,h4,h5⟩;refine⟨j,v,?_,h4,h5⟩;rcases Nat.lt_or_ge n j with h|h
     .omega
     .obtain rfl:j=n:=aa;exact absurd h4 hbn
   .show(wI ((n:Int)-1)+1).toNat<_;rw[ew];omega
theorem WfG.op{g:D12G}(w:WfG g){i:Nat}(h:i<g.L.length):∃o,g.L[i]?=some o/\SmOp o/\CheckOk o:=by obtain⟨o,ho⟩:∃o,g.L[i]?=some o:=⟨_,cv h⟩;exact⟨o,ho,(w.ops i o ho).1,(w.ops i o ho).2.1⟩
theorem KC(w:WfG g){o:DOp}(hr:r.length=g.L.length):T (lA g o r) λ_=>True:=by
 have nL:=w.nL;unfold lA;refine .bind (T.forA g.L.length (λ_ _=>True) aa trivial (λk b hk _=>?_) λb _=>?_)
 .obtain⟨p,hp,_⟩:=w.op hk;obtain⟨x,hx⟩:∃x,r[k]?=some x:=⟨_,cv aa⟩;unfold jK;dsimp only;rw[eA hk,ax,au,au,hx,hp];simp only[aL];refine .bindc ?_ λj _=> .ite (λ_=> .some ⟨aq aa,trivial⟩) λ_=>?_
  .repeat'(first|exact T.some trivial|(refine T.ite (λ_=>?_) λ_=>?_))
  .refine .ite (λ_=> .some (.some trivial)) λ_=> .bindc ?_ λj _=> .some ⟨aq aa,trivial⟩;repeat'(first|exact T.some trivial|(refine T.ite (λ_=>?_) λ_=>?_))
 .unfold jK;dsimp only;rw[eF,aM];refine .some (.bindc ?_ λj _=> .some trivial);repeat'(first|exact T.some trivial|(refine T.ite (λ_=>?_) λ_=>?_))
structure AddOk (g:D12G) (o:DOp) (up:List Int):Prop where
 check:CheckOk o
 id:∃i,pV o=some i/\bu i g.IDs=none
 room:g.L.length<200
 card:∃c,mZ g o.By=(c,true)/\jJ c.Sign (qc o) o.Sig=some true
 create:o.Kind=1->g.L=[]
 upl:up.length=o.Past.length
 par:∀(k:Nat) (i:DIdent),o.Past[k]?=some i->∃n:Nat,bu i g.IDs=some n/\up[k]?=some (n:Int)
 upb:∀x∈up,0<=x/\x<(g.L.length:Int)
 apart:∀i k:Nat,(i:Int)∈up->(k:Int)∈up->vf g i k=false
 late:∀(i:Nat) (p:DOp),(i:Int)∈up->g.L[i]?=some p->p.At<=o.At
 right:∃r,jA g up=some r/\lA g o r=some true
theorem pK(h:Ct o=false):o.Past.length<=12:=by unfold Ct at h;simp only[Bool.or_eq_false_iff,decide_eq_false_iff_not] at h;omega
theorem yd{c:DCard}(h:mZ g d=(c,true)):c∈g.Cards/\c.Device=d:=by
 unfold mZ at h;split at h
 .cases h
 .rename_i c' hc;cases h;have:=List.find?_some hc;exact⟨List.mem_of_find?_eq_some hc,by simpa using this⟩
theorem wO(h:g.In[i]?=some r):vf g i k=(r[k]?).getD false:=by unfold vf;rw[h];rfl
theorem KD(w:WfG g)(ho:SmOp o)(hs:fS o.Sig.S):T (vA g o) λr=>r.1=0->AddOk g o r.2:=by
 have nL:=w.nL;have nI:=w.nI;have nC:=w.nC;have nP:=ho.nPast;unfold vA;refine .bind ((Cv ho).mono λe he=> .dec (λh=> .some λh0=>absurd h0 h) λh=>?_);have hc:CheckOk o:=he (by simpa using h);obtain⟨i,ei,i1,C,D,i4⟩:=wN ho;rw[ei,aL,dC aa,aL];refine .dec (λ_=> .some λh0=>absurd h0 a9) λhpl=>?_;have hk:bu i g.IDs=none:=by
  unfold gO at hpl;cases hx:bu i g.IDs with
  |none=>rfl
  |some n=>rw[hx] at hpl;simp only at hpl;omega
 refine .dec (λ_=> .some λh0=>absurd h0 a9) λhroom=>?_;have hroom:g.L.length<200:=by unfold ah at hroom;omega
 rw[Cw aa,aL];refine .ite (λ_=> .some λh0=>absurd h0 a9) λd=>?_;obtain⟨c,hcd⟩:∃c,mZ g o.By=(c,true):=⟨(mZ g o.By).1,by
  have:(mZ g o.By).2=true:=by simpa using d
  rw[<-this]⟩
 rw[hcd];refine .then (uV ho) ?_;refine .bindc (uW (KB (w.cards c (yd hcd).1).2.2 hs (by have:=yY ho;omega))) λsg hsg=>?_;refine .ite (λ_=> .some λh0=>absurd h0 a9) λf=>?_;have hsg:jJ c.Sign (qc o) o.Sig=some true:=by
  rw[hsg];have:sg=true:=by simpa using f
  rw[this]
 rw[cL,aL];refine .ite (λ_=> .some λh0=>absurd h0 a9) λhcr=>?_;have hcr:o.Kind=1->g.L=[]:=λh1=>by rw[decide_eq_true h1,ax] at hcr;have:=of_decide_eq_false hcr;unfold ah at this;exact List.eq_nil_of_length_eq_zero aa
 refine .bind (T.forA o.Past.length (λk a=>a.length=k/\(∀(j:Nat) (x:DIdent),j<k->o.Past[j]?=some x->∃n:Nat,bu x g.IDs=some n/\a[j]?=some (n:Int))/\∀x∈a,0<=x/\x<(g.L.length:Int)) aa ⟨rfl,λj x hj=>absurd hj (Nat.not_lt_zero _),aC⟩ (λk a hk hj=>?_) λa hj=>?_)
 .obtain⟨x,hx⟩:∃x,o.Past[k]?=some x:=⟨_,cv hk⟩;unfold qI;dsimp only;rw[eA hk,ax,au,hx,aL,dC aa,aL];refine .dec (λ_=> .some (.some λh0=>absurd h0 a9)) λhp=>?_;have hkx:∃n,bu x g.IDs=some n:=by
   unfold gO at hp;cases hy:bu x g.IDs with
   |none=>rw[hy] at hp;simp at hp
   |some n=>exact⟨n,rfl⟩
  obtain⟨n,hn⟩:=hkx;have ep:gO g x=(n:Int):=by unfold gO;rw[hn]
  have hnl:n<g.L.length:=by have:=(cr (gb hn).1).1;omega
  rw[ep];refine .bind (.app cq (.some ⟨aq aa,by simp;exact hj.1,λj y l hy=>?_,λy hy=>?_⟩))
  .rcases Nat.lt_or_ge j k with hlt|hge
   .obtain⟨m,h1,h2⟩:=hj.2.1 j y hlt hy;exact⟨m,h1,by rw[List.getElem?_append_left (by rw[hj.1];exact hlt)];exact h2⟩
   .obtain rfl:j=k:=aa;rw[hx] at hy;cases hy;exact⟨n,hn,by rw[List.getElem?_append_right (by rw[hj.1];omega),hj.1];simp⟩
  .rcases List.mem_append.1 hy with hy|hy
   .exact hj.2.2 y hy
   .simp at hy;subst hy;omega
 unfold qI;dsimp only;rw[eF,aM];refine .some ?_;obtain⟨a1,a2,a3⟩:=hj;have hup:∀(k:Nat) (x:DIdent),o.Past[k]?=some x->∃n:Nat,bu x g.IDs=some n/\a[k]?=some (n:Int):=λk x hx=>a2 k x (cr hx).1 hx;clear a2;refine .bind (T.forI a.length (λk=>(∀(j:Nat) (x y:Nat),j<k->a[j]?=some (x:Int)->(y:Int)∈a->vf g x y=false)/\∀(j:Nat) (x:Nat) (p:DOp),j<k->a[j]?=some (x:Int)->g.L[x]?=some p->p.At<=o.At) aa ⟨λj x y hj=>absurd hj (Nat.not_lt_zero _),λj x p hj=>absurd hj (Nat.not_lt_zero _)⟩ (λk hk hj=>?_) λhj=>?_)
 .obtain⟨x,hx⟩:∃x,a[k]?=some x:=⟨_,cv hk⟩;have t:=a3 x (bO hx);obtain⟨n,rfl⟩:∃n:Nat,x=(n:Int):=⟨x.toNat,aa⟩;have hnl:n<g.L.length:=aa;obtain⟨r,hr⟩:∃r,g.In[n]?=some r:=⟨_,cv (by rw[w.nN];exact hnl)⟩;obtain⟨p,hp,_⟩:=w.op hnl;unfold qH;rw[eA hk,ax];refine .bind (T.forI a.length (λm=>∀(j:Nat) (y:Nat),j<m->a[j]?=some (y:Int)->vf g n y=false) aa (λj y hj=>absurd hj (Nat.not_lt_zero _)) (λm hm hjm=>?_) λhjm=>?_)
  .obtain⟨y,hy⟩:∃y,a[m]?=some y:=⟨_,cv hm⟩;have u:=a3 y (bO hy);obtain⟨q,rfl⟩:∃q:Nat,y=(q:Int):=⟨y.toNat,aa⟩;obtain⟨b,hb⟩:∃b,r[q]?=some b:=⟨_,cv (by rw[w.rows n r hr];omega)⟩;unfold qG;rw[eA hm,ax,au,hx,aL,au,hr,aL,au,hy,aL,au,hb,aL];refine .ite (λ_=> .some (.some (.some λh0=>absurd h0 a9))) λhbf=> .some ⟨aq aa,λj z v hz=>?_⟩;rcases Nat.lt_or_ge j m with hlt|hge
   .exact hjm j z hlt hz
   .obtain rfl:j=m:=aa;rw[hy] at hz;obtain rfl:q=z:=by have:=bn hz;omega
    rw[wO hr,hb];simpa using hbf
  .unfold qG;rw[eF,aM];refine .some ?_;show T (ma _ _ _) _;dsimp only[ma];rw[au,hx,aL,au,hp,aL];refine .dec (λ_=> .some (.some λh0=>absurd h0 a9)) λhat=> .some ⟨aq aa,λj s y l hx' hy=>?_,λj s B l hx' hp'=>?_⟩
   .rcases Nat.lt_or_ge j k with hlt|hge
    .exact hj.1 j s y hlt hx' hy
    .obtain rfl:j=k:=aa;rw[hx] at hx';obtain rfl:n=s:=by have:=bn hx';omega
     obtain⟨m,hm⟩:=List.getElem?_of_mem hy;exact hjm m y (cr hm).1 hm
   .rcases Nat.lt_or_ge j k with hlt|hge
    .exact hj.2 j s B hlt hx' hp'
    .obtain rfl:j=k:=aa;rw[hx] at hx';obtain rfl:n=s:=by have:=bn hx';omega
     rw[hp] at hp';cases hp';omega
 unfold qH;rw[eF,aM];refine .some ?_;obtain⟨b1,b2⟩:=hj;obtain⟨r,hr,A,E⟩:=yc w (up:=a) aa a3;obtain⟨b,hb,_⟩:=KC w (o:=o) A;show T (ma _ _ _) _;dsimp only[ma];rw[hr,aL,hb,aL];refine .ite (λ_=> .some λh0=>absurd h0 a9) λhbt=> .some λ_=>⟨hc,⟨i,ei,hk⟩,hroom,⟨c,hcd,hsg⟩,hcr,a1,hup,a3,λx y hx hy=>?_,λx p hx hp=>?_,⟨r,hr,?_⟩⟩
 .obtain⟨j,hj⟩:=List.getElem?_of_mem hx;exact b1 j x y (cr hj).1 hj hy
 .obtain⟨j,hj⟩:=List.getElem?_of_mem hx;exact b2 j x p (cr hj).1 hj hp
 .rw[hb];have:b=true:=by simpa using hbt
  rw[this]
def pL(g:D12G)(o:DOp)(i:DIdent)(up:List Int)(r:List Bool):D12G:=⟨g.Cards,g.L++[o],g.IDs++[i],g.Up++[up],g.In.map (·++[false])++[r++[false]]⟩
theorem je{l:List α}{x y:α}(h:(l++[x])[i]?=some y):(i<l.length/\l[i]?=some y)\/(i=l.length/\y=x):=by
 rcases Nat.lt_or_ge i l.length with hlt|hge
 .rw[List.getElem?_append_left hlt] at h;exact .inl ⟨hlt,h⟩
 .rw[List.getElem?_append_right hge] at h;have h0:i-l.length=0:=by have:=(cr h).1;simp at this;omega
  rw[h0] at h;simp at h;exact .inr ⟨aa,h.symm⟩
theorem Ms{l:List α}{x y:α}(h:l[i]?=some y):(l++[x])[i]?=some y:=by rw[List.getElem?_append_left (cr h).1];exact h
theorem F8{l:List α}{x:α}:(l++[x])[l.length]?=some x:=aC
theorem kU(w:WfG g){o:DOp}{id:DIdent}{up:List Int}(hr:r.length=g.L.length)(i k:Nat):vf (pL g o id up r) i k=true↔(i<g.L.length/\vf g i k=true)\/(i=g.L.length/\r[k]?=some true):=by
 have nN:=w.nN;have e:(pL g o id up r).In=g.In.map (·++[false])++[r++[false]]:=rfl;have lm:(g.In.map (·++[false])).length=g.L.length:=by rw[List.length_map,nN]
 have snoc:∀(l:List Bool),((l++[false])[k]?).getD false=true↔l[k]?=some true:=λl=>by
  rcases Nat.lt_trichotomy k l.length with h|h|h
  .rw[List.getElem?_append_left h];cases hx:l[k]? with
   |none=>simp
   |some b=>simp
  .subst h;simp
  .rw[List.getElem?_eq_none cq,List.getElem?_eq_none aa];simp
 rcases Nat.lt_trichotomy i g.L.length with h|h|h
 .obtain⟨row,a⟩:∃row,g.In[i]?=some row:=⟨_,cv aa⟩;have h1:(pL g o id up r).In[i]?=some (row++[false]):=by rw[e,List.getElem?_append_left aa,List.getElem?_map,a];rfl
  rw[wO h1,snoc,wO a];constructor
  .intro h2;exact .inl ⟨h,by rw[h2];rfl⟩
  .rintro(⟨_,h2⟩|⟨h2,_⟩)
   .cases hx:row[k]? with
    |none=>rw[hx] at h2;cases h2
    |some b=>rw[hx] at h2;simp at h2;rw[h2]
   .omega
 .have h1:(pL g o id up r).In[i]?=some (r++[false]):=by rw[e,List.getElem?_append_right aa,lm,h];simp
  rw[wO h1,snoc];constructor
  .intro h2;exact .inr ⟨h,h2⟩
  .rintro(⟨h2,_⟩|⟨_,h2⟩)
   .omega
   .exact h2
 .have h1:(pL g o id up r).In[i]?=none:=List.getElem?_eq_none (by rw[e];simp;omega);have:vf (pL g o id up r) i k=false:=by unfold vf;rw[h1];rfl
  rw[this];constructor
  .intro h2;cases h2
  .rintro(⟨h2,_⟩|⟨h2,_⟩)<;>omega
theorem Wc(w:WfG g){id:DIdent}(ho:SmOp o)(hs:fS o.Sig.S)(a:AddOk g o up)(b:pV o=some id)(hr:r.length=g.L.length)(hb:∀k,k<g.L.length->(r[k]?=some true↔behind g up k)):WfG (pL g o id up r):=by
 have nL:=w.nL;have nI:=w.nI;have nU:=w.nU;have nN:=w.nN;have inr:∀k,r[k]?=some true↔behind g up k:=λk=>by
  rcases Nat.lt_or_ge k g.L.length with h|h
  .exact hb k h
  .constructor
   .intro h2;have:=(cr h2).1;omega
   .rintro(h2|⟨j,h2,h3⟩)
    .have:=(a.upb _ h2).2;omega
    .have:=w.inlt j k h3;omega
 have upAt:∀(j:Nat) (v:List Int),j<g.L.length->((pL g o id up r).Up[j]?=some v↔g.Up[j]?=some v):=λj v hj=>by show(g.Up++[up])[j]?=some v↔_;rw[List.getElem?_append_left aa]
 obtain⟨l,e1,e2⟩:=a.id;rw[b] at e1;cases e1;exact{
  nL:=by show(g.L++[o]).length<=200;have:=a.room;simp;omega
  nI:=by show(g.IDs++[id]).length=(g.L++[o]).length;simp;omega
  nU:=by show(g.Up++[up]).length=(g.L++[o]).length;simp;omega
  nN:=by show(g.In.map _++[_]).length=(g.L++[o]).length;simp;omega
  nC:=w.nC
  cards:=w.cards
  up:=λi u hu=>by
   rcases je hu with⟨_,h⟩|⟨h,rfl⟩
   .exact w.up i u h
   .refine⟨by rw[a.upl];exact pK a.check.long,λx hx=>?_⟩;have:=a.upb x hx;omega
  rows:=λi row c=>by
   show row.length=(g.L++[o]).length;rcases je c with⟨_,h⟩|⟨h,rfl⟩
   .rw[List.getElem?_map,cn] at h;obtain⟨x,hx,rfl⟩:=h;have:=w.rows i x hx;simp;omega
   .simp;omega
  inlt:=λi k h=>by
   show k<i/\i<(g.L++[o]).length;rcases(kU w hr i k).1 h with⟨h1,h2⟩|⟨h1,h2⟩
   .have:=w.inlt i k h2;simp;omega
   .have:=(cr h2).1;simp;omega
  ops:=λi p hp=>by
   rcases je hp with⟨_,h⟩|⟨h,rfl⟩
   .exact w.ops i p h
   .exact⟨ho,a.check,hs⟩
  ids:=λi p q hp hq=>by
   rcases je hp with⟨h0,h⟩|⟨h,rfl⟩
   .rcases je hq with⟨_,h'⟩|⟨h',_⟩
    .exact w.ids i p q h h'
    .omega
   .rcases je hq with⟨h',_⟩|⟨_,rfl⟩
    .omega
    .exact b
  nd:=by show(g.IDs++[id]).Nodup;rw[List.nodup_append];refine⟨w.nd,aC,λx hx y hy=>?_⟩;simp at hy;subst hy;intro e;subst e;exact jv.1 e2 hx
  one:=λi k u hu hk=>by
   rw[kU w hr];rcases je hu with⟨h0,h⟩|⟨h,rfl⟩
   .exact .inl ⟨aa,w.one i k u h hk⟩
   .exact .inr ⟨aa,(inr k).2 (.inl hk)⟩
  tr:=λi j k v hij hv hk=>by
   rw[kU w hr];rcases(kU w hr i j).1 hij with⟨h1,h2⟩|⟨h1,h2⟩
   .have:=w.inlt i j h2;exact .inl ⟨h1,w.tr i j k v h2 ((upAt j v aa).1 hv) hk⟩
   .have hj:=(cr h2).1;have d:=(upAt j v aa).1 hv;refine .inr ⟨h1,(inr k).2 ?_⟩;rcases(inr j).1 h2 with h3|⟨m,h3,h4⟩
    .exact .inr ⟨j,h3,w.one j k v d hk⟩
    .exact .inr ⟨m,h3,w.tr m j k v h4 d hk⟩
  la:=λi k hik=>by
   rcases(kU w hr i k).1 hik with⟨h1,h2⟩|⟨h1,h2⟩
   .obtain⟨u,hu,h3⟩:=w.la i k h2;refine⟨u,(upAt i u h1).2 hu,?_⟩;rcases h3 with h3|⟨j,v,h4,h5,h6⟩
    .exact .inl h3
    .have:=w.inlt i j h4;exact .inr ⟨j,v,(kU w hr i j).2 (.inl ⟨h1,h4⟩),(upAt j v aa).2 h5,h6⟩
   .refine⟨up,by show(g.Up++[up])[i]?=some up;rw[h1,<-nU];exact F8,?_⟩;rcases(inr k).1 h2 with h3|⟨j,h3,h4⟩
    .exact .inl h3
    .obtain⟨v,hv,h5⟩:=w.la j k h4;have hj:=w.inlt j k h4;rcases h5 with h5|⟨m,f,h6,h7,h8⟩
     .exact .inr ⟨j,v,(kU w hr i j).2 (.inr ⟨h1,(inr j).2 (.inl h3)⟩),(upAt j v hj.2).2 hv,h5⟩
     .have hm:=w.inlt j m h6;exact .inr ⟨m,f,(kU w hr i m).2 (.inr ⟨h1,(inr m).2 (.inr ⟨j,h3,h6⟩)⟩),(upAt m f aa).2 h7,h8⟩}
def Yr(g:D12G)(o:DOp)(r:D12G×Int):Prop:=(r.2≠0/\r.1=g)\/∃id up row,r.2=0/\AddOk g o up/\pV o=some id/\jA g up=some row/\r.1=pL g o id up row
theorem QG(w:WfG g)(ho:SmOp o)(hs:fS o.Sig.S):T (AO g o) λr=>WfG r.1/\Yr g o r:=by
 have nL:=w.nL;have nI:=w.nI;have nU:=w.nU;have nN:=w.nN;unfold AO;refine .bind ((KD w ho hs).mono λv hv=> .dec (λh=> .some ⟨w,.inl ⟨h,rfl⟩⟩) λh=>?_);have a:=hv (by simpa using h);have ul:v.2.length<=12:=by rw[a.upl];exact pK a.check.long
 obtain⟨row,b,f,i⟩:=yc w (up:=v.2) aa a.upb;obtain⟨id,c,_⟩:=a.id;rw[b,aL];refine .bind (.app cq (.bind (.app cq (.bind (.app cq ?_)))));rw[c,aL];refine .bind (.app cq (.bind (.app cq (.bind (.app cq ?_)))));refine .then (T.forE g.In [] (λx=>[x++[false]]) 1 aa (λx _=>aC) (λk d x hx hm hk hl=>?_) λd=>?_) ?_
 .have:=w.rows k x hx;unfold xr;dsimp only;rw[eA hk,ax,au,hx,aL];refine .bind (.app cq (.bind (.bind (.app cq (.bind (.app (by simp at hl⊢;omega) (.some (.some ⟨aq aa,?_⟩))))))));simp
 .unfold xr;dsimp only;rw[eF,aM]
 .have el:([]:List (List Bool))++g.In.flatMap (λx=>[x++[false]])=g.In.map (·++[false]):=by
   rw[List.nil_append];induction g.In with
   |nil=>rfl
   |cons x r ih=>simp[ih]
  rw[el];refine .bind (.bind (.app cq (.bind (.app cq (.some (.some ?_))))));have e:(⟨g.Cards,[]++g.L++[o],[]++g.IDs++[id],[]++g.Up++[v.2],g.In.map (·++[false])++[row++[false]]⟩:D12G)=pL g o id v.2 row:=rfl;exact⟨e▸Wc w ho hs a c f i,.inr ⟨id,v.2,row,rfl,a,c,b,rfl⟩⟩
theorem ye{a b:DIdent}:dt a b=true↔a.By<b.By\/(a.By=b.By/\(a.Seq<b.Seq\/(a.Seq=b.Seq/\a.Sum<b.Sum))):=by
 unfold dt;by_cases h1:a.By=b.By
 .by_cases h2:a.Seq=b.Seq
  .simp[h1,h2]
  .simp[h1,h2]
 .simp[h1]
theorem sP(a:DIdent):dt a a=false:=by
 cases h:dt a a with
 |false=>rfl
 |true=>rw[ye] at h;omega
def rN(a b:DIdent):Prop:=dt b a=false
theorem KG{a b:DIdent}(h1:rN a b)(h2:rN b c):rN a c:=by
 unfold rN at*;have n1:¬dt b a=true:=by rw[h1];simp
 have n2:¬dt c b=true:=by rw[h2];simp
 cases h:dt c a with
 |false=>rfl
 |true=>rw[ye] at n1 n2 h;omega
theorem F9{a b:DIdent}(h:dt a b=true):rN a b:=by
 unfold rN;cases h2:dt b a with
 |false=>rfl
 |true=>rw[ye] at h h2;omega
theorem Cy{x:α}{l:List α}{k:Nat}:(l.take k++[x]++l.drop k).Perm (l++[x]):=by
 have h:(l.take k++[x]++l.drop k).Perm (l.take k++(l.drop k++[x])):=by rw[List.append_assoc];exact List.Perm.append_left _ List.perm_append_comm
 rw[<-List.append_assoc,List.take_append_drop] at h;exact h
theorem kg{l:List DIdent}(hl:l.length<=1000000):T (iu l) λr=>r.Perm l/\r.Pairwise rN:=by
 unfold iu;refine .bind (T.forA l.length (λk c=>c.Perm (l.take k)/\c.Pairwise rN) aa ⟨aC,.nil⟩ (λk c hk hj=>?_) λc hj=>?_)
 .obtain⟨x,hx⟩:∃x,l[k]?=some x:=⟨_,cv hk⟩;have ha:c.length<=1000000:=by have:=hj.1.length_eq;simp at this;omega
  unfold oZ;dsimp only;rw[eA hk,ax];refine .bind (T.mono (Q:=λq:Int=>∃n:Nat,q=(n:Int)/\n<=c.length/\(∀(j:Nat) (y:DIdent),n<=j->c[j]?=some y->dt x y=true)/\∀(y:DIdent),0<n->c[n-1]?=some y->dt x y=false) (T.loop (λq=>∃n:Nat,q=(n:Int)/\n<=c.length/\∀(j:Nat) (y:DIdent),n<=j->c[j]?=some y->dt x y=true) (λq=>q.toNat) ⟨c.length,rfl,Nat.le_refl _,λj y hj hy=>by have:=(cr hy).1;omega⟩ (by unfold ah;omega) ?_) ?_)
  .rintro q ⟨n,rfl,hn,d⟩;unfold vB;dsimp only;refine .dec (λh0=>?_) λh0=> .some ⟨n,rfl,hn,d,λy hy=>aa⟩;obtain⟨y,hy⟩:∃y,c[n-1]?=some y:=⟨_,cv aa⟩;rw[au,hx,aL,F7 aa aa,au,hy,aL,pJ,aL];refine .ite (λhf=> .some ⟨n,rfl,hn,d,λh _ f=>?_⟩) λht=> .some ⟨⟨n-1,rfl,aa,λj h hj' f=>?_⟩,?_⟩
   .rw[hy] at f;cases f;simpa using hf
   .rcases Nat.lt_or_ge j n with hlt|hge
    .obtain rfl:j=n-1:=aa;rw[hy] at f;cases f;simpa using ht
    .exact d j h hge f
   .show((n-1:Nat):Int).toNat<(n:Int).toNat;omega
  .rintro q ⟨n,rfl,hn,h1,h2⟩;refine .bind (.pre aa aa (.bind (.app cq ?_)));rw[au,hx,aL];refine .bind (.app cq (.bind (.suf aa aa (.bind (.app cq (.some ⟨aq aa,?_,?_⟩))))))
   .show([]++c.take (n:Int).toNat++[x]++c.drop (n:Int).toNat).Perm _;rw[List.nil_append,Int.toNat_natCast];refine Cy.trans ?_;have e:l.take (k+1)=l.take k++[x]:=by rw[List.take_add_one,hx];rfl
    rw[e];exact List.Perm.append_right _ hj.1
   .show([]++c.take (n:Int).toNat++[x]++c.drop (n:Int).toNat).Pairwise rN;rw[List.nil_append,Int.toNat_natCast];have hp:=hj.2;rw[<-List.take_append_drop n c,List.pairwise_append] at hp;obtain⟨i,o,p⟩:=hp;have low:∀a∈c.take n,rN a x:=λa g=>by
     have hn0:0<n:=by
      cases n with
      |zero=>simp at g
      |succ m=>omega
     obtain⟨y,hy⟩:∃y,c[n-1]?=some y:=⟨_,cv aa⟩;have hxy:rN y x:=h2 y hn0 hy;obtain⟨j,hj'⟩:=List.getElem?_of_mem g;rw[List.getElem?_take] at hj';split at hj'
     .rename_i s;rcases Nat.lt_or_ge j (n-1) with hlt|hge
      .have hay:rN a y:=by have:=List.pairwise_iff_getElem.1 hj.2 j (n-1) aa aa hlt;have ea:=(cr hj').2;have ey:=(cr hy).2;rw[ea,ey] at this;exact this
       exact KG hay hxy
      .obtain rfl:j=n-1:=aa;rw[hy] at hj';cases hj';exact hxy
     .cases hj'
    have high:∀b∈c.drop n,rN x b:=λb hb=>by obtain⟨j,hj'⟩:=List.getElem?_of_mem hb;rw[List.getElem?_drop] at hj';exact F9 (h1 (n+j) b aa hj')
    rw[List.append_assoc,List.pairwise_append];refine⟨i,?_,λa g b hb=>?_⟩
    .rw[List.singleton_append,List.pairwise_cons];exact⟨high,o⟩
    .rcases List.mem_append.1 hb with hb|hb
     .simp at hb;subst hb;exact low a g
     .exact p a g b hb
 .unfold oZ;dsimp only;rw[eF,aM];refine .some (.some ?_);rw[List.take_length] at hj;exact hj
theorem Cz(w:WfG g):T (xt g) λr=>r.Perm g.IDs/\r.Pairwise rN:= .bind ((kg (by have:=w.nI;have:=w.nL;omega)).mono λ_ h=> .some h)
def uX(g:D12G)(ids:List DIdent)(k:Nat):Prop:=∃x∈ids,∃n,bu x g.IDs=some n/\vf g n k=true
theorem EB(w:WfG g){ids:List DIdent}(hl:ids.length<=1000):T (r9 g ids) λr=>r.Nodup/\(∀x,x∈r↔∃k,g.IDs[k]?=some x/\uX g ids k)/\r.Pairwise rN/\r.length<=g.L.length:=by
 have nL:=w.nL;have nI:=w.nI;unfold r9;refine .bind (T.forA g.L.length (λk f=>f.length<=k/\f.Nodup/\∀x,x∈f↔∃j,j<k/\g.IDs[j]?=some x/\uX g ids j) aa ⟨aC,aC,λx=>aC⟩ (λk f hk hj=>?_) λf hj=>?_)
 .obtain⟨y,hy⟩:∃y,g.IDs[k]?=some y:=⟨_,cv aa⟩;unfold t8;dsimp only;rw[eA hk,ax];refine .bind (T.mono (Q:=λb:Bool=>b=true↔uX g ids k) (T.forA ids.length (λm b=>b=true↔∃(j:Nat) (x:DIdent) (n:Nat),j<m/\ids[j]?=some x/\bu x g.IDs=some n/\vf g n k=true) aa aC (λm b hm hjm=>?_) λb hjm=>?_) λb hb=>?_)
  .obtain⟨x,hx⟩:∃x,ids[m]?=some x:=⟨_,cv hm⟩;unfold t7;dsimp only;rw[eA hm,ax,au,hx,aL,dC aa,aL];refine .bind (T.mono (Q:=λc:Bool=>c=true↔(b=true\/∃n,bu x g.IDs=some n/\vf g n k=true)) ?_ λc hc=> .some ⟨aq aa,?_⟩)
   .refine .ite (λhb=> .some (by simp[hb])) λhb=>?_;unfold gO;cases hkx:bu x g.IDs with
    |none=>exact .some (by simp[hb])
    |some n=>
     have hn:n<g.L.length:=by have:=(cr (gb hkx).1).1;omega
     obtain⟨row,i⟩:∃row,g.In[n]?=some row:=⟨_,cv (by rw[w.nN];exact hn)⟩;obtain⟨d,hd⟩:∃d,row[k]?=some d:=⟨_,cv (by rw[w.rows n row i];exact hk)⟩;have e:gB (n:Int) 0=(n:Int):=by unfold gB;split<;>omega
     simp only;rw[decide_eq_true (show(0:Int)<=(n:Int) by omega),ax,e,au,i,aL,au,hd,aL];refine .some ?_;have e2:vf g n k=d:=by rw[wO i,hd];rfl
     rw[hb];simp[e2]
   .show c=true↔_;rw[hc,hjm];constructor
    .rintro(⟨j,l,n,h1,h2⟩|⟨n,h1,h2⟩)
     .exact⟨j,l,n,aa,h2⟩
     .exact⟨m,x,n,aa,hx,h1,h2⟩
    .rintro⟨j,l,n,h1,h2,h3,h4⟩;rcases Nat.lt_or_ge j m with hlt|hge
     .exact .inl ⟨j,l,n,hlt,h2,h3,h4⟩
     .obtain rfl:j=m:=aa;rw[hx] at h2;cases h2;exact .inr ⟨n,h3,h4⟩
  .unfold t7;dsimp only;rw[eF,aM];refine .some ?_;show b=true↔_;rw[hjm];constructor
   .rintro⟨j,x,n,_,h2,h3,h4⟩;exact⟨x,bO h2,n,h3,h4⟩
   .rintro⟨x,hx,n,h3,h4⟩;obtain⟨j,hj'⟩:=List.getElem?_of_mem hx;exact⟨j,x,n,(cr hj').1,hj',h3,h4⟩
  .refine .ite (λhbt=>?_) λhbf=> .some ⟨aq aa,by show f.length<=k+1;have:=hj.1;omega,hj.2.1,λx=>?_⟩
   .have hin:=hb.1 hbt;rw[au,hy,aL];have hny:y∉f:=λhm=>by obtain⟨j,h1,h2,_⟩:=(hj.2.2 y).1 hm;have:=(List.getElem?_inj (show j<g.IDs.length by omega) w.nd).1 (h2.trans hy.symm);omega
    refine .bind (.app (by simp;have:=hj.1;omega) (.some ⟨aq aa,by simp;exact hj.1,?_,λx=>?_⟩))
    .show(f++[y]).Nodup;rw[List.nodup_append];exact⟨hj.2.1,aC,λa ha b hb' e=>by simp at hb';subst hb';subst e;exact hny ha⟩
    .show x∈f++[y]↔_;rw[List.mem_append,hj.2.2 x];constructor
     .rintro(⟨j,h1,h2⟩|h)
      .exact⟨j,aa,h2⟩
      .simp at h;subst h;exact⟨k,aa,hy,hin⟩
     .rintro⟨j,h1,h2,h3⟩;rcases Nat.lt_or_ge j k with hlt|hge
      .exact .inl ⟨j,hlt,h2,h3⟩
      .obtain rfl:j=k:=aa;rw[hy] at h2;cases h2;exact .inr aC
   .show x∈f↔_;rw[hj.2.2 x];constructor
    .rintro⟨j,h1,h2⟩;exact⟨j,aa,h2⟩
    .rintro⟨j,h1,h2,h3⟩;rcases Nat.lt_or_ge j k with hlt|hge
     .exact⟨j,hlt,h2,h3⟩
     .obtain rfl:j=k:=aa;rw[hb.2 h3] at hbf;cases hbf
 .unfold t8;dsimp only;rw[eF,aM];refine .some (.bind ((kg (by have:=hj.1;omega)).mono λr hr=> .some ⟨hr.1.nodup_iff.2 hj.2.1,λx=>?_,hr.2,by rw[hr.1.length_eq];exact hj.1⟩));rw[hr.1.mem_iff,hj.2.2 x];constructor
  .rintro⟨j,_,h2⟩;exact⟨j,h2⟩
  .rintro⟨j,h2,h3⟩;exact⟨j,by have:=(cr h2).1;omega,h2,h3⟩
theorem oL{l:List α}{f:α->Option Bool}(hn:l.length<=1000000)(h:∀x∈l,f x=some false):loop (λs1:Int=>(bif decide (s1<ah l) then((aS l s1).bind λa=>(f a).bind λb=>bif b then(some (.inr (.inr s1))) else(some (.inl (wI (s1+1))))) else(some (.inr (.inl ()))):Option (Int⊕(Unit⊕Int)))) 0=some (.inl ()):=by
 refine T.eq (T.forI (Q:=λv:Unit⊕Int=>v= .inl ()) l.length (λ_=>True) aa trivial (λk hk _=>?_) λ_=>?_)
 .rw[eA hk,ax,au,cv hk,aL,h _ (List.getElem_mem hk),aL,aM];exact .some ⟨aq aa,trivial⟩
 .rw[eF,aM];exact .some rfl
theorem T0{l:List Int}{may:Int->Option Bool}(hn:l.length<=1000000)(h:∀x∈l,may x=some true):sK l may=some true:=by unfold sK fq gK;rw[show loop (iY l (λz=>mS z may)) 0=some (.inl ()) from oL hn (λx hx=>by unfold mS;rw[h x hx];rfl)];rfl
theorem Ll{l:List Nat}{may:Nat->Option Bool}(hn:l.length<=1000000)(h:∀x∈l,may x=some true):kQ l may=some true:=by unfold kQ dQ fx;rw[show loop (gF l (λz=>ja z may)) 0=some (.inl ()) from oL hn (λx hx=>by unfold ja;rw[h x hx];rfl)];rfl
theorem OJ{l:List DIdent}{may:DIdent->Option Bool}(hn:l.length<=1000000)(h:∀x∈l,may x=some true):mU l may=some true:=by unfold mU ef da;rw[show loop (dj l (λz=>jE z may)) 0=some (.inl ()) from oL hn (λx hx=>by unfold jE;rw[h x hx];rfl)];rfl
theorem IX{l:List DNode}{may:DNode->Option Bool}(hn:l.length<=1000000)(h:∀x∈l,may x=some true):js l may=some true:=by unfold js eQ f9;rw[show loop (iA l (λz=>kR z may)) 0=some (.inl ()) from oL hn (λx hx=>by unfold kR;rw[h x hx];rfl)];rfl
theorem MT{l:List DBox}{may:DBox->Option Bool}(hn:l.length<=1000000)(h:∀x∈l,may x=some true):oz l may=some true:=by unfold oz fw gL;rw[show loop (iZ l (λz=>mR z may)) 0=some (.inl ()) from oL hn (λx hx=>by unfold mR;rw[h x hx];rfl)];rfl
theorem CY{l:List DSealed}{may:DSealed->Option Bool}(hn:l.length<=1000000)(h:∀x∈l,may x=some true):gz l may=some true:=by unfold gz dR fy;rw[show loop (gG l (λz=>jb z may)) 0=some (.inl ()) from oL hn (λx hx=>by unfold jb;rw[h x hx];rfl)];rfl
structure BareF (o:DOp):Prop where
 dev:o.Device≠0->o.Kind=2\/o.Kind=3\/o.Kind=11\/o.Kind=13
 old:o.Old≠0->o.Kind=13
 mem:o.Member≠0->o.Kind=3\/o.Kind=5
 role:o.Role≠0->o.Kind=2\/o.Kind=5
 path:0<ah o.Path->eM o.Kind=some true
 ep:o.Epoch≠⟨0,0,0⟩->o.Kind=6
 n:o.N≠0->o.Kind=6
 refs:0<ah o.Refs->o.Kind=6
 body:0<ah o.Body->o.Kind=6\/o.Kind=7
 of_:o.Of≠⟨0,0,0⟩->o.Kind=7\/o.Kind=8\/o.Kind=12\/o.Kind=10\/o.Kind=11\/o.Kind=13
 gu:0<ah o.Guards->o.Kind=9
 wait:o.Wait≠0->o.Kind=9
 pub:o.Pub≠0->o.Kind=9
 need:o.Need≠0->o.Kind=9\/o.Kind=1
 box:0<ah o.Boxes->o.Kind=9\/o.Kind=10\/o.Kind=11
 hist:ah o.Hist≠0->o.Kind=2\/o.Kind=13
theorem ZD(h:Mr o=true):BareF o:=by
 have h:mz o=some true:=by rw[Cu,h]
 unfold mz at h;obtain⟨m,e1,h⟩:=bS h;obtain⟨u,e3,h⟩:=bS h;rcases bC h with⟨b3,h⟩|⟨b3,h⟩;· cases h
 obtain⟨w,e6,h⟩:=bS h;rcases bC h with⟨k,h⟩|⟨k,h⟩;· cases h
 obtain⟨x,e9,h⟩:=bS h;rcases bC h with⟨l,h⟩|⟨l,h⟩;· cases h
 obtain⟨n,a,h⟩:=bS h;rcases bC h with⟨c,h⟩|⟨c,h⟩;· cases h
 obtain⟨p,d,h⟩:=bS h;rcases bC h with⟨e,h⟩|⟨e,h⟩;· cases h
 obtain⟨q,b,h⟩:=bS h;rcases bC h with⟨f,h⟩|⟨f,h⟩;· cases h
 obtain⟨r,g,h⟩:=bS h;rcases bC h with⟨i,h⟩|⟨i,h⟩;· cases h
 obtain⟨s,j,h⟩:=bS h;obtain rfl:=bn h;subst b3 k l c e f i;refine⟨λhd=>?_,λhd=>?_,λhd=>?_,λhd=>?_,λhd=>?_,λhd=>?_,λhd=>?_,λhd=>?_,λhd=>?_,λhd=>?_,λhd=>?_,λhd=>?_,λhd=>?_,λhd=>?_,λhd=>?_,λhd=>?_⟩
 .refine Classical.byContradiction λhc=>?_;simp only[not_or] at hc;simp[hd,hc] at e3
 .refine Classical.byContradiction λhc=>?_;try simp only[not_or] at hc
  simp[hd,hc] at e6
 .refine Classical.byContradiction λhc=>?_;try simp only[not_or] at hc
  simp[hd,hc] at e6
 .refine Classical.byContradiction λhc=>?_;try simp only[not_or] at hc
  simp[hd,hc] at e6
 .rw[decide_eq_true hd,ax] at e9;obtain⟨v,t,e9⟩:=bS e9;cases v
  .cases e9
  .exact t
 .refine Classical.byContradiction λhc=>?_;try simp only[not_or] at hc
  simp[hd,hc] at a
 .refine Classical.byContradiction λhc=>?_;try simp only[not_or] at hc
  simp[hd,hc] at a
 .refine Classical.byContradiction λhc=>?_;try simp only[not_or] at hc
  simp[hd,hc] at a
 .refine Classical.byContradiction λhc=>?_;try simp only[not_or] at hc
  simp[hd,hc] at d
 .refine Classical.byContradiction λhc=>?_;simp only[not_or] at hc;have ej:m=false:=by simp[hc] at e1;exact e1
  subst ej;revert d;cases decide (0<ah o.Body)<;>cases decide (o.Kind≠6)<;>cases decide (o.Kind≠7)<;>simp[hd]
 .refine Classical.byContradiction λhc=>?_;try simp only[not_or] at hc
  simp[hd,hc] at b
 .refine Classical.byContradiction λhc=>?_;try simp only[not_or] at hc
  simp[hd,hc] at b
 .refine Classical.byContradiction λhc=>?_;try simp only[not_or] at hc
  simp[hd,hc] at b
 .refine Classical.byContradiction λhc=>?_;try simp only[not_or] at hc
  simp[hd,hc] at g
 .refine Classical.byContradiction λhc=>?_;try simp only[not_or] at hc
  simp[hd,hc] at g
 .refine Classical.byContradiction λhc=>?_;try simp only[not_or] at hc
  simp[hd,hc] at j
theorem MU{kk:Nat}:∀{l:List (Nat×Bool)},(∀q∈l,q.2=true->q.1&&&kk=q.1)->La l&&&kk=La l
 |[],_=>by simp[La]
 |q::r,h=>by
  unfold La;rw[Nat.and_or_distrib_right,MU (l:=r) λx hx=>h x (by simp[hx])];cases hq:q.2 with
  |true=>rw[ax,h q aC hq]
  |false=>rw[aM,Nat.zero_and]
theorem IY{a b:Nat}(ha:a<1048576)(hb:b<1048576)(h:a&&&b=a):wH (a:Int) (b:Int)=0:=by
 unfold wH;have e:BitVec.ofInt IntKind.i64.bits (a:Int)&&&BitVec.ofInt IntKind.i64.bits (b:Int)=BitVec.ofInt IntKind.i64.bits (a:Int):=by apply BitVec.eq_of_toNat_eq;rw[BitVec.toNat_and,BitVec.toNat_ofInt,BitVec.toNat_ofInt];rw[show(((a:Int)%((2^IntKind.i64.bits:Nat):Int)).toNat)=a by show((a:Int)%18446744073709551616).toNat=a;omega,show(((b:Int)%((2^IntKind.i64.bits:Nat):Int)).toNat)=b by show((b:Int)%18446744073709551616).toNat=b;omega];exact h
 have e2:BitVec.ofInt IntKind.i64.bits (a:Int)&&& ~~~BitVec.ofInt IntKind.i64.bits (b:Int)=0:=by rw[<-e];generalize BitVec.ofInt IntKind.i64.bits (a:Int)=A;generalize BitVec.ofInt IntKind.i64.bits (b:Int)=B;apply BitVec.eq_of_getLsbD_eq;intro i hi;simp;intro _ h1;simp[h1]
 rw[e2];rfl
theorem ez{n a b:Int}(h:a<=n/\n<=b):xj n a b=true:=by unfold xj;rw[decide_eq_true h.1,decide_eq_true h.2];rfl
theorem kW{i:DIdent}(h:l7 i=true):Rz i=true:=by have h:=of_decide_eq_true h;unfold Rz WV;rw[ez ⟨h.1,h.2.1⟩,ez ⟨h.2.2.1,h.2.2.2.1⟩,decide_eq_true (show(i.Sum:Int)<((2305843009213693951:Nat):Int) by have:=h.2.2.2.2;omega)];rfl
theorem GC(h:Cr n=true):Z5 n=true:=by have h:=of_decide_eq_true h;unfold Z5;rw[decide_eq_true (show((1:Nat):Int)<=(n:Int) by omega),decide_eq_true (show(n:Int)<((2305843009213693951:Nat):Int) by omega)];rfl
theorem Vl{a:Bool}{x:Option Bool}:((bif a then x else some false)=some true)↔(a=true/\x=some true):=by cases a<;>simp
structure NumF (o:DOp):Prop where
 by_:1<=o.By/\o.By<=12
 seq:1<=o.Seq/\o.Seq<=2147483647
 at_:0<=o.At/\o.At<=2147483647
 k1:o.Kind=1->0<=o.Need/\o.Need<=20
 k2:o.Kind=2->(1<=o.Device/\o.Device<=12)/\1<=o.Role/\o.Role<=3
 k3:o.Kind=3->((1<=o.Device/\o.Device<=12)/\o.Member=0)\/(o.Device=0/\1<=o.Member/\o.Member<=8)
 k5:o.Kind=5->(1<=o.Member/\o.Member<=8)/\1<=o.Role/\o.Role<=3
 k6:o.Kind=6->l7 o.Epoch=true/\0<=o.N/\o.N<=2147483647
 k9:o.Kind=9->(1<=o.Need/\o.Need<=ah o.Guards)/\(0<=o.Wait/\o.Wait<=2147483647)/\Cr o.Pub=true
 k11:o.Kind=11->l7 o.Of=true/\1<=o.Device/\o.Device<=12
 k13:o.Kind=13->l7 o.Of=true/\(1<=o.Device/\o.Device<=12)/\1<=o.Old/\o.Old<=12
 kr:o.Kind=7\/o.Kind=8\/o.Kind=10\/o.Kind=12->l7 o.Of=true
theorem T1(h:gU o=true):NumF o:=by
 have h:ed o=some true:=by rw[jF,h]
 unfold ed at h;obtain⟨a,e3,h⟩:=bS h;rcases bC h with⟨b3,h⟩|⟨b3,h⟩;· cases h
 subst b3;rw[gT,gT,gT,aL,aL,aL] at e3;simp only[gT,mY,show ir o.Pub=some (Cr o.Pub) from kS o.Pub,aL] at h;have e1:1<=o.By/\o.By<=12:=Classical.byContradiction λhc=>by simp[hc] at e3
 have e2:1<=o.Seq/\o.Seq<=2147483647:=Classical.byContradiction λhc=>by simp[hc,e1] at e3
 have e4:0<=o.At/\o.At<=2147483647:=Classical.byContradiction λhc=>by simp[hc,e1,e2] at e3
 refine⟨e1,e2,e4,λhk=>?_,λhk=>?_,λhk=>?_,λhk=>?_,λhk=>?_,λhk=>?_,λhk=>?_,λhk=>?_,λhk=>?_⟩
 .simpa[hk,Vl] using h
 .simpa[hk,Vl] using h
 .simp[hk] at h;by_cases h1:1<=o.Device<;>by_cases h2:o.Device<=12<;>by_cases h3:o.Member=0<;>by_cases h4:o.Device=0<;>simp[h1,h2,h3,h4] at h⊢<;>first|omega|exact h
 .simpa[hk,Vl] using h
 .simpa[hk,Vl] using h
 .simpa[hk,Vl] using h
 .simpa[hk,Vl] using h
 .simpa[hk,Vl] using h
 .rcases hk with hk|hk|hk|hk<;>simpa[hk,Vl] using h
def pT(K:Int):Nat:=(nG.getD K.toNat 0).toNat
theorem vj:pT 1=2064:=a9
theorem zR:pT 2=32793:=a9
theorem zS:pT 3=21:=a9
theorem yu:pT 4=16:=a9
theorem zT:pT 5=12:=a9
theorem zU:pT 6=480:=a9
theorem zt:pT 7=640:=a9
theorem zu:pT 8=512:=a9
theorem Aw:pT 9=31744:=a9
theorem ki:pT 10=8704:=a9
theorem kC:pT 11=8705:=a9
theorem km:pT 12=512:=a9
theorem kX:pT 13=33299:=a9
theorem ic(h:1<=K/\K<=13):K=1\/K=2\/K=3\/K=4\/K=5\/K=6\/K=7\/K=8\/K=9\/K=10\/K=11\/K=12\/K=13:=aa
theorem RK(h:eM K=some true):K=1\/K=2\/K=3\/K=4\/K=13:=by refine Classical.byContradiction λhc=>?_;simp only[not_or] at hc;simp[eM,hc] at h
theorem W9(b:BareF o):∀q∈rU o,q.2=true->q.1&&&pT o.Kind=q.1:=by
 intro q hq hb;simp only[rU,List.mem_cons,List.not_mem_nil,or_false] at hq;rcases hq with rfl|rfl|rfl|rfl|rfl|rfl|rfl|rfl|rfl|rfl|rfl|rfl|rfl|rfl|rfl|rfl
 .rcases b.dev (of_decide_eq_true hb) with hk|hk|hk|hk<;>simp[hk,vj,zR,zS,yu,zT,zU,zt,zu,Aw,ki,kC,km,kX]
 .have hk:=b.old (of_decide_eq_true hb);simp[hk,vj,zR,zS,yu,zT,zU,zt,zu,Aw,ki,kC,km,kX]
 .rcases b.mem (of_decide_eq_true hb) with hk|hk<;>simp[hk,vj,zR,zS,yu,zT,zU,zt,zu,Aw,ki,kC,km,kX]
 .rcases b.role (of_decide_eq_true hb) with hk|hk<;>simp[hk,vj,zR,zS,yu,zT,zU,zt,zu,Aw,ki,kC,km,kX]
 .rcases RK (b.path (of_decide_eq_true hb)) with hk|hk|hk|hk|hk<;>simp[hk,vj,zR,zS,yu,zT,zU,zt,zu,Aw,ki,kC,km,kX]
 .have hk:=b.ep (λe=>by rw[decide_eq_true e] at hb;cases hb);simp[hk,vj,zR,zS,yu,zT,zU,zt,zu,Aw,ki,kC,km,kX]
 .have hk:=b.n (of_decide_eq_true hb);simp[hk,vj,zR,zS,yu,zT,zU,zt,zu,Aw,ki,kC,km,kX]
 .rcases b.body (of_decide_eq_true hb) with hk|hk<;>simp[hk,vj,zR,zS,yu,zT,zU,zt,zu,Aw,ki,kC,km,kX]
 .have hk:=b.refs (of_decide_eq_true hb);simp[hk,vj,zR,zS,yu,zT,zU,zt,zu,Aw,ki,kC,km,kX]
 .rcases b.of_ (λe=>by rw[decide_eq_true e] at hb;cases hb) with hk|hk|hk|hk|hk|hk<;>simp[hk,vj,zR,zS,yu,zT,zU,zt,zu,Aw,ki,kC,km,kX]
 .have hk:=b.gu (of_decide_eq_true hb);simp[hk,vj,zR,zS,yu,zT,zU,zt,zu,Aw,ki,kC,km,kX]
 .rcases b.need (of_decide_eq_true hb) with hk|hk<;>simp[hk,vj,zR,zS,yu,zT,zU,zt,zu,Aw,ki,kC,km,kX]
 .have hk:=b.wait (of_decide_eq_true hb);simp[hk,vj,zR,zS,yu,zT,zU,zt,zu,Aw,ki,kC,km,kX]
 .rcases b.box (of_decide_eq_true hb) with hk|hk|hk<;>simp[hk,vj,zR,zS,yu,zT,zU,zt,zu,Aw,ki,kC,km,kX]
 .have hk:=b.pub (by have:=of_decide_eq_true hb;omega);simp[hk,vj,zR,zS,yu,zT,zU,zt,zu,Aw,ki,kC,km,kX]
 .rcases b.hist (by have:=of_decide_eq_true hb;omega) with hk|hk<;>simp[hk,vj,zR,zS,yu,zT,zU,zt,zu,Aw,ki,kC,km,kX]
theorem ZE(f:NumF o)(a:1<=o.Kind/\o.Kind<=13):∀q∈OC o,pT o.Kind&&&q.1≠0->q.2=true:=by
 intro q hq hne;simp only[OC,List.mem_cons,List.not_mem_nil,or_false] at hq;rcases hq with rfl|rfl|rfl|rfl|rfl|rfl|rfl|rfl|rfl|rfl
 .rcases ic a with hk|hk|hk|hk|hk|hk|hk|hk|hk|hk|hk|hk|hk
  .simp[hk,vj] at hne
  .show xj o.Device (GH o) 12=true;rw[show GH o=1 by unfold GH;rw[hk];rfl];exact ez (f.k2 hk).1
  .show xj o.Device (GH o) 12=true;rw[show GH o=0 by unfold GH;rw[hk];rfl];have:=f.k3 hk;exact ez aa
  .simp[hk,yu] at hne
  .simp[hk,zT] at hne
  .simp[hk,zU] at hne
  .simp[hk,zt] at hne
  .simp[hk,zu] at hne
  .simp[hk,Aw] at hne
  .simp[hk,ki] at hne
  .show xj o.Device (GH o) 12=true;rw[show GH o=1 by unfold GH;rw[hk];rfl];exact ez (f.k11 hk).2
  .simp[hk,km] at hne
  .show xj o.Device (GH o) 12=true;rw[show GH o=1 by unfold GH;rw[hk];rfl];exact ez (f.k13 hk).2.1
 .rcases ic a with hk|hk|hk|hk|hk|hk|hk|hk|hk|hk|hk|hk|hk
  .simp[hk,vj] at hne
  .simp[hk,zR] at hne
  .simp[hk,zS] at hne
  .simp[hk,yu] at hne
  .simp[hk,zT] at hne
  .simp[hk,zU] at hne
  .simp[hk,zt] at hne
  .simp[hk,zu] at hne
  .simp[hk,Aw] at hne
  .simp[hk,ki] at hne
  .simp[hk,kC] at hne
  .simp[hk,km] at hne
  .exact ez (f.k13 hk).2.2
 .rcases ic a with hk|hk|hk|hk|hk|hk|hk|hk|hk|hk|hk|hk|hk
  .simp[hk,vj] at hne
  .simp[hk,zR] at hne
  .show GB o=true;unfold GB;rw[hk];rcases f.k3 hk with⟨h1,h2⟩|⟨h1,h2⟩
   .show(_||_)=true;rw[decide_eq_true h2,decide_eq_true (show o.Device≠0 by omega)];simp
   .show(_||_)=true;rw[ez h2,decide_eq_true h1];rfl
  .simp[hk,yu] at hne
  .show GB o=true;unfold GB;rw[hk];exact ez (f.k5 hk).1
  .simp[hk,zU] at hne
  .simp[hk,zt] at hne
  .simp[hk,zu] at hne
  .simp[hk,Aw] at hne
  .simp[hk,ki] at hne
  .simp[hk,kC] at hne
  .simp[hk,km] at hne
  .simp[hk,kX] at hne
 .rcases ic a with hk|hk|hk|hk|hk|hk|hk|hk|hk|hk|hk|hk|hk
  .simp[hk,vj] at hne
  .exact ez (f.k2 hk).2
  .simp[hk,zS] at hne
  .simp[hk,yu] at hne
  .exact ez (f.k5 hk).2
  .simp[hk,zU] at hne
  .simp[hk,zt] at hne
  .simp[hk,zu] at hne
  .simp[hk,Aw] at hne
  .simp[hk,ki] at hne
  .simp[hk,kC] at hne
  .simp[hk,km] at hne
  .simp[hk,kX] at hne
 .rcases ic a with hk|hk|hk|hk|hk|hk|hk|hk|hk|hk|hk|hk|hk
  .simp[hk,vj] at hne
  .simp[hk,zR] at hne
  .simp[hk,zS] at hne
  .simp[hk,yu] at hne
  .simp[hk,zT] at hne
  .exact ez (f.k6 hk).2
  .simp[hk,zt] at hne
  .simp[hk,zu] at hne
  .simp[hk,Aw] at hne
  .simp[hk,ki] at hne
  .simp[hk,kC] at hne
  .simp[hk,km] at hne
  .simp[hk,kX] at hne
 .rcases ic a with hk|hk|hk|hk|hk|hk|hk|hk|hk|hk|hk|hk|hk
  .simp[hk,vj] at hne
  .simp[hk,zR] at hne
  .simp[hk,zS] at hne
  .simp[hk,yu] at hne
  .simp[hk,zT] at hne
  .simp[hk,zU] at hne
  .simp[hk,zt] at hne
  .simp[hk,zu] at hne
  .exact ez (f.k9 hk).2.1
  .simp[hk,ki] at hne
  .simp[hk,kC] at hne
  .simp[hk,km] at hne
  .simp[hk,kX] at hne
 .rcases ic a with hk|hk|hk|hk|hk|hk|hk|hk|hk|hk|hk|hk|hk
  .show xj o.Need (Sk o) (Sl o)=true;rw[show Sk o=0 by unfold Sk;rw[hk];rfl,show Sl o=20 by unfold Sl;rw[hk];rfl];exact ez (f.k1 hk)
  .simp[hk,zR] at hne
  .simp[hk,zS] at hne
  .simp[hk,yu] at hne
  .simp[hk,zT] at hne
  .simp[hk,zU] at hne
  .simp[hk,zt] at hne
  .simp[hk,zu] at hne
  .show xj o.Need (Sk o) (Sl o)=true;rw[show Sk o=1 by unfold Sk;rw[hk];rfl,show Sl o=ah o.Guards by unfold Sl;rw[hk];rfl];exact ez (f.k9 hk).1
  .simp[hk,ki] at hne
  .simp[hk,kC] at hne
  .simp[hk,km] at hne
  .simp[hk,kX] at hne
 .rcases ic a with hk|hk|hk|hk|hk|hk|hk|hk|hk|hk|hk|hk|hk
  .simp[hk,vj] at hne
  .simp[hk,zR] at hne
  .simp[hk,zS] at hne
  .simp[hk,yu] at hne
  .simp[hk,zT] at hne
  .exact kW (f.k6 hk).1
  .simp[hk,zt] at hne
  .simp[hk,zu] at hne
  .simp[hk,Aw] at hne
  .simp[hk,ki] at hne
  .simp[hk,kC] at hne
  .simp[hk,km] at hne
  .simp[hk,kX] at hne
 .rcases ic a with hk|hk|hk|hk|hk|hk|hk|hk|hk|hk|hk|hk|hk
  .simp[hk,vj] at hne
  .simp[hk,zR] at hne
  .simp[hk,zS] at hne
  .simp[hk,yu] at hne
  .simp[hk,zT] at hne
  .simp[hk,zU] at hne
  .exact kW (f.kr aa)
  .exact kW (f.kr aa)
  .simp[hk,Aw] at hne
  .exact kW (f.kr aa)
  .exact kW (f.k11 hk).1
  .exact kW (f.kr aa)
  .exact kW (f.k13 hk).1
 .rcases ic a with hk|hk|hk|hk|hk|hk|hk|hk|hk|hk|hk|hk|hk
  .simp[hk,vj] at hne
  .simp[hk,zR] at hne
  .simp[hk,zS] at hne
  .simp[hk,yu] at hne
  .simp[hk,zT] at hne
  .simp[hk,zU] at hne
  .simp[hk,zt] at hne
  .simp[hk,zu] at hne
  .exact GC (f.k9 hk).2.2
  .simp[hk,ki] at hne
  .simp[hk,kC] at hne
  .simp[hk,km] at hne
  .simp[hk,kX] at hne
theorem IZ{b:DBox}(h:yZ b=true):wB b=some true:=by unfold yZ at h;simp only[bA] at h;obtain⟨⟨⟨h1,h2⟩,h3⟩,h4⟩:=h;have e3:WV b.Body=true:=decide_eq_true (by have:=of_decide_eq_true h3;omega);have e4:WV b.Tag=true:=decide_eq_true (by have:=of_decide_eq_true h4;omega);unfold wB;simp only[rV,GA,GC h1,GC h2,e3,e4,aL,ax]
theorem T2(sm:SmOp o)(h:Ct o=false):FX o=some false:=by
 have n2:=sm.nPath;have a:=sm.nHist;unfold Ct at h;simp only[Bool.or_eq_false_iff] at h;obtain⟨h1,h2,h3,h4⟩:=h;have h3:=of_decide_eq_false h3;have a1:js o.Path (λz=>wE z)=some true:=IX aa λx hx=>by have:=List.any_eq_false.1 h1 x hx;unfold wE;rw[decide_eq_true (by unfold ah;simp at this;omega)]
 have a2:gz o.Hist (λz=>wF z)=some true:=CY aa λx hx=>by have:=List.any_eq_false.1 h2 x hx;unfold wF;rw[decide_eq_true (by unfold ah;simp at this;omega)]
 have d1:decide (12<ah o.Past)=false:=decide_eq_false (by unfold ah;omega);have d2:decide (5<ah o.Path)=false:=decide_eq_false (by unfold ah;omega);have d3:decide (208<ah o.Body)=false:=decide_eq_false (by unfold ah;omega);have d4:decide (8<ah o.Refs)=false:=decide_eq_false (by unfold ah;omega);have d5:decide (20<ah o.Hist)=false:=decide_eq_false (by unfold ah;omega);have d6:decide (6<ah o.Guards)=false:=decide_eq_false (by unfold ah;omega);unfold FX;rw[d1,d2,d3,d4,d5,d6,a1,a2];simp only[aM,aL,Bool.not_true,ib];by_cases k7:o.Kind=7
 .rw[if_pos k7] at h4;simp only[Bool.not_eq_false'] at h4;have:=of_decide_eq_true h4;rw[decide_eq_true k7,ax,ez (by unfold ah;omega)];rfl
 rw[if_neg k7] at h4;rw[decide_eq_false k7,aM];by_cases k9:o.Kind=9
 .rw[if_pos k9] at h4;have:=of_decide_eq_false h4;rw[decide_eq_true k9,ax,decide_eq_false (show¬ah o.Boxes≠ah o.Guards by unfold ah;omega)]
 rw[if_neg k9] at h4;rw[decide_eq_false k9,aM];by_cases k10:o.Kind=10
 .rw[if_pos k10] at h4;simp only[Bool.not_eq_false'] at h4;have:=of_decide_eq_true h4;rw[decide_eq_true k10,ax,ez (by unfold ah;omega)];rfl
 rw[if_neg k10] at h4;rw[decide_eq_false k10,aM];by_cases k11:o.Kind=11
 .rw[if_pos k11] at h4;have:=of_decide_eq_false h4;rw[decide_eq_true k11,ax,decide_eq_false (show¬ah o.Boxes≠1 by unfold ah;omega)]
 rw[decide_eq_false k11,aM]
theorem Ax(x y:Int):f8 x y=some (if x<y then-1 else if y<x then 1 else 0):=by
 unfold f8 kO;by_cases h1:x<y
 .simp[h1]
 .by_cases h2:y<x<;>simp[h1,h2]
theorem MV(x y:Nat):fQ x y=some (if x<y then-1 else if y<x then 1 else 0):=by
 unfold fQ g9;by_cases h1:x<y
 .simp[h1]
 .by_cases h2:y<x<;>simp[h1,h2]
theorem CZ{l:List Int}{k:Nat}(hl:l.length<=3)(hk:l[k]?=some (-1))(h:∀j,j<k->l[j]?=some 0):iy l=some (-1):=by
 unfold iy;refine T.eq (.bind ((T.search l (λy=>decide (y≠0)) (λ_ y=>y) aa (λk x hx hk=>?_) ?_).mono ?_))
 .unfold fm;rw[eA hk,ax,au,hx,aq aa,aL];cases decide (x≠0)<;>rfl
 .unfold fm;rw[eF,aM]
 .rintro r (⟨rfl,h0⟩|⟨k',x,hx,hp,rfl,h0⟩)
  .have:=h0 (-1) (bO hk);simp at this
  .refine .some ?_;rcases Nat.lt_trichotomy k' k with hlt|rfl|hgt
   .rw[h k' hlt] at hx;cases hx;simp at hp
   .rw[hk] at hx;cases hx;rfl
   .have:=h0 k (-1) hgt hk;simp at this
theorem MW{a b:DIdent}(h:dt a b=true):pE a b=some true:=by
 unfold pE;rw[Ax,Ax,MV];simp only[aL];unfold dt at h;by_cases h1:a.By=b.By
 .rw[if_neg (by simp[h1])] at h;by_cases h2:a.Seq=b.Seq
  .rw[if_neg (by simp[h2])] at h;have h3:=of_decide_eq_true h;rw[CZ (k:=2) aC (by simp[h3]) (λj hj=>by
    rcases Nat.lt_or_ge j 1 with hj|hj
    .obtain rfl:j=0:=aa;simp[h1]
    .obtain rfl:j=1:=aa;simp[h2])]
   rfl
  .rw[if_pos h2] at h;have h3:=of_decide_eq_true h;rw[CZ (k:=1) aC (by simp[h3]) (λj hj=>by obtain rfl:j=0:=aa;simp[h1])]
   rfl
 .rw[if_pos h1] at h;have h3:=of_decide_eq_true h;rw[CZ (k:=0) aC (by simp[h3]) (λj hj=>absurd hj (Nat.not_lt_zero _))];rfl
theorem RL(h:CheckOk o)(sm:SmOp o):ChkOk o (pT o.Kind):=by
 have n1:=sm.nPast;have n2:=sm.nPath;have r:=sm.nRefs;have s:=sm.nGuards;have t:=sm.nHist;have u:=sm.nBoxes;have c:=h.kind;have kb:pT o.Kind<1048576:=by rcases ic c with hk|hk|hk|hk|hk|hk|hk|hk|hk|hk|hk|hk|hk<;>simp[hk,vj,zR,zS,yu,zT,zU,zt,zu,Aw,ki,kC,km,kX]
 have b:=ZD h.bare;have f:=T1 h.numbers;have it:=h.items;unfold yb at it;simp only[bA,List.all_eq_true] at it;obtain⟨g,t2,i,j,l,p⟩:=it;have d:=MU (W9 b);exact{
  lo:=decide_eq_false aa
  hi:=decide_eq_false aa
  kind:=by rcases ic c with hk|hk|hk|hk|hk|hk|hk|hk|hk|hk|hk|hk|hk<;>(rw[hk];decide)
  kb:=kb
  bits:=IY (by have:=Nat.and_le_right (n:=La (rU o)) (m:=pT o.Kind);omega) kb d
  rg:={
   by_:=ez f.by_
   seq:=ez f.seq
   at_:=ez f.at_
   ents:=ZE f c
   guards:=T0 aa λx hx=>by unfold uR;rw[ib,ez (of_decide_eq_true (g x hx))];rfl
   refs:=Ll aa λx hx=>by rw[GA];exact congrArg some (decide_eq_true (by have:=of_decide_eq_true (t2 x hx);omega))
   past:=OJ aa λx hx=>by rw[pS,kW (i x hx)]
   path:=IX aa λx hx=>by have h1:=j x hx;have v:=(sm.path x hx).n;unfold uP;rw[rV,GC h1.1,MT aa λy hy=>IZ (h1.2 y hy)];rfl
   boxes:=MT aa λx hx=>IZ (p x hx)
   hist:=CY aa λx hx=>by unfold uQ;rw[pS,kW (l x hx)];rfl}
  long:=T2 sm h.long
  nPast:=aa
  nGuards:=aa
  past:=λk a q ha hb=>MW (h.past k a q ha hb)
  guards:=h.guards
  create:=decide_eq_decide.2 (by
   have:=h.create;unfold ah;rw[<-this];constructor
   .intro e;exact List.eq_nil_of_length_eq_zero aa
   .intro e;rw[e];rfl)}
theorem Lt{l:List Int}{k:Nat}{v:Int}(hl:l.length<=3)(hv:v≠0)(hk:l[k]?=some v)(h:∀j,j<k->l[j]?=some 0):iy l=some v:=by
 unfold iy;refine T.eq (.bind ((T.search l (λy=>decide (y≠0)) (λ_ y=>y) aa (λk x hx hk=>?_) ?_).mono ?_))
 .unfold fm;rw[eA hk,ax,au,hx,aq aa,aL];cases decide (x≠0)<;>rfl
 .unfold fm;rw[eF,aM]
 .rintro r (⟨rfl,h0⟩|⟨k',x,hx,hp,rfl,h0⟩)
  .have:=h0 v (bO hk);simp[hv] at this
  .refine .some ?_;rcases Nat.lt_trichotomy k' k with hlt|rfl|hgt
   .rw[h k' hlt] at hx;cases hx;simp at hp
   .rw[hk] at hx;cases hx;rfl
   .have:=h0 k v hgt hk;simp[hv] at this
theorem Uj:iy [0,0,0]=some 0:=by
 unfold iy;refine T.eq (.bind ((T.search [0,0,0] (λy=>decide (y≠0)) (λ_ y=>y) a9 (λk x hx hk=>?_) ?_).mono ?_))
 .unfold fm;rw[eA hk,ax,au,hx,aq (by simp at hk;omega),aL];cases decide (x≠0)<;>rfl
 .unfold fm;rw[eF,aM]
 .rintro r (⟨rfl,h0⟩|⟨k',x,hx,hp,rfl,h0⟩)
  .exact .some rfl
  .have:=bO hx;simp at this;subst this;simp at hp
theorem EW(a b:DIdent):pE a b=some (dt a b):=by
 by_cases hl:dt a b=true
 .rw[hl];exact MW hl
 have hl:dt a b=false:=by simpa using hl
 rw[hl];unfold pE;rw[Ax,Ax,MV];simp only[aL];unfold dt at hl;by_cases h1:a.By=b.By
 .rw[if_neg (by simp[h1])] at hl;by_cases h2:a.Seq=b.Seq
  .rw[if_neg (by simp[h2])] at hl;have h3:=of_decide_eq_false hl;by_cases h4:b.Sum<a.Sum
   .rw[Lt (k:=2) (v:=1) aC a9 (by simp[h3,h4]) (λj hj=>by
     rcases Nat.lt_or_ge j 1 with hj|hj
     .obtain rfl:j=0:=aa;simp[h1]
     .obtain rfl:j=1:=aa;simp[h2])]
    rfl
   .rw[h1,h2,if_neg aa,if_neg aa,if_neg aa,if_neg aa,if_neg h3,if_neg h4,Uj];rfl
  .rw[if_pos h2] at hl;have h3:=of_decide_eq_false hl;rw[Lt (k:=1) (v:=1) aC a9 (by simp[h3];omega) (λj hj=>by obtain rfl:j=0:=aa;simp[h1])]
   rfl
 .rw[if_pos h1] at hl;have h3:=of_decide_eq_false hl;rw[Lt (k:=0) (v:=1) aC a9 (by simp[h3];omega) (λj hj=>absurd hj (Nat.not_lt_zero _))];rfl
def sZ(a b:DHoldName):Bool:=dt a.commit b.commit||(decide (a.commit=b.commit)&&decide (a.n<b.n))
def XJ(x:DHoldName):Prop:=0<=x.n/\x.n<=1000000
theorem R6{a b:DIdent}(h1:dt a b=true)(h2:dt b c=true):dt a c=true:=by unfold dt at*;split at h1<;>split at h2<;>(try split at h1)<;>(try split at h2)<;>(have h1:=of_decide_eq_true h1)<;>(have h2:=of_decide_eq_true h2)<;>(repeat' split)<;>first|(apply decide_eq_true;omega)|(exfalso;omega)
theorem EX{a b:DIdent}(h1:dt a b=false)(h2:dt b a=false):a=b:=by
 obtain⟨x,y,z⟩:=a;obtain⟨c,d,e⟩:=b;unfold dt at*;simp only at h1 h2;by_cases e1:x=c
 .subst e1;by_cases e2:y=d
  .subst e2;simp at h1 h2;have:z=e:=aa;rw[this]
  .rw[if_neg aC,if_pos e2] at h1;rw[if_neg aC,if_pos (Ne.symm e2)] at h2;have:=of_decide_eq_false h1;have:=of_decide_eq_false h2;omega
 .rw[if_pos e1] at h1;rw[if_pos (Ne.symm e1)] at h2;have:=of_decide_eq_false h1;have:=of_decide_eq_false h2;omega
theorem Lu{c:DHoldName}(h1:sZ a b=true)(h2:sZ b c=true):sZ a c=true:=by
 unfold sZ at*;simp only[Bool.or_eq_true,bA,decide_eq_true_eq] at*;rcases h1 with h1|⟨e1,n1⟩<;>rcases h2 with h2|⟨e2,n2⟩
 .exact .inl (R6 h1 h2)
 .exact .inl (e2▸h1)
 .exact .inl (e1▸h2)
 .exact .inr ⟨e1.trans e2,aa⟩
theorem GE(a:DHoldName):sZ a a=false:=by unfold sZ;rw[sP];simp
theorem M0(h1:sZ a b=false)(h2:sZ b a=false):a=b:=by unfold sZ at*;simp only[Bool.or_eq_false_iff,Bool.and_eq_false_iff,decide_eq_false_iff_not] at*;have e:=EX h1.1 h2.1;obtain⟨c,n⟩:=a;obtain⟨c',d⟩:=b;simp only at*;subst e;simp at h1 h2;have:n=d:=aa;rw[this]
theorem Lv(ha:XJ a)(hb:XJ b):T (wz a b) λr=>(r<0↔sZ a b=true):=by
 have a1:=ha.1;have a2:=ha.2;have b1:=hb.1;have b2:=hb.2;unfold wz;rw[EW,EW];simp only[aL];refine .ite (λh=> .some ?_) λh=> .ite (λh'=> .some ?_) λh'=> .some ?_
 .unfold sZ;rw[h];simp
 .unfold sZ;rw[h];have:a.commit≠b.commit:=λe=>by rw[e,sP] at h';cases h'
  simp[this]
 .have e:=EX h h';rw[bM aa aa];unfold sZ;rw[h,e];simp;omega
theorem M1{A B:List α}{x:α}:(A++x::B)[A.length]?=some x:=aC
theorem M2{A B:List α}{x y:α}:(A++x::B).set A.length y=A++y::B:=by simp[List.set_append]
def ON(l:List DHoldName):Prop:=l.Pairwise λa b=>sZ a b=true
theorem Uk{S R:List DHoldName}(hn:(S++x::R).length<=1000)(hs:ON S)(hd:x∉S)(hm:∀y∈S++x::R,XJ y):T (loop GD (S++x::R,(S.length:Int))) λr=>∃S',r=S'++R/\S'.length=S.length+1/\ON S'/\S'.Perm (x::S):=by
 have hl:S.length+R.length+1<=1000:=by simp at hn;omega
 refine T.loop (λs=>∃d c,s.1=d++x::(c++R)/\s.2=(d.length:Int)/\S=d++c/\∀y∈c,sZ x y=true) (λs=>s.2.toNat) ⟨S,[],rfl,rfl,aC,aC⟩ (by show((S.length:Int)).toNat<_;omega) ?_;rintro⟨l,j⟩ ⟨d,c,e1,e2,e3,e4⟩;dsimp only at e1 e2;subst e1 e2 e3;have fin:(∀y∈d,sZ y x=true)->∃S',d++x::(c++R)=S'++R/\S'.length=(d++c).length+1/\ON S'/\S'.Perm (x::(d++c)):=λh=>by
  refine⟨d++x::c,aC,by simp;omega,?_,List.perm_middle⟩;unfold ON at hs⊢;rw[List.pairwise_append] at hs⊢;refine⟨hs.1,List.pairwise_cons.2 ⟨e4,hs.2.1⟩,λa ha b hb=>?_⟩;rcases List.mem_cons.1 hb with rfl|hb
  .exact h a ha
  .exact hs.2.2 a ha b hb
 unfold GD;dsimp only;rcases List.eq_nil_or_concat d with rfl|⟨A,y,rfl⟩
 .rw[decide_eq_false aC,aM];exact .some (fin aC)
 .have hA:((A++[y]).length:Int)=((A.length+1:Nat):Int):=aC;have hAl:A.length<=1000:=by simp at hl;omega
  have ew:wI (((A.length+1:Nat):Int)-1)=(A.length:Int):=by rw[bM aa aa];omega
  rw[List.concat_eq_append] at*;rw[hA,decide_eq_true aa,ax,au,ew,au];have eq1:A++[y]++x::(c++R)=A++y::x::(c++R):=aC;have g1:(A++[y]++x::(c++R))[A.length+1]?=some x:=by simp
  have g2:(A++[y]++x::(c++R))[A.length]?=some y:=by rw[eq1];exact M1
  rw[g1,g2];simp only[aL];refine .bind ((Lv (hm x aC) (hm y aC)).mono λr hr=> .dec (λh=>?_) λh=> .some (fin λz hz=>?_))
  .have hxy:=hr.1 h;have s1:ji (A++[y]++x::(c++R)) ((A.length+1:Nat):Int) y=some (A++[y]++y::(c++R)):=by unfold ji;rw[if_pos ⟨aa,aC⟩,Int.toNat_natCast];have:=M2 (A:=A++[y]) (B:=c++R) (x:=x) (y:=y);simp at this⊢
   have s2:ji (A++[y]++y::(c++R)) (A.length:Int) x=some (A++x::(y::c++R)):=by unfold ji;rw[if_pos ⟨aa,aC⟩,Int.toNat_natCast,show A++[y]++y::(c++R)=A++y::(y::c++R) by simp,M2]
   rw[s1,aL,s2,aL];refine .some ⟨⟨A,y::c,rfl,rfl,aC,λz hz=>?_⟩,?_⟩
   .rcases List.mem_cons.1 hz with rfl|hz
    .exact hxy
    .exact e4 z hz
   .show((A.length:Int)).toNat<(((A.length+1:Nat):Int)).toNat;omega
  .have hxy:sZ x y=false:=by
    cases hb:sZ x y with
    |false=>rfl
    |true=>exact absurd (hr.2 hb) h
   have hyx:sZ y x=true:=by
    cases hb:sZ y x with
    |true=>rfl
    |false=>exact absurd (by rw[M0 hxy hb];simp) hd
   rcases List.mem_append.1 hz with hz|hz
   .have hs':=hs;unfold ON at hs';rw[List.append_assoc,List.pairwise_append] at hs';exact Lu (hs'.2.2 z hz y aC) hyx
   .simp at hz;rw[hz];exact hyx
theorem ZL{l:List DHoldName}(hn:l.length<=1000)(hd:l.Nodup)(hm:∀y∈l,XJ y):T (So l) λr=>r.Perm l/\ON r:=by
 unfold So;refine T.loop (λs=>∃S R,s.1=S++R/\ON S/\(S++R).Perm l/\((S.length:Int)=s.2\/(l=[]/\S=[]/\R=[]/\s.2=1))) (λs=>1002-s.2.toNat) ?_ (by show 1002-_<_;omega) ?_
 .cases l with
  |nil=>exact⟨[],[],rfl,.nil,.refl _,.inr ⟨rfl,rfl,rfl,rfl⟩⟩
  |cons a r=>exact⟨[a],r,rfl,List.pairwise_singleton _ _,.refl _,.inl rfl⟩
 rintro⟨l1,i⟩ ⟨S,R,e1,e2,e3,e4⟩;dsimp only at e1 e4;subst e1;have hlen:=e3.length_eq;unfold Ln;dsimp only;refine .dec (λhlt=>?_) λhge=> .some ⟨e3,?_⟩
 .unfold ah at hlt;rcases e4 with rfl|⟨rfl,rfl,rfl,rfl⟩
  rotate_left
  .simp at hlt
  cases R with
  |nil=>simp at hlen;omega
  |cons x R=>
   have hd':=e3.nodup_iff.2 hd;have hx:x∉S:=λh=>by rw[List.nodup_append] at hd';exact hd'.2.2 x h x aC rfl
   refine .bind ((Uk (by rw[hlen];exact hn) e2 hx λy hy=>hm y (e3.mem_iff.1 hy)).mono λr ⟨S',b,d,c,r4⟩=> .some ⟨⟨S',R,b,c,?_,.inl ?_⟩,?_⟩)
   .exact(List.Perm.append_right R (r4.trans (List.perm_append_singleton x S).symm)).trans (by simpa using e3)
   .show(S'.length:Int)=wI ((S.length:Int)+1);rw[bM aa aa];omega
   .show 1002-(wI ((S.length:Int)+1)).toNat<1002-((S.length:Int)).toNat;rw[bM aa aa];omega
 .unfold ah at hge;rcases e4 with rfl|⟨rfl,rfl,rfl,rfl⟩
  .have:R=[]:=List.eq_nil_of_length_eq_zero (by simp at hlen;omega);subst this;simpa using e2
  .exact .nil
theorem Ul{ks:List DHoldName}(hs:ON srt)(hp:ks.Perm srt)(hn:srt.length<=1000)(hm:∀y∈srt,XJ y):So ks=some srt:=by
 have hd:srt.Nodup:=hs.imp λ{a b} h e=>by rw[e,GE] at h;cases h
 obtain⟨r,e,p,s⟩:=ZL (l:=ks) (by rw[hp.length_eq];exact hn) (hp.nodup_iff.2 hd) λy hy=>hm y (hp.mem_iff.1 hy);rw[e];refine congrArg some ?_;refine List.Perm.eq_of_pairwise (le:=λa b=>sZ a b=true) (λa b _ _ h1 h2=>?_) s hs (p.trans hp);have:=Lu h1 h2;rw[GE] at this;cases this
section
attribute [local irreducible] Tr dz Gp
def vM(x:DTerm):List Value:=[.int .i64 x.Kind,.int .i64 x.Of.By,.int .i64 x.Of.Seq,.int .u64 (x.Of.Sum:Int),.int .i64 x.N,.int .i64 x.M]
theorem Pl(d:Nat)(i j:DTerm):bt prog (Op.equalIn (d+4) 70 (.agg (vM i).toArray) (.agg (vM j).toArray))=some (decide (i=j)):=by obtain⟨a0,a1,a2,a3⟩:=i;obtain⟨b0,b1,b2,b3⟩:=j;unfold vM;rw[xV (fs:= #[⟨ "Kind",3,0,false, "", "",0⟩,⟨ "Of",50,1,false, "", "",8⟩,⟨ "N",3,4,false, "", "",32⟩,⟨ "M",3,5,false, "", "",40⟩]) aH aH];simp only[Array.toList];rw[uJ (k:= .i64) (k':= .i64) (a:=a0) (b:=b0) a9 aH aH aH];rw[Qs (d:=d+3) (f:=⟨ "Of",50,1,false, "", "",8⟩) (fs:=[⟨ "N",3,4,false, "", "",32⟩,⟨ "M",3,5,false, "", "",40⟩]) (us:=(Pe a1).toArray) (vs:=(Pe b1).toArray) a9 aH aH (Pf d a1 b1)];rw[uJ (k:= .i64) (k':= .i64) (a:=a2) (b:=b2) a9 aH aH aH];rw[uJ (k:= .i64) (k':= .i64) (a:=a3) (b:=b3) a9 aH aH aH];simp only[DTerm.mk.injEq];by_cases h0:a0=b0<;>by_cases h1:a1=b1<;>by_cases h2:a2=b2<;>by_cases h3:a3=b3<;>simp[h0,h1,h2,h3,Op.eqFields,bz]
theorem LK(i j:DTerm){r:Bool}(h:(!decide (i=j))=r):∀p q:Operand,b8 prog .neq 70 p q (.agg (fT i)) (.agg (fT j))=some (bG r):=λp q=>by subst h;exact Cb (us:=vM i) (vs:=vM j) aH aH aH (Pl 9996 i j)
def gX(a:List DTerm)(b:List DTerm)(s2:Int):Option ((Int)⊕(Unit⊕Bool)):=
 bif decide (s2<ah a) then((aS a s2).bind λc=>(aS b s2).bind λd=>bif(!decide (c=d)) then(some (.inr (.inr false))) else(some (.inl (wI (s2+1))))) else(some (.inr (.inl ())))
def pi(a:List DTerm)(b:List DTerm):Option Bool:=
 bif decide (ah a≠ah b) then(some false) else((loop (gX a b) 0).bind λc=>ma c (λd=>some true) (λq=>some q))
theorem zx{a b r}(h:pi a b=some r):ba prog gl 6 [aE fT a,aE fT b] (bG r):=
 cy bG func6 h λK=>aF 10 (aP c0 K [])<|qf 11101 1110122 (λi=>sg [] []) (λs2=>sf [] [(5,iG s2)]) [] K (λi=>aP c0 K []) λs2 k6 k5 k7=>aF 14 (ak λd e=>ak λf g=>aw [hv 19 (fL.ixZ e),hv 20 (fL.ptZ O9 e),hv 23 (fL.ixZ g),hv 24 (fL.ptZ O9 g)]<|kV (λc=>aw [hV 25 (cV (LK d f rfl) c)]<|aP c3 k7 []) λc=>aw [hV 25 (cV (LK d f rfl) c)]<|cj k6 [])<|aA c2 k5 []
def Ab(a:D23H)(k:D23K):Option DTerm:=
 bif k.Lead then(some ⟨1,⟨0,0,0⟩,a.Device,0⟩) else(some ({k with Kind:=3,M:=0}))
theorem JF{h_ k r}(h:Ab h_ k=some r):ba prog gl 26 [.agg (fA h_),.agg (mw k)] (.agg (fT r)):=
 cy (λr=> .agg (fT r)) func26 h λK=>aF 6 (aP c0 K [])<|aP c0 K []
def qX(d:D23H)(s1:List DTerm×Int):Option ((List DTerm×Int)⊕(List DTerm)):=
 bif decide (s1.2<ah d.L) then((aS d.L s1.2).bind λa=>(Ab d a).bind λb=>(aT 48 s1.1 [b]).bind λc=>some (.inl (c,wI (s1.2+1)))) else(some (.inr s1.1))
def vN(b:D23H):Option (List DTerm):=
 (loop (qX b) ([],0)).bind λa=>some a
theorem G8{h_ r}(h:vN h_=some r):iV prog gl 8 [.agg (fA h_)] 70 r.length (r.flatMap fT):=
 gc func8 h λK=>gA 11101 1110122 (λc=>sp [] [(3,.rsl 0 0 c.length)] [ob 0 70 (c.flatMap fT)] 1) (λs1=>sp [] [(1,.ref 0 0),(3,.rsl 1 0 s1.1.length),(4,iG s1.2)] [ob 0 37 (fA h_),ob 1 70 (s1.1.flatMap fT)] 2) [hc (fL.imm [])] (vs:=[70]) (ρ:=[(0,0),(1,1)]) (kd:=[(1,.row)]) (λc=>mr c0 K (fL.imm _)) λs1 k5 e=>aF 9 (ak λf a=>ak λg d=>ak λb e16=>aw [hv 17 (cP.ixZ a),hv 18 (cP.ptZ Pa a),hf 19 (JF gl d),dg 21 fL e16]<|cj k5 [hc (el b),hc (fL.imm b)] (ρ:=[(0,0),(1,3)]) (kd:=[(1,.row)]))<|aA c1 e [hc (el s1.1),hc (fL.imm s1.1)] (ρ:=[(0,1)]) (kd:=[(0,.row)])
theorem G9{h_ r}(h:vN h_=some r):ba prog gl 8 [.agg (fA h_)] (aE fT r):=(G8 gl h).fn fL.sz (fL.len _) (fL.imm _)
def xy(b:List UInt8×List D23K)(a:List UInt8×Int):Option ((List UInt8×Int)⊕(List UInt8)):=
 bif decide (a.2<ah b.2) then((aS b.2 a.2).bind λc=>(iJ c.Of).bind λd=>(aT 1 a.1 d).bind λe=>(aS b.2 a.2).bind λf=>(cg f.N).bind λg=>(aT 1 e g).bind λh=>(aS b.2 a.2).bind λi=>(jl i.Private).bind λj=>(aT 1 h j).bind λk=>some (.inl (k,wI (a.2+1)))) else(some (.inr a.1))
def Fj(a:D23H):Option (List UInt8):=
 (cg a.Device).bind λm=>(bif decide (0<ah a.L) then((aS a.L 0).bind λb=>some b.Lead) else(some false)).bind λk=>(zW k).bind λn=>(aT 1 m n).bind λl=>(bif k then((aS a.L 0).bind λc=>(jl c.Private).bind λd=>(aT 1 l d).bind λe=>(mc a.L 1).bind λf=>some (e,f)) else(some (l,a.L))).bind λg=>(cg (ah g.2)).bind λh=>(aT 1 g.1 h).bind λi=>(loop (xy g) (i,0)).bind λj=>some j
theorem Nf{h_ r}(h:Fj h_=some r):iV prog gl 10 [.agg (fA h_)] 5 r.length (r.flatMap cY):=
 gc func10 h λK=>ak λb e2=>aw [ho 9 [iG h_.Device] [] (eZ gl e2) (lY b)]<|cN 1110 (sp [] [(1,.ref 0 0),(3,.rsl 1 0 b.length)] [ob 0 37 (fA h_),ob 1 5 (b.flatMap cY)] 2) [hc (el b),hc (rY.imm b)] (ρ:=[(0,0),(1,1)]) (kd:=[(1,.row)])<|cC 1110 (λp=>sf [] [(4,bG p)]) (λp=>ak λV e6=>ak λd e8=>aw [hf 23 (Je gl e6),eu 24 rY e8]<|cN 11111101 (so [4] [(3,.rsl 1 0 d.length),(5,aE mw h_.L),(27,bG p)] [ob 1 5 (d.flatMap cY)] 2) [hc (el d),hc (rY.imm d)] (ρ:=[(0,0),(1,2)]) (kd:=[(1,.row)])<|cC 11111101 (λe=>sk [] [(3,.rsl 0 0 e.1.length),(5,aE mw e.2)] [ob 0 5 (e.1.flatMap cY)] 1) (λe=>ak λE q=>ak λf s=>aw [hf 42 (dV gl q),eu 43 rY s]<|gA 1111111101 111111110122 (λc=>sp [] [(3,.rsl 0 0 c.length)] [ob 0 5 (c.flatMap cY)] 1) (λa=>so [] [(3,.rsl 0 0 a.1.length),(6,iG a.2)] [ob 0 5 (a.1.flatMap cY)] 1) [hc (el f),hc (rY.imm f)] (ρ:=[(0,1)]) (kd:=[(0,.row)]) (λc=>mr c0 K (rY.imm _)) λa t u=>aF 47 (ak λF g=>ak λH v=>ak λI w=>ak λJ e32=>ak λM x=>ak λN y=>ak λO i=>ak λP z=>ak λj A=>aw [hv 53 (cP.ixZ g),hv 55 (cP.fsZ aW jz 1 a9 g),hf 56 (jH gl v),eu 57 rY w,hv 61 (cP.ixZ e32),hv 63 (cP.fdZ tZ 4 e32),hf 64 (dV gl x),eu 65 rY y,hv 69 (cP.ixZ i),hv 71 (cP.fdZ tW 5 i),hf 72 (kZ gl z),eu 73 rY A]<|cj t [hc (el j),hc (rY.imm j)] (ρ:=[(0,3)]) (kd:=[(0,.row)]))<|aA c1 u [hc (el a.1),hc (rY.imm a.1)] (ρ:=[(0,0)]) (kd:=[(0,.row)])) λe k=>eH [27] (ak λQ l=>ak λR B=>ak λm C=>ak λS D=>aw [hv 31 (cP.ixZ l),hv 33 (cP.fdZ tW 5 l),hf 34 (kZ gl B),eu 35 rY C,hv 38 (cP.sufZI D)]<|aA c0 k [hc (el m),hc (rY.imm m)] (ρ:=[(0,2)]) (kd:=[(0,.row)]))<|aA c0 k [hc (el d),hc (rY.imm d)] (ρ:=[(0,1)]) (kd:=[(0,.row)])) λp n=>aF 13 (ak λU o=>aw [hv 17 (cP.ixZ o),hv 19 (cP.fdZ tO 0 o)]<|aA c0 n [hc (el b),hc (rY.imm b)] (ρ:=[(0,0),(1,1)]) (kd:=[(1,.row)]))<|aA c0 n [hc (el b),hc (rY.imm b)] (ρ:=[(0,0),(1,1)]) (kd:=[(1,.row)])
theorem Ng{h_ r}(h:Fj h_=some r):ba prog gl 10 [.agg (fA h_)] (aE cY r):=(Nf gl h).fn rY.sz (rY.len _) (rY.imm _)
def uv(d:D23H)(pub:Nat)(s1:Int):Option ((Int)⊕(Unit⊕(Nat×Bool))):=
 bif decide (s1<ah d.L) then((aS d.L s1).bind λa=>(E5 a.Private).bind λb=>bif decide ((b:Int)=(pub:Int)) then((aS d.L s1).bind λc=>some (.inr (.inr (c.Private,true)))) else(some (.inl (wI (s1+1))))) else(some (.inr (.inl ())))
def Fk(c:D23H)(pub:Nat):Option (Nat×Bool):=
 (loop (uv c pub) 0).bind λa=>ma a (λb=>some (0,false)) (λq=>some q)
theorem JG{h_ pub r}(h:Fk h_ pub=some r):ba prog gl 13 [.agg (fA h_),uG pub] (.tup [uG r.1,bG r.2]):=
 cy (λr=> .tup [uG r.1,bG r.2]) func13 h λK=>qf 1101 110122 (λc=>sg [] []) (λs1=>so [0] [(2,.ref 0 0),(6,iG s1)] [ob 0 37 (fA h_)] 1) [] K (λc=>aP c0 K []) λs1 k5 e k6=>aF 11 (ak λf a=>ak λg d=>aw [hv 17 (cP.ixZ a),hv 19 (cP.fdZ tW 5 a),hf 20 (M7 gl d)]<|aF 22 (ak λi b=>aw [hv 26 (cP.ixZ b),hv 28 (cP.fdZ tW 5 b)]<|aP c3 k6 [])<|cj k5 [])<|aA c2 e []
def Vv(device:Int)(lead:Nat):Option D23H:=
 some ⟨device,[(⟨true,⟨0,0,0⟩,0,lead⟩:D23K)]⟩
theorem Nh{device lead r}(h:Vv device lead=some r):ba prog gl 20 [iG device,uG lead] (.agg (fA r)):=
 cy (λr=> .agg (fA r)) func20 h λK=>aP c0 K [hc (cP.al [(⟨true,⟨0,0,0⟩,0,lead⟩:D23K)])]
def A3(l:List Int)(s1:List D23Act×Int):Option ((List D23Act×Int)⊕(List D23Act)):=
 (bif decide (s1.2<ah l) then(some (decide (s1.2<10))) else(some false)).bind λb=>bif b then((aS l s1.2).bind λc=>(iq c 1000000).bind λa=>(nO (wU (wI (Int.tdiv a 64)))).bind λd=>(aT 24 s1.1 [(⟨Int.tmod a 16,Int.tmod (wI (Int.tdiv a 16)) 4,d⟩:D23Act)]).bind λe=>some (.inl (e,wI (s1.2+1)))) else(some (.inr s1.1))
def vO(l:List Int):Option (List D23Act):=
 (loop (A3 l) ([],0)).bind λa=>some a
theorem JH{l r}(h:vO l=some r):iV prog gl 21 [aE cZ l] 66 r.length (r.flatMap r5):=
 gc func21 h λK=>gA 11101 1110122 (λe=>sp [] [(3,.rsl 0 0 e.length)] [ob 0 66 (e.flatMap r5)] 1) (λs1=>so [] [(3,.rsl 0 0 s1.1.length),(4,iG s1.2)] [ob 0 66 (s1.1.flatMap r5)] 1) [hc (dh.imm [])] (vs:=[66]) (ρ:=[(0,0)]) (kd:=[(0,.row)]) (λe=>mr c0 K (dh.imm _)) λs1 k5 j=>cN 111012200 (sf [] []) [hc (el s1.1),hc (dh.imm s1.1)] (ρ:=[(0,0)]) (kd:=[(0,.row)])<|cC 111012200 (λa=>sf [] [(13,bG a)]) (λa=>eH [13] (ak λk b=>ak λf e16=>ak λm g=>ak λc i=>aw [hv 18 (rZ.ixZ b),hv 19 (rZ.p1Z tZ b),hf 20 (iL gl e16),hv 29 (C8 (wI (Int.tdiv f 64))),hf 30 (vr gl g),dg 33 dh i]<|cj k5 [hc (el c),hc (dh.imm c)] (ρ:=[(0,2)]) (kd:=[(0,.row)]))<|aA c1 j [hc (el s1.1),hc (dh.imm s1.1)] (ρ:=[(0,0)]) (kd:=[(0,.row)])) λa d=>aF 9 (aA c0 d [hc (el s1.1),hc (dh.imm s1.1)] (ρ:=[(0,0)]) (kd:=[(0,.row)]))<|aA c0 d [hc (el s1.1),hc (dh.imm s1.1)] (ρ:=[(0,0)]) (kd:=[(0,.row)])
theorem JI{l r}(h:vO l=some r):ba prog gl 21 [aE cZ l] (aE r5 r):=(JH gl h).fn dh.sz (dh.len _) (dh.imm _)
def vP(a:D23K)(b:D23K):Option Bool:=
 (bif a.Lead then(some true) else(some b.Lead)).bind λd=>bif d then((bif a.Lead then(some (!b.Lead)) else(some false)).bind λe=>some e) else(bif(!decide (a.Of=b.Of)) then((oU a.Of b.Of).bind λc=>some c) else(some (decide (a.N<b.N))))
theorem Ha{a b r}(h:vP a b=some r):ba prog gl 51 [.agg (mw a),.agg (mw b)] (bG r):=
 cy bG func51 h λK=>cN 1100 (sp [] [(2,.ref 0 0),(3,.ref 1 0)] [ob 0 52 (mw a),ob 1 52 (mw b)] 2) []<|cC 1100 (λd=>sf [] [(10,bG d)]) (λd=>eH [10] (cN 110130 (sf [10] []) []<|cC 110130 (λe=>sk [] [(4,bG e)] [] 0) (λe=>aP c0 K []) λe k6=>aF 12 (aA c0 k6 [])<|aA c0 k6 [])<|kV (λf=>ak λi g=>aw [hV 22 (cV (dy a.Of b.Of rfl) f),hf 27 (oV gl g)]<|aP c0 K []) λf=>aw [hV 22 (cV (dy a.Of b.Of rfl) f)]<|aP c0 K []) λd c=>aF 6 (aA c0 c [])<|aA c0 c []
def qY(of_:DIdent)(n:Int)(a:Nat)(e:List D23K)(b:Int):Option ((Int)⊕(Int)):=
 bif decide (b<ah e) then((aS e b).bind λc=>(vP c (⟨false,of_,n,a⟩:D23K)).bind λd=>bif(!d) then(some (.inr b)) else(some (.inl (wI (b+1))))) else(some (.inr b))
def qZ(d:D23H)(of_:DIdent)(n:Int)(s1:List D23K×Int):Option ((List D23K×Int)⊕(List D23K)):=
 bif decide (s1.2<ah d.L) then((aS d.L s1.2).bind λa=>(bif(!a.Lead) then(bif decide (a.Of=of_) then(some (decide (a.N=n))) else(some false)) else(some false)).bind λb=>bif b then(some (.inl (s1.1,wI (s1.2+1)))) else((aT 48 s1.1 [a]).bind λc=>some (.inl (c,wI (s1.2+1))))) else(some (.inr s1.1))
def q6(i:D23H)(of_:DIdent)(n:Int)(a:Nat):Option D23H:=
 (loop (qZ i of_ n) ([],0)).bind λc=>(loop (qY of_ n a c) 0).bind λb=>(tq c b).bind λd=>(aT 48 ([]:List D23K) d).bind λe=>(aT 48 e [(⟨false,of_,n,a⟩:D23K)]).bind λf=>(mc c b).bind λg=>(aT 48 f g).bind λh=>some ⟨i.Device,h⟩
theorem Hb{h_ of_ n private_ r}(h:q6 h_ of_ n private_=some r):ba prog gl 23 [.agg (fA h_),.agg (aj of_),iG n,uG private_] (.agg (fA r)):=
 cy (λr=> .agg (fA r)) func23 h λK=>gA 111101 11110122 (λu=>sp [] [(4,.ref 0 0),(8,.ref 1 0),(9,.ref 2 0),(10,aE mw u)] [ob 0 37 (fA h_),ob 1 37 (bF [1] (fA Pg)),ob 2 52 (mw (⟨false,of_,n,private_⟩:D23K))] 3) (λs1=>sp [2] [(4,.ref 0 0),(5,.ref 1 0),(8,.ref 2 0),(9,.ref 3 0),(10,.rsl 4 0 s1.1.length),(11,iG s1.2)] [ob 0 37 (fA h_),ob 1 50 (aj of_),ob 2 37 (bF [1] (fA Pg)),ob 3 52 (mw (⟨false,of_,n,private_⟩:D23K)),ob 4 52 (s1.1.flatMap mw)] 5) [hc (cP.imm [])] (vs:=[52]) (ρ:=rI 5) (kd:=[(4,.row)]) (λu=>gA 1111110 111111022 (λc=>sf [] [(13,iG c)]) (λd=>sf [] [(13,iG d)]) [] (λc=>ak λv j=>ak λw k=>ak λx l=>ak λy m=>ak λo p=>aw [hv 66 (cP.preZI j),wX 67 cP k,dg 71 cP l,hv 75 (cP.sufZI m),eu 76 cP p]<|aP c0 K [hc (cP.al o)]) λd q k13=>aF 53 (ak λz e=>ak λA s=>aw [hv 56 (cP.ixZ e),hv 57 (cP.ptZ Pa e),hf 59 (Ha gl s)]<|aF 60 (aA c1 k13 [])<|cj q [])<|aA c1 k13 []) λs1 k5 B=>aF 23 (ak λf g=>aw [hv 29 (cP.ixZ g),hv 30 (cP.ptZ Pa g)]<|cN 11110122102100 (so [] [(12,.ref 5 0)] [ob 5 52 (mw f)] 6) [hc (el s1.1),hc (cP.imm s1.1)] (ρ:=rI 6) (kd:=[(4,.row)])<|cC 11110122102100 (λa=>sf [] [(45,bG a)]) (λa=>eH [45] (cj k5 [hc (el s1.1),hc (cP.imm s1.1)] (ρ:=rI 5) (kd:=[(4,.row)]))<|ak λi t=>aw [dg 49 cP t]<|cj k5 [hc (el i),hc (cP.imm i)] (ρ:=rI 4++[(4,7)]) (kd:=[(4,.row)])) λa b=>aF 33 (aw [hV 38 (dU f.Of of_ rfl)]<|aF 39 (aA c0 b [hc (el s1.1),hc (cP.imm s1.1)] (ρ:=rI 6) (kd:=[(4,.row)]))<|aA c0 b [hc (el s1.1),hc (cP.imm s1.1)] (ρ:=rI 6) (kd:=[(4,.row)]))<|aA c0 b [hc (el s1.1),hc (cP.imm s1.1)] (ρ:=rI 6) (kd:=[(4,.row)]))<|aA c1 B [hc (cP.al s1.1)] (ρ:=[(0,0),(1,2),(2,3)])
end
section
variable {K V:Type} [DecidableEq K]
theorem R7(m:FM K V)(x:K):m.get x=(bu x (m.es.map (·.1))).bind λi=>m.es[i]?.map (·.2.1):=by
 unfold FM.get;rcases fz x m.es with⟨h1,h2⟩|⟨j,e,h1,h2,h3⟩
 .rw[h1,h2];rfl
 .rw[h1,h3,aL,h2]
theorem EY(m:FM K V)(k:K)(p:V):(tt m k p).es.map (·.1)=match bu k (m.es.map (·.1)) with|some _=>m.es.map (·.1)|none=>m.es.map (·.1)++[k]:=by
 unfold tt;cases hk:bu k (m.es.map (·.1)) with
 |none=>simp
 |some j=>
  have hj:=mf hk;dsimp only;apply List.ext_getElem?;intro i;rw[List.getElem?_map,List.getElem?_map];by_cases e:i=j
  .subst e;rw[List.getElem?_map] at hj;have hl:i<m.es.length:=by
    cases hx:m.es[i]? with
    |none=>rw[hx] at hj;cases hj
    |some y=>exact(cr hx).1
   rw[List.getElem?_set_self hl,hj];rfl
  .rw[List.getElem?_set_ne (Ne.symm e)]
theorem C5{x:K}{l:List K}(h:bu x l=some i):i<l.length:=(cr (mf h)).1
theorem C6{k x:K}:∀{l:List K},bu k (l++[x])=match bu k l with|some n=>some n|none=>if k=x then some l.length else none
 |[]=>by show(if k=x then some 0 else(none:Option Nat).map _)=_;by_cases e:k=x<;>simp[e,bu]
 |y::r=>by
  rw[List.cons_append,bu,bu];by_cases e:k=y
  .rw[if_pos e,if_pos e]
  .rw[if_neg e,if_neg e,C6 (l:=r)];cases bu k r with
   |some n=>rfl
   |none=>by_cases e2:k=x<;>simp[e2]
theorem R8(m:FM K V)(k:K)(p:V)(x:K):(tt m k p).get x=if x=k then some p else m.get x:=by
 rw[R7,EY,R7];unfold tt;cases hk:bu k (m.es.map (·.1)) with
 |none=>
  dsimp only;rw[C6];by_cases e:x=k
  .subst e;rw[hk,if_pos rfl,if_pos rfl,aL,List.length_map];simp
  .rw[if_neg e,if_neg e];cases hx:bu x (m.es.map (·.1)) with
   |none=>rfl
   |some i=>have:=C5 hx;rw[List.length_map] at this;simp only[aL];rw[List.getElem?_append_left this]
 |some j=>
  dsimp only;have hj:=C5 hk;rw[List.length_map] at hj;by_cases e:x=k
  .subst e;rw[hk,if_pos rfl,aL,List.getElem?_set_self hj];rfl
  .rw[if_neg e];cases hx:bu x (m.es.map (·.1)) with
   |none=>rfl
   |some i=>
    have hij:i≠j:=λh=>by subst h;have h1:=mf hx;have h2:=mf hk;rw[h1] at h2;exact e (bn h2)
    simp only[aL];rw[List.getElem?_set_ne (Ne.symm hij)]
theorem Um{m:FM K V}(h:FmOk m)(k:K)(p:V):FmOk (tt m k p):=by
 unfold tt;cases hk:bu k (m.es.map (·.1)) with
 |none=>
  refine⟨?_,λe he=>?_⟩
  .show((m.es++[(k,p,m.clk)]).map (·.2.2)).Nodup;rw[List.map_append,List.nodup_append];refine⟨h.nd,aC,λa ha b hb=>?_⟩;obtain⟨e,he,rfl⟩:=List.mem_map.1 ha;simp at hb;have:=h.lt e he;omega
  .show e.2.2<m.clk+1;rcases List.mem_append.1 he with he|he
   .have:=h.lt e he;omega
   .simp at he;rw[he];exact Nat.lt_succ_self _
 |some j=>
  have hj:=C5 hk;rw[List.length_map] at hj;have hx:=cv hj;dsimp only;rw[hx];simp only[Option.map_some,Option.getD_some];have hm:(m.es.set j (k,p,m.es[j].2.2)).map (·.2.2)=m.es.map (·.2.2):=by
   apply List.ext_getElem?;intro i;rw[List.getElem?_map,List.getElem?_map];by_cases e:i=j
   .subst e;rw[List.getElem?_set_self hj,hx];rfl
   .rw[List.getElem?_set_ne (Ne.symm e)]
  refine⟨by show(List.map _ (m.es.set j _)).Nodup;rw[hm];exact h.nd,λe he=>?_⟩;show e.2.2<m.clk;have:e.2.2∈(m.es.set j (k,p,m.es[j].2.2)).map (·.2.2):=List.mem_map.2 ⟨e,he,rfl⟩;rw[hm] at this;obtain⟨y,hy,e2⟩:=List.mem_map.1 this;rw[<-e2];exact h.lt y hy
end
def kn(k:D23K):DHoldName:=⟨k.Of,k.N⟩
structure KOk (k:D23K):Prop where
 lead:k.Lead=false
 id:SmId k.Of
 by_:1<=k.Of.By
 n:0<=k.N/\k.N<=1000
 p:fS k.Private
structure HRel (d:Int) (m:FM DHoldName Nat) (w:D23H):Prop where
 dev:w.Device=d
 ok:FmOk m
 perm:(m.es.map (·.1)).Perm (w.L.map kn)
 srt:ON (w.L.map kn)
 get:∀k∈w.L,m.get (kn k)=some k.Private
 ld:∃p rest,w.L=⟨true,⟨0,0,0⟩,0,p⟩::rest/\fS p/\∀k∈rest,KOk k
theorem R9(d:Int)(hk:fS k):HRel d (O4 k) ⟨d,[⟨true,⟨0,0,0⟩,0,k⟩]⟩:=by
 refine⟨rfl,⟨by simp[O4],λe he=>?_⟩,.refl _,List.pairwise_singleton _ _,λx hx=>?_,k,[],rfl,hk,aC⟩
 .simp[O4] at he;subst he;exact Nat.zero_lt_one
 .simp at hx;subst hx;simp[O4,FM.get,kn]
def zv(k:D23K):Prop:=k.Lead=true/\k.Of=⟨0,0,0⟩/\k.N=0
theorem I4{x k:D23K}(hx:zv x)(hk:KOk k):sZ (kn x) (kn k)=true:=by have:=hk.by_;unfold sZ kn dt;rw[hx.2.1];simp only;rw[if_pos aa,decide_eq_true aa];rfl
theorem Sa{x k:D23K}(hx:zv x\/KOk x)(hk:KOk k):vP x k=some (sZ (kn x) (kn k)):=by
 unfold vP;rcases hx with hx|hx
 .rw[I4 hx hk,hx.1,hk.lead];rfl
 .rw[hx.lead,hk.lead,pJ];unfold sZ kn;by_cases e:x.Of=k.Of
  .rw[e,sP];simp
  .simp[e]
def p7(of_:DIdent)(n:Int)(y:D23K):Bool:= !y.Lead&&(decide (y.Of=of_)&&decide (y.N=n))
theorem Un{n:Int}(hn:w.L.length<=1000)(hk:KOk ⟨false,of_,n,p⟩)(hw:∀y∈w.L,zv y\/KOk y):T (q6 w of_ n p) λw'=>w'.Device=w.Device/\∃A B,w.L.filter (λy=> !p7 of_ n y)=A++B/\w'.L=A++⟨false,of_,n,p⟩::B/\(∀y∈A,sZ (kn y) ⟨of_,n⟩=true)/\(∀y,B.head?=some y->sZ (kn y) ⟨of_,n⟩=false):=by
 unfold q6;refine .bind ((T.forA (Q:=λr=>r=w.L.filter λy=> !p7 of_ n y) w.L.length (λk a=>a=(w.L.take k).filter λy=> !p7 of_ n y) aa rfl (λk a hk' ha=>?_) λa ha=>?_).mono λF hF=>?_)
 .subst ha;have hx:=cv hk';generalize w.L[k]=y at hx;have ht:w.L.take (k+1)=w.L.take k++[y]:=by rw[List.take_add_one,hx];rfl
  have hl:((w.L.take k).filter λy=> !p7 of_ n y).length<=1000:=Nat.le_trans (List.length_filter_le _ _) (by rw[List.length_take];omega);unfold qZ;dsimp only;rw[eA hk',ax,au,hx,aL];refine .eqb (v:=p7 of_ n y) ?_ (.ite (λhs=> .some ⟨aq aa,?_⟩) λhs=> .bind (.app cq (.some ⟨aq aa,?_⟩)))
  .unfold p7;cases y.Lead<;>cases decide (y.Of=of_)<;>rfl
  .rw[ht,List.filter_append,List.filter_cons,hs];simp
  .rw[ht,List.filter_append,List.filter_cons,hs];simp
 .subst ha;unfold qZ;dsimp only;rw[eF,aM];exact .some (by rw[List.take_length];rfl)
 subst hF;have hFl:(w.L.filter λy=> !p7 of_ n y).length<=1000:=Nat.le_trans (List.length_filter_le _ _) hn;have hFm:∀y∈w.L.filter λy=> !p7 of_ n y,zv y\/KOk y:=λy hy=>hw y (List.mem_filter.1 hy).1;generalize w.L.filter (λy=> !p7 of_ n y)=F at hFl hFm;refine .bind ((T.forI (Q:=λr:Int=>∃i:Nat,r=(i:Int)/\i<=F.length/\(∀(j:Nat) (y:D23K),j<i->F[j]?=some y->sZ (kn y) ⟨of_,n⟩=true)/\∀y,F[i]?=some y->sZ (kn y) ⟨of_,n⟩=false) F.length (λk=>∀(j:Nat) (y:D23K),j<k->F[j]?=some y->sZ (kn y) ⟨of_,n⟩=true) aa (λj y hj=>absurd hj (Nat.not_lt_zero _)) (λk hk' hj=>?_) λhj=>?_).mono λr hr=>?_)
 .have hx:=cv hk';have hm:=hFm _ (List.getElem_mem hk');generalize F[k]=y at hx hm;unfold qY;rw[eA hk',ax,au,hx,aL,Sa hm hk,aL];refine .ite (λhs=> .some ⟨k,rfl,aa,hj,λz hz=>?_⟩) λhs=> .some ⟨aq aa,λj z c hz=>?_⟩
  .rw[hx] at hz;cases hz;have:sZ (kn y) ⟨of_,n⟩=false:=by simpa[kn] using hs
   exact this
  .rcases Nat.lt_or_ge j k with hlt|hge
   .exact hj j z hlt hz
   .obtain rfl:j=k:=aa;rw[hx] at hz;cases hz;have:sZ (kn y) ⟨of_,n⟩=true:=by simpa[kn] using hs
    exact this
 .unfold qY;rw[eF,aM];exact .some ⟨F.length,rfl,Nat.le_refl _,hj,λy hy=>by simp at hy⟩
 obtain⟨i,rfl,hi,h1,h2⟩:=hr;refine .bind (.pre aa aa (.bind (.app cq (.bind (.app cq (.bind (.suf aa aa (.bind (.app cq (.some ⟨rfl,F.take i,F.drop i,(List.take_append_drop i F).symm,?_,λy hy=>?_,λy hy=>?_⟩))))))))))
 .show[]++F.take ((i:Int)).toNat++[_]++F.drop ((i:Int)).toNat=_;simp
 .obtain⟨j,hj⟩:=List.getElem?_of_mem hy;rw[List.getElem?_take] at hj;split at hj
  .rename_i b;exact h1 j y b hj
  .cases hj
 .rw[List.head?_drop] at hy;exact h2 y hy
theorem HRel.kinds{d:Int}{m:FM DHoldName Nat}{w:D23H}(h:HRel d m w):∀y∈w.L,zv y\/KOk y:=by
 obtain⟨p,rest,e,_,hr⟩:=h.ld;intro y hy;rw[e] at hy;rcases List.mem_cons.1 hy with rfl|hy
 .exact .inl ⟨rfl,rfl,rfl⟩
 .exact .inr (hr y hy)
theorem OO(h:ON l):l.Nodup:=h.imp λ{a b} h e=>by rw[e,GE] at h;cases h
theorem M3{n:Int}(hb:1<=of_.By)(hy:zv y\/KOk y):p7 of_ n y=decide (kn y=⟨of_,n⟩):=by
 unfold p7 kn;rcases hy with h|h
 .rw[h.1,h.2.1];have:¬(⟨⟨0,0,0⟩,y.N⟩:DHoldName)=⟨of_,n⟩:=λe=>by have:=congrArg (λz=>z.commit.By) e;simp at this;omega
  rw[decide_eq_false this];rfl
 .rw[h.lead];simp only[DHoldName.mk.injEq,Bool.not_false,Bool.true_and];by_cases e1:y.Of=of_<;>by_cases e2:y.N=n<;>simp[e1,e2]
theorem Lw(h:HRel d m w)(hn:w.L.length<=900){of_:DIdent}{n:Int}{p:Nat}(hk:KOk ⟨false,of_,n,p⟩):T (q6 w of_ n p) λw'=>HRel d (tt m ⟨of_,n⟩ p) w'/\w'.L.length<=w.L.length+1:=by
 have hw:=h.kinds;refine(Un aa hk hw).mono λw' ⟨hd,A,B,hF,hL,hA,hB⟩=>?_;have hb:1<=of_.By:=hk.by_;have hN:(A++B).map kn=(w.L.map kn).filter (λx=>decide (x≠⟨of_,n⟩)):=by rw[<-hF,List.filter_map];congr 1;refine List.filter_congr λy hy=>?_;rw[M3 hb (hw y hy)];simp
 have hNs:ON ((A++B).map kn):=by rw[hN];exact List.Pairwise.filter _ h.srt
 have hAB:∀y,y∈A++B->kn y≠⟨of_,n⟩/\y∈w.L:=λy hy=>by have h1:kn y∈(A++B).map kn:=List.mem_map.2 ⟨y,hy,rfl⟩;rw[hN] at h1;have h2:=(List.mem_filter.1 h1).2;rw[<-hF] at hy;exact⟨by simpa using h2,(List.mem_filter.1 hy).1⟩
 have hlen:(A++B).length<=w.L.length:=by rw[<-hF];exact List.length_filter_le _ _
 have eL:w'.L.map kn=A.map kn++⟨of_,n⟩::B.map kn:=by rw[hL,List.map_append];rfl
 have hS:ON (w'.L.map kn):=by
  rw[eL];unfold ON at hNs⊢;rw[List.map_append,List.pairwise_append] at hNs;rw[List.pairwise_append];refine⟨hNs.1,List.pairwise_cons.2 ⟨λb hb'=>?_,hNs.2.1⟩,λa ha b hb'=>?_⟩
  .cases B with
   |nil=>cases hb'
   |cons b0 B=>
    have h1:=hB b0 rfl;have h2:sZ ⟨of_,n⟩ (kn b0)=true:=by
     cases e:sZ ⟨of_,n⟩ (kn b0) with
     |true=>rfl
     |false=>exact absurd (M0 h1 e) (hAB b0 aC).1
    rw[List.map_cons] at hb' hNs;rcases List.mem_cons.1 hb' with rfl|hb'
    .exact h2
    .exact Lu h2 ((List.pairwise_cons.1 hNs.2.1).1 b hb')
  .rcases List.mem_cons.1 hb' with rfl|hb'
   .obtain⟨y,hy,rfl⟩:=List.mem_map.1 ha;exact hA y hy
   .exact hNs.2.2 a ha b hb'
 have hp:((⟨of_,n⟩:DHoldName)::(A++B).map kn).Perm (w'.L.map kn):=by rw[eL,List.map_append];exact List.perm_middle.symm
 refine⟨⟨hd.trans h.dev,Um h.ok _ _,?_,hS,λy hy=>?_,?_⟩,by rw[hL];simp at hlen⊢;omega⟩
 .rw[EY];refine List.Perm.trans ?_ hp;rw[hN];cases hx:bu (⟨of_,n⟩:DHoldName) (m.es.map (·.1)) with
  |some j=>have hmem:(⟨of_,n⟩:DHoldName)∈w.L.map kn:=h.perm.mem_iff.1 (bO (mf hx));refine h.perm.trans ((List.perm_cons_erase hmem).trans ?_);rw[(OO h.srt).erase_eq_filter];refine List.Perm.of_eq ?_;congr 1;refine List.filter_congr λy _=>?_;by_cases e:y=⟨of_,n⟩<;>simp[e]
  |none=>have hni:(⟨of_,n⟩:DHoldName)∉w.L.map kn:=λhm=>jv.1 hx (h.perm.mem_iff.2 hm);rw[List.filter_eq_self.2 λy hy=>by simpa using λe:y=⟨of_,n⟩=>hni (e▸hy)];exact(List.perm_append_singleton _ _).trans (h.perm.cons _)
 .rw[R8];rw[hL] at hy;have:y=⟨false,of_,n,p⟩\/y∈A++B:=by
   rcases List.mem_append.1 hy with hy|hy
   .exact .inr (by simp[hy])
   .rcases List.mem_cons.1 hy with hy|hy
    .exact .inl hy
    .exact .inr (by simp[hy])
  rcases this with rfl|hy
  .exact if_pos rfl
  .obtain⟨h1,h2⟩:=hAB y hy;rw[if_neg h1];exact h.get y h2
 .obtain⟨c,rest,e,f,hr⟩:=h.ld;have hl:zv (⟨true,⟨0,0,0⟩,0,c⟩:D23K):=⟨rfl,rfl,rfl⟩;have e2:A++B=⟨true,⟨0,0,0⟩,0,c⟩::rest.filter (λy=> !p7 of_ n y):=by rw[<-hF,e,List.filter_cons];rw[if_pos (by rw[M3 hb (.inl hl)];simp[kn];exact .inl λe3=>by rw[<-e3] at hb;exact absurd hb a9)]
  cases A with
  |nil=>have h1:=hB _ (by rw[List.nil_append] at e2;rw[e2];rfl);have h2:=I4 hl hk;exact absurd (h2.symm.trans h1) aC
  |cons a A=>
   rw[List.cons_append] at e2;obtain⟨rfl,e3⟩:=List.cons.inj e2;refine⟨c,A++⟨false,of_,n,p⟩::B,hL,f,λy hy=>?_⟩;have hin:∀z∈A++B,KOk z:=λz hz=>by rw[e3] at hz;exact hr z (List.mem_filter.1 hz).1
   rcases List.mem_append.1 hy with hy|hy
   .exact hin y (by simp[hy])
   .rcases List.mem_cons.1 hy with rfl|hy
    .exact hk
    .exact hin y (by simp[hy])
theorem HRel.sm{d:Int}{m:FM DHoldName Nat}{w:D23H}(h:HRel d m w):∀x∈w.L.map kn,XJ x:=λx hx=>by
 obtain⟨y,hy,rfl⟩:=List.mem_map.1 hx;rcases h.kinds y hy with h1|h1
 .show 0<=y.N/\y.N<=1000000;rw[h1.2.2];decide
 .have:=h1.n;show 0<=y.N/\y.N<=1000000;omega
theorem HRel.hold{d:Int}{m:FM DHoldName Nat}{w:D23H}(h:HRel d m w)(hn:w.L.length<=12):HoldOk m (w.L.map kn):=by have hl:=h.perm.length_eq;rw[List.length_map,List.length_map] at hl;exact⟨h.ok,aa,λa hk=>Ul h.srt (hk.trans h.perm) cq h.sm,by simp;omega⟩
theorem ZM(hd:w.Device=d){k:D23K}(hk:zv k\/KOk k):Ab w k=some (C4 d (kn k)):=by
 unfold Ab C4 kn;rcases hk with h|h
 .rw[h.1,h.2.1,h.2.2,hd];simp
 .have hb:=h.by_;have:¬(⟨k.Of,k.N⟩:DHoldName)=⟨⟨0,0,0⟩,0⟩:=λe=>by have:=congrArg (λz=>z.commit.By) e;simp at this;omega
  rw[h.lead,if_neg this];rfl
theorem Sb{d:Int}(h:HRel d m w)(hn:w.L.length<=12):vN w=some ((w.L.map kn).map (C4 d)):=by
 unfold vN;refine T.eq (.bind ((T.forA (Q:=λr=>r=(w.L.map kn).map (C4 d)) w.L.length (λk a=>a=((w.L.take k).map kn).map (C4 d)) aa rfl (λk a hk ha=>?_) λa ha=>?_).mono λv hv=> .some hv))
 .subst ha;have hx:=cv hk;have hm:=h.kinds _ (List.getElem_mem hk);generalize w.L[k]=y at hx hm;have ht:w.L.take (k+1)=w.L.take k++[y]:=by rw[List.take_add_one,hx];rfl
  unfold qX;dsimp only;rw[eA hk,ax,au,hx,aL,ZM h.dev hm,aL];refine .bind (.app cq (.some ⟨aq aa,?_⟩));rw[ht];simp
 .subst ha;unfold qX;dsimp only;rw[eF,aM];exact .some (by rw[List.take_length];rfl)
theorem OP{a:List DTerm}(hn:a.length<=1000):pi a a=some true:=by
 unfold pi;rw[decide_eq_false aC,aM];have e:loop (gX a a) 0=some (.inl ()):=by
  refine T.eq (T.forI (Q:=λr:Unit⊕Bool=>r= .inl ()) a.length (λ_=>True) aa trivial (λk hk _=>?_) λ_=>?_)
  .have hx:=cv hk;unfold gX;rw[eA hk,ax,au,hx,aL,aL,decide_eq_true rfl];exact .some ⟨aq aa,trivial⟩
  .unfold gX;rw[eF,aM];exact .some rfl
 rw[e];rfl
theorem Lx(hk:fS k):∃q,E5 k=some q/\mg k=some q/\fS q:=by obtain⟨v,e,hv⟩:=ka 37 hk;refine⟨v,by unfold E5;rw[e];rfl,?_,by unfold fS;omega⟩;unfold mg;rw[nf a9 hk e];rfl
theorem HRel.priv{d:Int}{m:FM DHoldName Nat}{w:D23H}(h:HRel d m w):∀y∈w.L,fS y.Private:=by
 obtain⟨p,rest,e,hp,hr⟩:=h.ld;intro y hy;rw[e] at hy;rcases List.mem_cons.1 hy with rfl|hy
 .exact hp
 .exact(hr y hy).p
def Ly(pub:Nat)(y:D23K):Bool:=decide ((((mg y.Private).getD 0:Nat):Int)=(pub:Int))
def rX(w:D23H)(pub:Nat):Nat×Bool:=match w.L.find? (Ly pub) with
 |some y=>(y.Private,true)
 |none=>(0,false)
theorem C7{l:List α}{p:α->Bool}{x:α}(hx:l[k]?=some x)(hp:p x=true)(h:∀(j:Nat) (y:α),j<k->l[j]?=some y->p y=false):l.find? p=some x:=by rw[List.find?_eq_some_iff_getElem];have hk:=(cr hx).1;refine⟨hp,k,hk,(cr hx).2,λj hj=>?_⟩;have:=h j _ hj (cv aa);simpa using this
theorem Sc{d:Int}(h:HRel d m w)(hn:w.L.length<=12)(pub:Nat):Fk w pub=some (rX w pub):=by
 unfold Fk;refine T.eq (.bind ((T.search w.L (Ly pub) (λ_ y=>(y.Private,true)) aa (λk x hx hk=>?_) ?_).mono ?_))
 .obtain⟨q,e1,e2,_⟩:=Lx (h.priv x (bO hx));unfold uv Ly;rw[eA hk,ax,au,hx,aL,e1,aL,aq aa,aL,e2];simp only[Option.getD_some];cases decide ((q:Int)=(pub:Int))<;>rfl
 .unfold uv;rw[eF,aM]
 .rintro r (⟨rfl,h0⟩|⟨k,x,hx,hp,rfl,h0⟩)
  .refine .some ?_;unfold rX;rw[List.find?_eq_none.2 λy hy=>by rw[h0 y hy];simp]
  .refine .some ?_;unfold rX;rw[C7 hx hp h0]
theorem Sd{d:Int}(h:HRel d m w)(hn:w.L.length<=12)(pub:Nat):T (loop (MZ m (w.L.map kn) pub) 0) λx=>(x= .inl ()->(rX w pub).1=0/\(rX w pub).2=false)/\∀v,x= .inr v->(rX w pub).1=v/\(rX w pub).2=true:=by
 refine T.loop (λk=>k<=w.L.length/\∀(j:Nat) (y:D23K),j<k->w.L[j]?=some y->Ly pub y=false) (λk=>w.L.length+1-k) ⟨Nat.zero_le _,λj y hj=>absurd hj (Nat.not_lt_zero _)⟩ aa ?_;rintro k ⟨hk,hj⟩;unfold MZ;rw[List.getElem?_map];cases hx:w.L[k]? with
 |none=>
  have hl:w.L.length<=k:=List.getElem?_eq_none_iff.1 hx;have hnone:w.L.find? (Ly pub)=none:=List.find?_eq_none.2 λy hy=>by obtain⟨j,a⟩:=List.getElem?_of_mem hy;rw[hj j y (by have:=(cr a).1;omega) a];simp
  refine .some ⟨λ_=>?_,λv hv=>by cases hv⟩;unfold rX;rw[hnone];exact⟨rfl,rfl⟩
 |some y=>
  have hm:=bO hx;have hkl:=(cr hx).1;obtain⟨q,_,e2,_⟩:=Lx (h.priv y hm);dsimp only[Option.map_some];rw[h.get y hm];dsimp only[Option.getD_some];rw[e2,aL];have eh:Ly pub y=decide ((q:Int)=(pub:Int)):=by unfold Ly;rw[e2];rfl
  rw[<-eh];refine .ite (λb=> .some ⟨λe=>(by cases e),λv hv=>?_⟩) λb=> .some ⟨⟨hkl,λj z c hz=>?_⟩,aa⟩
  .cases hv;unfold rX;rw[C7 hx b hj];exact⟨rfl,rfl⟩
  .rcases Nat.lt_or_ge j k with hlt|hge
   .exact hj j z hlt hz
   .obtain rfl:j=k:=aa;rw[hx] at hz;cases hz;exact b
def I5(y:D23K):List UInt8:=sN y.Of++aV y.N++nb y.Private
theorem Uo(h:KOk y):(I5 y).length<=50:=by have h1:=gN h.id;have h2:=aR (z:=y.N) ⟨by have:=h.n;omega,by have:=h.n;omega⟩;have h3:=gH h.p;unfold I5;simp only[List.length_append];omega
theorem OQ{l:List D23K}(h:∀y∈l,KOk y):(l.flatMap I5).length<=50*l.length:=by
 induction l with
 |nil=>simp
 |cons y r ih=>have:=Uo (h y aC);have:=ih λz hz=>h z (by simp[hz]);rw[List.flatMap_cons,List.length_append,List.length_cons];omega
theorem Uq{d:Int}(h:HRel d m w)(hd:c8 d)(hn:w.L.length<=12){rest:List D23K}(e:w.L=⟨true,⟨0,0,0⟩,0,p⟩::rest):Fj w=some (gg d p rest.length++rest.flatMap I5):=by
 obtain⟨j,c,e',hp,hr⟩:=h.ld;rw[e] at e';simp only[List.cons.injEq,D23K.mk.injEq] at e';obtain⟨⟨_,_,_,rfl⟩,rfl⟩:=e';have hrl:rest.length<=11:=by rw[e] at hn;simp at hn;omega
 have l1:=aR hd;have l2:(aV 1).length<=10:=aR ⟨a9,a9⟩;have l3:=gH hp;have i4:c8 (rest.length:Int):=⟨aa,aa⟩;have l4:=aR i4;have lB:(gg d p rest.length).length<=40:=by unfold gg;simp only[List.length_append];omega
 unfold Fj;rw[h.dev,e];refine T.eq (.bind ((cK hd).mono λi b=>?_));subst b;refine .eqb (v:=true) ?_ (.eqb (v:=aV 1) ?_ (.bind (.app aa (.eqb (v:=(aV d++aV 1++nb p,rest)) ?_ (.bind ((cK (z:=ah rest) i4).mono λg hv=>?_))))))
 .rw[decide_eq_true (by unfold ah;simp),ax];rfl
 .unfold zW;obtain⟨v,f,rfl⟩:=cK (z:=1) ⟨a9,a9⟩;rw[ax,f];rfl
 .rw[ax];show(some _:Option D23K).bind _=_;obtain⟨v,f,rfl⟩:=oF hp;rw[aL];dsimp only;rw[f,aL];unfold aT;rw[if_pos (by rw[List.length_append];omega),aL];unfold mc;rw[if_pos ⟨a9,aC⟩];rfl
 .subst hv;refine .bind (.app (by dsimp only;simp only[List.length_append];unfold ah;omega) ?_);dsimp only;have e0:aV d++aV 1++nb p++aV (ah rest)=gg d p rest.length:=rfl;rw[e0];refine .bind ((T.forA (Q:=λr=>r=gg d p rest.length++rest.flatMap I5) rest.length (λk a=>a=gg d p rest.length++(rest.take k).flatMap I5) aa aC (λk a hk ha=>?_) λa ha=>?_).mono λv hv=> .some hv)
  .subst ha;have hx:=cv hk;have hy:=hr _ (List.getElem_mem hk);generalize rest[k]=y at hx hy;have ht:(rest.take (k+1)).flatMap I5=(rest.take k).flatMap I5++I5 y:=by rw[List.take_add_one,hx,List.flatMap_append];simp
   have hl:(gg d p rest.length++(rest.take k).flatMap I5).length<=600:=by
    have h1:=OQ (l:=rest.take k) λz hz=>hr z (List.mem_of_mem_take hz);have h2:(rest.take k).length<=11:=by rw[List.length_take];omega
    rw[List.length_append];omega
   have hN:c8 y.N:=⟨by have:=hy.n;omega,by have:=hy.n;omega⟩;have b1:=gN hy.id;have b2:=aR hN;have b3:=gH hy.p;unfold xy;dsimp only;rw[eA hk,ax,au,hx];simp only[aL];refine .bind ((l6 hy.id).mono λv hv=>?_);subst hv;refine .bind (.app aa (.bind ((cK hN).mono λv hv=>?_)));subst hv;refine .bind (.app (by rw[List.length_append];omega) (.bind ((oF hy.p).mono λv hv=>?_)));subst hv;refine .bind (.app (by rw[List.length_append,List.length_append];omega) (.some ⟨aq aa,?_⟩));rw[ht];unfold I5;simp
  .subst ha;unfold xy;dsimp only;rw[eF,aM];exact .some (by rw[List.take_length];rfl)
theorem Ur(h:HRel d m w){rest:List D23K}(e:w.L=⟨true,⟨0,0,0⟩,0,p⟩::rest):((rest.map kn).take (rest.map kn).length).flatMap (GJ m)=rest.flatMap I5:=by
 rw[List.take_length,List.flatMap_map];have:∀l:List D23K,(∀y∈l,y∈w.L)->l.flatMap (λa=>GJ m (kn a))=l.flatMap I5:=by
  intro l;induction l with
  |nil=>intro _;rfl
  |cons y r ih=>intro b;rw[List.flatMap_cons,List.flatMap_cons,ih λz hz=>b z (by simp[hz])];congr 1;unfold GJ I5;rw[h.get y (b y aC)];rfl
 exact this rest λy hy=>by rw[e];simp[hy]
theorem kY{b:Nat}{l:List α}(h:l.length*b<=140737488355328):aT b [] l=some l:=by unfold aT;rw[if_pos (by simpa using h)];rfl
theorem I0{l:List α}{x:α}(h:l[k]?=some x):ji l (k:Int) x=some l:=by
 have hk:=(cr h).1;unfold ji;rw[if_pos ⟨aa,aa⟩,Int.toNat_natCast];congr 1;apply List.ext_getElem?;intro i;by_cases e:i=k
 .subst e;rw[List.getElem?_set_self hk,h]
 .rw[List.getElem?_set_ne (Ne.symm e)]
theorem RM(sm:SmOp o):pG o=some o:=by
 have n1:=sm.nPast;have n2:=sm.nPath;have b:=sm.nRefs;have c:=sm.nGuards;have d:=sm.nHist;have e:=sm.nBoxes;have f:=sm.nBody;unfold pG cU de dK fF dx gt fu;rw[kY aa,kY aa,kY aa,kY aa,kY aa,kY aa,kY aa];simp only[aL];have l0:loop (jD o.Path) (o.Path,0)=some o.Path:=by
  refine T.eq (T.forA o.Path.length (λ_ a=>a=o.Path) aa rfl (λk a hk ha=>?_) λa ha=>?_)
  .subst ha;unfold jD;dsimp only;have hx:=cv hk;have hb:=(sm.path _ (List.getElem_mem hk)).n;rw[eA hk,ax,au,hx,aL];unfold dx;rw[kY aa,aL,aL,I0 hx];exact .some ⟨aq aa,rfl⟩
  .subst ha;unfold jD;dsimp only;rw[eF,aM];exact .some rfl
 have l1:loop (jC o.Hist) (o.Hist,0)=some o.Hist:=by
  refine T.eq (T.forA o.Hist.length (λ_ a=>a=o.Hist) aa rfl (λk a hk ha=>?_) λa ha=>?_)
  .subst ha;unfold jC;dsimp only;have hx:=cv hk;have hb:=(sm.hist _ (List.getElem_mem hk)).n;rw[eA hk,ax,au,hx,aL];unfold de;rw[kY aa,aL,aL,I0 hx];exact .some ⟨aq aa,rfl⟩
  .subst ha;unfold jC;dsimp only;rw[eF,aM];exact .some rfl
 rw[l0,l1];rfl
def gW(s:A4W)(j:Nat):Bool:=match j/64 with
 |0=>s.a0.testBit (j%64)
 |1=>s.a1.testBit (j%64)
 |2=>s.a2.testBit (j%64)
 |3=>s.a3.testBit (j%64)
 |_=>false
theorem xg{a b:Nat}(h:i<64):(gM a b).testBit i=(a.testBit i||b.testBit i):=by unfold gM;rw[Nat.testBit_or,show(18446744073709551616:Nat)=2^64 from rfl,Nat.testBit_mod_two_pow,Nat.testBit_mod_two_pow];simp[h]
theorem RN{a b:Nat}(h:i<64):(bD a b).testBit i=(a.testBit i&&b.testBit i):=by unfold bD;rw[Nat.testBit_and,show(18446744073709551616:Nat)=2^64 from rfl,Nat.testBit_mod_two_pow,Nat.testBit_mod_two_pow];simp[h]
theorem Ay(hk:k<64)(h:i<64):(fN 1 k).testBit i=decide (k=i):=by unfold fN;rw[Nat.min_eq_left aa,Nat.one_mul,show(18446744073709551616:Nat)=2^64 from rfl,Nat.testBit_mod_two_pow,Nat.testBit_two_pow];simp[h]
theorem RP(s t:A4W)(j:Nat):gW (vd s t) j=(gW s j||gW t j):=by have h:=Nat.mod_lt j (show 64>0 by decide);unfold gW vd;split<;>first|exact xg h|rfl
theorem T3{j:Nat}(hn:n<256)(hj:j<256):gW (yt s n) j=(gW s j||decide (j=n)):=by
 have h:=Nat.mod_lt j (show 64>0 by decide);have h':=Nat.mod_lt n (show 64>0 by decide);have e:∀q:Nat,n/64=q->j/64=q->decide (n%64=j%64)=decide (j=n):=λq e1 e2=>decide_eq_decide.2 aa;have e':n/64≠j/64->decide (j=n)=false:=λh=>decide_eq_false (λe=>h (by rw[e]));have h4:n/64=0\/n/64=1\/n/64=2\/n/64=3:=aa;have h5:j/64=0\/j/64=1\/j/64=2\/j/64=3:=aa;unfold gW yt;rcases h4 with e1|e1|e1|e1
 .rcases h5 with e2|e2|e2|e2
  .rw[e1,e2];show(gM s.a0 (fN 1 (n%64))).testBit (j%64)=(s.a0.testBit (j%64)||decide (j=n));rw[xg h,Ay h' h,e 0 e1 e2]
  .rw[e' aa,Bool.or_false,e1,e2];rfl
  .rw[e' aa,Bool.or_false,e1,e2];rfl
  .rw[e' aa,Bool.or_false,e1,e2];rfl
 .rcases h5 with e2|e2|e2|e2
  .rw[e' aa,Bool.or_false,e1,e2];rfl
  .rw[e1,e2];show(gM s.a1 (fN 1 (n%64))).testBit (j%64)=(s.a1.testBit (j%64)||decide (j=n));rw[xg h,Ay h' h,e 1 e1 e2]
  .rw[e' aa,Bool.or_false,e1,e2];rfl
  .rw[e' aa,Bool.or_false,e1,e2];rfl
 .rcases h5 with e2|e2|e2|e2
  .rw[e' aa,Bool.or_false,e1,e2];rfl
  .rw[e' aa,Bool.or_false,e1,e2];rfl
  .rw[e1,e2];show(gM s.a2 (fN 1 (n%64))).testBit (j%64)=(s.a2.testBit (j%64)||decide (j=n));rw[xg h,Ay h' h,e 2 e1 e2]
  .rw[e' aa,Bool.or_false,e1,e2];rfl
 .rcases h5 with e2|e2|e2|e2
  .rw[e' aa,Bool.or_false,e1,e2];rfl
  .rw[e' aa,Bool.or_false,e1,e2];rfl
  .rw[e' aa,Bool.or_false,e1,e2];rfl
  .rw[e1,e2];show(gM s.a3 (fN 1 (n%64))).testBit (j%64)=(s.a3.testBit (j%64)||decide (j=n));rw[xg h,Ay h' h,e 3 e1 e2]
theorem OK{a:Nat}(ha:a<18446744073709551616)(h:∀i,i<64->a.testBit i=false):a=0:=by
 apply Nat.eq_of_testBit_eq;intro i;rw[Nat.zero_testBit];rcases Nat.lt_or_ge i 64 with hi|hi
 .exact h i hi
 .exact Nat.testBit_lt_two_pow (Nat.lt_of_lt_of_le ha (Nat.le_trans (show(18446744073709551616:Nat)<=2^64 from Nat.le_refl _) (Nat.pow_le_pow_right a9 hi)))
theorem T4(a b:Nat):bD a b<18446744073709551616:=by unfold bD;exact Nat.lt_of_le_of_lt Nat.and_le_left (Nat.mod_lt _ a9)
theorem RQ{p b:A4W}(h:∀j,j<256->¬(gW p j=true/\gW b j=true)):ZA p b 4=z4:=by
 have w:∀(q:Nat) (x y:Nat),q<4->(∀i,i<64->gW p (64*q+i)=x.testBit i/\gW b (64*q+i)=y.testBit i)->bD x y=0:=λq x y hq hxy=>OK (T4 _ _) λi hi=>by rw[RN hi,<-(hxy i hi).1,<-(hxy i hi).2];have:=h (64*q+i) aa;cases h1:gW p (64*q+i)<;>cases h2:gW b (64*q+i)<;>simp[h1,h2] at this⊢
 have d:∀(q i:Nat),i<64->(64*q+i)/64=q/\(64*q+i)%64=i:=λq i hi=>aa;show(⟨bD p.a0 b.a0,bD p.a1 b.a1,bD p.a2 b.a2,bD p.a3 b.a3⟩:A4W)=⟨0,0,0,0⟩;rw[w 0 p.a0 b.a0 a9 λi hi=>by unfold gW;rw[(d 0 i hi).1,(d 0 i hi).2];exact⟨rfl,rfl⟩];rw[w 1 p.a1 b.a1 a9 λi hi=>by unfold gW;rw[(d 1 i hi).1,(d 1 i hi).2];exact⟨rfl,rfl⟩];rw[w 2 p.a2 b.a2 a9 λi hi=>by unfold gW;rw[(d 2 i hi).1,(d 2 i hi).2];exact⟨rfl,rfl⟩];rw[w 3 p.a3 b.a3 a9 λi hi=>by unfold gW;rw[(d 3 i hi).1,(d 3 i hi).2];exact⟨rfl,rfl⟩]
theorem Xa(hn:n<256):iX s (n:Int)=some (gW s n):=by
 have hd:wI (Int.tdiv (n:Int) 64)=((n/64:Nat):Int):=by rw[Int.tdiv_eq_ediv_of_nonneg aa,bM aa aa];rfl
 have ht:Int.tmod (n:Int) 64=((n%64:Nat):Int):=by rw[Int.tmod_eq_emod_of_nonneg aa];rfl
 have hcn:wJ ((n%64:Nat):Int)=some (n%64):=by unfold wJ;rw[if_neg aa];rfl
 have h:=Nat.mod_lt n (show 64>0 by decide);have key:∀y:Nat,decide (((bD (cw y (n%64)) 1:Nat):Int)=((1:Nat):Int))=y.testBit (n%64):=λy=>by unfold bD cw;rw[Nat.min_eq_left aa,Nat.testBit_eq_decide_div_mod_eq];refine decide_eq_decide.2 ?_;rw[show(1:Nat)%18446744073709551616=1 from rfl,Nat.and_one_is_mod];omega
 unfold iX;rw[hd,ht,hcn,au];have h4:n/64=0\/n/64=1\/n/64=2\/n/64=3:=aa;unfold gW;rcases h4 with e|e|e|e<;>rw[e]<;>simp only[List.getElem?_cons_zero,List.getElem?_cons_succ,aL,key]
structure PgOk (g:D12G) (m:FM DIdent Int) (N:List DGraphNode):Prop where
 len:N.length=g.L.length
 nd:∀(k:Nat) (y:DGraphNode),N[k]?=some y->g.L[k]?=some y.o/\g.IDs[k]?=some y.id/\(∀j,j<256->gW y.past j=vf g k j)/\0<=y.level/\y.level<=(k:Int)+1
 get:∀x,m.get x=(bu x g.IDs).map (λn=>(n:Int))
theorem MX{a b c:Int}(h1:a<=c)(h2:b<=c):gB a b<=c:=by unfold gB;split<;>omega
theorem T5{a b c:Int}(h1:c<=a):c<=gB a b:=by unfold gB;split<;>omega
theorem ZF{m:FM DIdent Int}(w:WfG g)(pg:PgOk g m N)(a:AddOk g o up)(sm:SmOp o):T (loop (Z6 m N o.Past) (z4,z4,0,1,0)) λr=>(∀j:Nat,j<256->(gW r.1 j=true↔(j:Int)∈up))/\(∀j:Nat,j<256->(gW r.2.1 j=true↔∃n:Nat,(n:Int)∈up/\vf g n j=true))/\r.2.2.1<=o.At/\0<=r.2.2.2/\r.2.2.2<=(N.length:Int)+1:=by
 have f:=T1 a.check.numbers;have n1:=sm.nPast;have nL:=w.nL;have nI:=w.nI;have pl:=pg.len;refine T.loop (λs=>∃k:Nat,s.2.2.2.2=(k:Int)/\k<=o.Past.length/\(∀j:Nat,j<256->(gW s.1 j=true↔∃i,i<k/\up[i]?=some (j:Int)))/\(∀j:Nat,j<256->(gW s.2.1 j=true↔∃i n:Nat,i<k/\up[i]?=some (n:Int)/\vf g n j=true))/\s.2.2.1<=o.At/\0<=s.2.2.2.1/\s.2.2.2.1<=(N.length:Int)+1) (λs=>o.Past.length-s.2.2.2.2.toNat) ⟨0,rfl,aa,λj hj=>?_,λj hj=>?_,f.at_.1,a9,by show(1:Int)<=_;omega⟩ (by show o.Past.length-_<_;omega) ?_
 .have:gW z4 j=false:=by unfold gW;split<;>simp
  rw[this];simp
 .have:gW z4 j=false:=by unfold gW;split<;>simp
  rw[this];simp
 rintro⟨p,b,A,B,i⟩ ⟨k,rfl,hk,q1,d,e,l,q⟩;dsimp only at q1 d e l q;unfold Z6;dsimp only;refine .dec (λhlt=>?_) λhge=>?_
 .unfold ah at hlt;have hk2:k<o.Past.length:=aa;have hx:=cv hk2;obtain⟨n,hn,hu⟩:=a.par k _ hx;have eg:m.get o.Past[k]=some (n:Int):=by rw[pg.get,hn];rfl
  have hnl:n<g.IDs.length:=(cr (gb hn).1).1;have hy:N[n]?=some (N[n]'aa):=cv _;obtain⟨t,v,u,x,z⟩:=pg.nd n _ hy;generalize N[n]'aa=y at hy t v u x z;have hmem:(n:Int)∈up:=bO hu;have hat:=a.late n _ hmem t;have ew:wI (y.level+1)=y.level+1:=bM aa aa;rw[au,hx,aL,eg];dsimp only[Option.getD_some];rw[au,hy,aL,ew,aq aa];refine .some ⟨⟨k+1,rfl,aa,λj hj=>?_,λj hj=>?_,MX e hat,T5 l,MX q aa⟩,?_⟩
  .dsimp only;rw[Int.toNat_natCast,T3 aa hj,Bool.or_eq_true,q1 j hj,decide_eq_true_eq];constructor
   .rintro(⟨i,hi,h⟩|rfl)
    .exact⟨i,aa,h⟩
    .exact⟨k,aa,hu⟩
   .rintro⟨i,hi,h⟩;rcases Nat.lt_or_ge i k with hik|hik
    .exact .inl ⟨i,hik,h⟩
    .obtain rfl:i=k:=aa;rw[hu] at h;right;have:=bn h;omega
  .dsimp only;rw[RP,Bool.or_eq_true,d j hj,u j hj];constructor
   .rintro(⟨i,c,hi,h⟩|h)
    .exact⟨i,c,aa,h⟩
    .exact⟨k,n,aa,hu,h⟩
   .rintro⟨i,c,hi,h,h'⟩;rcases Nat.lt_or_ge i k with hik|hik
    .exact .inl ⟨i,c,hik,h,h'⟩
    .obtain rfl:i=k:=aa;rw[hu] at h;have:=bn h;obtain rfl:n=c:=aa;exact .inr h'
  .show o.Past.length-(((k+1:Nat):Int)).toNat<o.Past.length-((k:Int)).toNat;omega
 .unfold ah at hge;obtain rfl:k=o.Past.length:=aa;have ul:=a.upl;refine .some ⟨λj hj=>?_,λj hj=>?_,e,l,q⟩
  .rw[q1 j hj];constructor
   .rintro⟨i,_,h⟩;exact bO h
   .intro h;obtain⟨i,hi⟩:=List.getElem?_of_mem h;exact⟨i,by have:=(cr hi).1;omega,hi⟩
  .rw[d j hj];constructor
   .rintro⟨i,n,_,h,h'⟩;exact⟨n,bO h,h'⟩
   .rintro⟨n,h,h'⟩;obtain⟨i,hi⟩:=List.getElem?_of_mem h;exact⟨i,n,by have:=(cr hi).1;omega,hi,h'⟩
def RR(g:D12G)(o:DOp)(r:List Bool):Prop:=(∀(k:Nat) (p:DOp),g.L[k]?=some p->r[k]?=some true->p.By=o.By->p.Seq<o.Seq)/\(o.Seq=1\/∃(k:Nat) (p:DOp),g.L[k]?=some p/\r[k]?=some true/\p.By=o.By/\p.Seq=wI (o.Seq-1))
theorem Xb(w:WfG g){o:DOp}(hr:r.length=g.L.length):T (lA g o r) λv=>v=true->RR g o r:=by
 have nL:=w.nL;unfold lA;refine .bind (T.forA g.L.length (λk b=>(∀(j:Nat) (p:DOp),j<k->g.L[j]?=some p->r[j]?=some true->p.By=o.By->p.Seq<o.Seq)/\(b=true->∃(j:Nat) (p:DOp),g.L[j]?=some p/\r[j]?=some true/\p.By=o.By/\p.Seq=wI (o.Seq-1))) aa ⟨λj p hj=>absurd hj (Nat.not_lt_zero _),λh=>by cases h⟩ (λk b hk a=>?_) λb a=>?_)
 .have hp:=cv hk;obtain⟨x,hx⟩:∃x,r[k]?=some x:=⟨_,cv aa⟩;generalize g.L[k]=p at hp;have more:∀(c:Prop),(c->p.Seq<o.Seq)->((r[k]?=some true/\p.By=o.By)->c)->∀(j:Nat) (q:DOp),j<k+1->g.L[j]?=some q->r[j]?=some true->q.By=o.By->q.Seq<o.Seq:=λc h1 h2 j q hj hq h3 h4=>by
   rcases Nat.lt_or_ge j k with hjk|hjk
   .exact a.1 j q hjk hq h3 h4
   .obtain rfl:j=k:=aa;rw[hp] at hq;cases hq;exact h1 (h2 ⟨h3,h4⟩)
  unfold jK;dsimp only;rw[eA hk,ax,au,au,hx,hp];simp only[aL];cases x with
  |false=>exact .some ⟨aq aa,more False (λh=>h.elim) (λh=>by rw[hx] at h;cases h.1),a.2⟩
  |true=>
   simp only[Bool.not_true,aM,aL];by_cases hb:p.By=o.By
   .rw[decide_eq_false (show¬p.By≠o.By from λh=>h hb),aM];refine .dec (λhs=> .some (.some λh=>by cases h)) λhs=>?_;have hm:=more True (λ_=>aa) λ_=>trivial;cases b with
    |true=>exact .some ⟨aq aa,hm,a.2⟩
    |false=>exact .some ⟨aq aa,hm,λh=>⟨k,p,hp,hx,hb,of_decide_eq_true h⟩⟩
   .rw[decide_eq_true hb,ax];exact .some ⟨aq aa,more False (λh=>h.elim) (λh=>hb h.2),a.2⟩
 .unfold jK;dsimp only;rw[eF,aM];refine .some ?_;show T (ma _ _ _) _;dsimp only[ma];have h1:∀(k:Nat) (p:DOp),g.L[k]?=some p->r[k]?=some true->p.By=o.By->p.Seq<o.Seq:=λk p hp=>a.1 k p (cr hp).1 hp;by_cases hs:o.Seq=1
  .rw[decide_eq_true hs];exact .some λ_=>⟨h1,.inl hs⟩
  .rw[decide_eq_false hs];exact .some λhb=>⟨h1,.inr (a.2 hb)⟩
theorem ZG{m:FM DIdent Int}{A:A4W}(w:WfG g)(pg:PgOk g m N)(f:NumF o)(hA:∀j:Nat,j<g.L.length->(gW A j=true↔r[j]?=some true))(n:RR g o r):T (loop (Z7 N o A) (0,false,0)) λv=>v.1<o.Seq/\(1<o.Seq->v.2=true):=by
 have nL:=w.nL;have pl:=pg.len;have fs:=f.seq;refine T.loop (λs=>∃k:Nat,s.2.2=(k:Int)/\k<=N.length/\s.1<o.Seq/\∀(j:Nat) (p:DOp),j<k->g.L[j]?=some p->r[j]?=some true->p.By=o.By->p.Seq=wI (o.Seq-1)->s.2.1=true) (λs=>N.length-s.2.2.toNat) ⟨0,rfl,aa,by show(0:Int)<_;omega,λj p hj=>absurd hj (Nat.not_lt_zero _)⟩ (by show N.length-_<_;omega) ?_;rintro⟨la,c,i⟩ ⟨k,rfl,hk,q1,d⟩;dsimp only at q1 d;unfold Z7;dsimp only;refine .dec (λhlt=>?_) λhge=>?_
 .unfold ah at hlt;have hk2:k<N.length:=aa;have hy:=cv hk2;obtain⟨e,_⟩:=pg.nd k _ hy;generalize N[k]=y at hy e;rw[au,hy,aL,aq aa];have dn:N.length-(((k+1:Nat):Int)).toNat<N.length-((k:Int)).toNat:=aa;have more:∀a:Bool,(c=true->a=true)->(r[k]?=some true->y.o.By=o.By->y.o.Seq=wI (o.Seq-1)->a=true)->∀(j:Nat) (p:DOp),j<k+1->g.L[j]?=some p->r[j]?=some true->p.By=o.By->p.Seq=wI (o.Seq-1)->a=true:=λa h1 h2 j p hj hp h3 h4 h5=>by
   rcases Nat.lt_or_ge j k with hjk|hjk
   .exact h1 (d j p hjk hp h3 h4 h5)
   .obtain rfl:j=k:=aa;rw[e] at hp;cases hp;exact h2 h3 h4 h5
  refine .dec (λhb=>?_) λhb=> .some ⟨⟨k+1,rfl,aa,q1,more c id λ_ h=>absurd h hb⟩,dn⟩;rw[Xa aa,aL];refine .ite (λb=>?_) λb=> .some ⟨⟨k+1,rfl,aa,q1,more c id λh=>?_⟩,dn⟩
  .have l:=(hA k aa).1 b;refine .some ⟨⟨k+1,rfl,aa,?_,more _ (λh=>by rw[h];rfl) λ_ _ h=>by rw[decide_eq_true h];cases c<;>rfl⟩,dn⟩;have:=n.1 k _ e l hb;unfold gB;dsimp only;split<;>omega
  .rw[(hA k aa).2 h] at b;cases b
 .unfold ah at hge;refine .some ⟨q1,λh1=>?_⟩;rcases n.2 with h|⟨j,p,h2,h3,h4,h5⟩
  .omega
  .exact d j p (by have:=(cr h2).1;omega) h2 h3 h4 h5
end Go.Proofs.YtnpdibmpndhkjaaGreatDoor
