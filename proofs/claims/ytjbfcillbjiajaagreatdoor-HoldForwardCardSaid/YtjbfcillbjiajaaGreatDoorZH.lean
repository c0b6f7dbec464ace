/- Texts. -/
import Derived.Shelf.GgSortFunc.RowK
import Derived.Shelf.SlSortCmp.InsertionK
import Derived.Test.YtjbfcillbjiajaaGreatDoorQD
namespace Go.Proofs.YtjbfcillbjiajaaGreatDoor
set_option linter.unusedSectionVars false
set_option linter.unusedVariables false
set_option linter.unusedSimpArgs false
open Go.RowKit Tryz Go.Sort
attribute [local irreducible] Tr dz Gp
variable {α:Type}{P:Bu}{a b c i j k m p s u v w:Nat}{ids l l0 row:Ba}{st:St}{I:Gi}{gg:Az}{pv x y:Ab}{r:List Bg}{L:Bk}{f g:FuncId}{d:Int}
theorem AdE{gl:CC}{fid:FuncId}{gs gs':Bk}{σR:aQ}{t:Bj}{l:Bk}(hc:aK P fid=true)(hF:iV P gl fid gs' t m l)(hr:∀g∈l,∃v,g= .lit v)(hl:gs'.length=gs.length)(hz:∀st:St,(∀i o,ag σR i=some o->ag st.σ i=some o)->∀(i:Nat) (x y:G),gs[i]?=some x->gs'[i]?=some y->ve P st x y):oJ P gl fid gs σR c (.rsl c 0 m) [(c,some ⟨t,l,none⟩)] (c+1):=λo st y xs ats fst cap ho hd hx hgs hgl b a=>by grind [H4,Xh]
abbrev tSe:Bj:=280
abbrev oSe(m:FM Int Int):Option Ob:=some (M7 tSe JG iG m)
theorem Ai1{σ:aQ}(m:FM Int Int)(h:ag σ 4=oSe m)(k v:Int):dZ prog σ tSe (.mref 4) (iG k) (iG v)=some (4,M7 tSe JG iG (CA m k v)):=AcA (P:=prog) (et:=3) O6 Abm aH (k:=k) (gk:=iG k) rfl (m:=m) h v
theorem Ai2(k:Ab):Instr.sameBits 10000 (ga k) (ga k)=true:=by(unfold ga Pe;simp[Instr.sameBits])
theorem AkB{σ:aQ}{i:Nat}(m:FM Ab Bool)(h:ag σ i=X7 m)(k:Ab):dZ prog σ tMI (.mref i) (.agg (aj k)) (bG true)=some (i,M7 tMI ga bG (CA m k true)):=AcA (P:=prog) (et:=4) jt Ai2 aH (k:=k) (gk:= .agg (aj k)) rfl (m:=m) h true
def TF(cs:Mi):FM Int Int:=cs.foldl (λm c=>CA m c.Device 12) ⟨[],0⟩
def Vc(m:FM Int Int)(s:Bn):Nat->FM Int Int
 |0=>m
 |k+1=>match s[k]? with
  |some d=>CA (Vc m s k) d (k:Int)
  |none=>Vc m s k
def O8(cs:Mi)(s:Bn):FM Int Int:=Vc (TF cs) s s.length
abbrev wV(al:Bb)(v:FM Ab Bool):Bb:={al with void:=v}
def vFu(I:Gi)(row a:Ba)(x:Ab)(v:FM Ab Bool)(y:Ab):FM Ab Bool:=bif Jn I x y then CA v y true else bif a.any (λz=>decide (y=z))&&D5 I row x y then CA v y true else v
def vAl(I:Gi)(row a:Ba)(x:Ab)(v:FM Ab Bool):FM Ab Bool:=row.foldl (vFu I row a x) v
def Agx(I:Gi)(al:Bb)(sen:FM Int Int)(s:Ba×FM Ab Bool):Option ((Ba×FM Ab Bool)⊕FM Ab Bool):=
 bif s.1.length<=1000 then
 (λl1:Ba=>bif ah l1=0 then some (.inr s.2)else(AH (Agp I al.row l1 sen) (0,-1)).bind λi=>(aS l1 i).bind λx=>
   bif(JU I (wV al s.2)).any (λz=>decide (x=z))then some (.inl (l1.eraseIdx i.toNat,vAl I al.row (l1.eraseIdx i.toNat) x s.2))else some (.inl (l1.eraseIdx i.toNat,CA s.2 x true)))
 (s.1.filter λx=> !A7 (s.2.get x))
 else none
def Agy(I:Gi)(al:Bb)(sen:FM Int Int):Option (FM Ab Bool):=AH (Agx I al sen) (al.row.filter (λx=> !!JN (I.o x).Kind),al.void)
abbrev σ3(al:Bb):aQ:=[(0,oLi al 1 2),(1,X7 al.void),(2,X7 al.fork)]
abbrev σ5(al:Bb)(sen:FM Int Int):aQ:=σ3 al++[(3,oBl 0),(4,oSe sen)]
abbrev σ6(al:Bb)(sen:FM Int Int)(l:Ba):aQ:=σ5 al sen++[(5,BA l)]
theorem AkC(m:FM Int Int):∀e∈UK JG iG m,bB e.2.1:=by grind [mN]
theorem Agz{κ:Nat->Fq}{b b':Nat}(h:κ b=some b'):∀ob,oBl b'=some ob->∃o,oBl b=some o/\MB κ o ob:=λob e=>by cases e;refine⟨_,rfl,rfl,.inl ?_⟩;grind [qg]
theorem Aax{κ:Nat->Fq}{al:Bb}{v v' f f':Nat}(h:κ v=some v')(h2:κ f=some f'):∀ob,oLi al v' f'=some ob->∃o,oLi al v f=some o/\MB κ o ob:=λob e=>by cases e;refine⟨_,rfl,rfl,.inl ?_⟩;grind [qg]
theorem QI{κ:Nat->Fq}{m:FM Ab Bool}:∀ob,X7 m=some ob->∃o,X7 m=some o/\MB κ o ob:=λob e=>by cases e;exact⟨_,rfl,rfl,rfl,rfl,rfl,.inr ⟨rfl,AcL m⟩⟩
theorem AdF{κ:Nat->Fq}:∀ob,BA l=some ob->∃o,BA l=some o/\MB κ o ob:=λob e=>by cases e;exact⟨_,rfl,rfl,.inr ⟨rfl,ac.imm l⟩⟩
theorem AmN(al:Bb)(l:Ba):InP (vi [5,3,0,1,2]) [5,3,0,1,2] [(5,BA l),(3,oBl 0),(0,oLi al 1 2),(1,X7 al.void),(2,X7 al.fork)] ((0,BA l)::σL al):=λk o0 h=>by
 match k with
 |0=>obtain⟨o,h1,h2⟩:=AdF (κ:=vi [5,3,0,1,2]) o0 h;exact⟨5,o,rfl,h1,h2⟩
 |1=>obtain⟨o,h1,h2⟩:=Agz (κ:=vi [5,3,0,1,2]) (b:=0) (b':=2) rfl o0 h;exact⟨3,o,rfl,h1,h2⟩
 |2=>obtain⟨o,h1,h2⟩:=Aax (κ:=vi [5,3,0,1,2]) (al:=al) (v:=1) (v':=3) (f:=2) (f':=4) rfl rfl o0 h;exact⟨0,o,rfl,h1,h2⟩
 |3=>obtain⟨o,h1,h2⟩:=QI (κ:=vi [5,3,0,1,2]) (m:=al.void) o0 h;exact⟨1,o,rfl,h1,h2⟩
 |4=>obtain⟨o,h1,h2⟩:=QI (κ:=vi [5,3,0,1,2]) (m:=al.fork) o0 h;exact⟨2,o,rfl,h1,h2⟩
 |j+5=>cases h
theorem AkD(al:Bb)(l d:Ba)(c:Nat):abi (kO ((0,BA l)::σL al) [5,3,0,1,2] 5 0 c) ((0,BA d)::σL al) [(5,BA d),(3,oBl 0),(0,oLi al 1 2),(1,X7 al.void),(2,X7 al.fork)]:=λi o h0=>by
 generalize hκ:kO ((0,BA l)::σL al) [5,3,0,1,2] 5 0 c=κ;have h0':κ 0=some 5:=by rw[<-hκ];rfl
 have h1':κ 1=some 3:=by rw[<-hκ];rfl
 have h2':κ 2=some 0:=by rw[<-hκ];rfl
 have h3':κ 3=some 1:=by rw[<-hκ];rfl
 have h4':κ 4=some 2:=by rw[<-hκ];rfl
 match i with
 |5=>obtain⟨a,h1,h2⟩:=AdF (κ:=κ) o h0;exact⟨0,a,h0',h1,h2⟩
 |3=>obtain⟨a,h1,h2⟩:=Agz (κ:=κ) (b:=2) (b':=0) h2' o h0;exact⟨1,a,h1',h1,h2⟩
 |0=>obtain⟨a,h1,h2⟩:=Aax (κ:=κ) (al:=al) (v:=3) (v':=1) (f:=4) (f':=2) h3' h4' o h0;exact⟨2,a,h2',h1,h2⟩
 |1=>obtain⟨a,h1,h2⟩:=QI (κ:=κ) (m:=al.void) o h0;exact⟨3,a,h3',h1,h2⟩
 |2=>obtain⟨a,h1,h2⟩:=QI (κ:=κ) (m:=al.fork) o h0;exact⟨4,a,h4',h1,h2⟩
 |4=>cases h0
 |j+6=>cases h0
theorem AmO:aK prog 187=true:=aH
abbrev hdl(d c:Nat){fi:FuncId}{al:Bb}{del:Ab->Bool}{gl:CC}(a:aK prog fi=true)(hF:∀x,ba prog gl fi [.agg (aj x),.ptr [.ptr (B5 al) 0] 0] (bG (del x))){l l':Ba}(hl:l.length<=1000)(e:(l.filter λx=> !del x)=l')(hlt:[5,3,0,1,2].all (λi=>Nat.blt i c)=true:=by kernel_rfl):HP:=
 hfm d [5,3,0,1,2] 5 0 c [(5,BA l),(3,oBl 0),(0,oLi al 1 2),(1,X7 al.void),(2,X7 al.fork)] [.rsl 5 0 l.length,.clo (.func fi) [] [.ref 3 0]] [(5,BA l'),(3,oBl 0),(0,oLi al 1 2),(1,X7 al.void),(2,X7 al.fork)] (e▸AcM a hF hl) (AmN al l) (AkD al l l' c) AmO hlt
section
variable {gl:CC} {P:Bu}
theorem Aay(h:ag st.σ i=BA l):ve prog st (.rsl i 0 l.length) (aE aj l):=FD (s:=3) h aH (by grind [AQ.len,ac]) (ac.len l) (by grind [jB,AQ.imm,ac])
theorem AbE{al:Bb}{l:Ba}{sen:FM Int Int}{r:Int}{c:Nat}(hF:ba prog gl 215 [.ptr (B5 al) 0,aE aj l,FM.g JG iG sen] (iG r)):oJ prog gl 215 [.ref 0 0,.rsl 5 0 l.length,.mref 4] (σ6 al sen l) c (iG r) [] c:=
 PO aH hF (lR _) rfl λst h i x y h1 h2=>by
  match i with
  |0=>grind [Aav]
  |1=>cases h1;cases h2;exact Aay (h 5 _ rfl)
  |2=>cases h1;cases h2;exact Ow (h 4 _ rfl) λe _=>jB (mN _)
  |j+3=>cases h1
theorem Aaz{al:Bb}{c:Nat}(hF:iV prog gl 133 [.ptr (B5 al) 0] 41 (JU I al).length ((JU I al).flatMap aj)):oJ prog gl 133 [.ref 0 0] (σ3 al) c (.rsl c 0 (JU I al).length) [(c,BA (JU I al))] (c+1):=
 AdE aH hF (Zy _) rfl (by grind [Aav])
theorem AaA{l:Ba}{x:Ab}{i c:Nat}(hn:l.length<=1000):oJ prog gl 204 [.rsl i 0 l.length,.agg (aj x)] [(i,BA l)] c (bG (l.any λy=>decide (x=y))) [] c:=
 PO aH (Aii hn x) (lR _) rfl λst h j y z h1 h2=>by
  match j with
  |0=>grind [Aay]
  |1=>cases h1;cases h2;exact jB (aG 20 (.agg (aj x)) aH)
  |j+2=>cases h1
theorem AgA{al:Bb}(h:Np gl al.g I)(hn:al.row.length<=1000)(x y:Ab){c:Nat}:oJ prog gl 218 [.ref 0 0,.agg (aj x),.agg (aj y)] (σ3 al) c (bG (D5 I al.row x y)) [] c:=
 PO aH (AbB h hn x y) (lR _) rfl λst h i p q h1 h2=>by
  match i with
  |0=>grind [Aav]
  |1=>cases h1;cases h2;exact jB (aG 20 (.agg (aj x)) aH)
  |2=>cases h1;cases h2;exact jB (aG 20 (.agg (aj y)) aH)
  |j+3=>cases h1
end
abbrev oS(al:Bb)(sen:FM Int Int):List HP:=mLs al++[hc (AkC sen)]
abbrev ρ5:DH:=[(0,0),(1,1),(2,2),(3,3),(4,4)]
abbrev ρ6:DH:=ρ5++[(5,5)]
abbrev ρ7:DH:=ρ6++[(6,6)]
abbrev kd5:List (Nat×Rk):=[(5,.row)]
abbrev stM(al:Bb)(sen:FM Int Int)(s:Ba×FM Ab Bool):St:=(s0 115 fI [(1,.ref 3 0),(2,.mref 4),(7,.rsl 5 0 s.1.length)] (σ6 (wV al s.2) sen s.1) 6 3)
abbrev oMn(al:Bb)(sen:FM Int Int)(s:Ba×FM Ab Bool)(n:Nat)(h:n=s.1.length):List HP:=hc h::oS (wV al s.2) sen++[hc (ac.imm s.1)]
abbrev stV(al:Bb)(sen:FM Int Int)(l:Ba)(x:Ab)(v:FM Ab Bool)(k:Nat):St:=(s0 115 fI [(1,.ref 3 0),(2,.mref 4),(7,.rsl 5 0 l.length),(9,.ref 6 0),(85,aE aj al.row),(86,iG (ah al.row)),(87,iG (k:Int))] (σ6 (wV al v) sen l++[(6,Po x)]) 7 3)
theorem Aer{al:Bb}(h:Aen fI al I){s:Bn}(hS:ba prog fI 124 [.ptr (Ag al.g) 0,aE aj al.row] (aE cZ s))(hsn:s.length<=1000){v:FM Ab Bool}(hv0:Agy I al (O8 I.cards s)=some v):SA prog fI 132 [.ref 0 0] (σ3 al) 3 3 (.tup []) (σ3 (wV al v)):=by
 have hn:=h.n;have hcn:=h.c.n;have hcl:cU al.row=some al.row:=by unfold cU aT;rw[BB cq];rfl
 unfold Agy at hv0;refine dFP func132 ?_;refine XU (l:=I.cards) aa (λk:Nat=>(s0 115 fI [(1,.ref 3 0),(2,.mref 4),(17,aE bv I.cards),(18,iG (ah I.cards)),(19,iG (k:Int))] (σ5 al (TF (I.cards.take k))) 5 3)) 1110122 [hf 17 h.g.cards] (oS al (TF (I.cards.take 0))) (λB k x hx hz k5=>?_) (λB=>?_) [] ρ5 []
 .have hlt:=(cr hx).1;unfold TF at k5⊢;rw[JD,hx,Option.toList_some,Om,List.foldl_cons,List.foldl_nil] at k5;generalize (I.cards.take k).foldl (λ(m:FM Int Int) (c:DR)=>CA m c.Device (12:Int)) ⟨[],0⟩=m at k5⊢;exact jw [hr 20 (CB hx),AB 21 (bT.ixZ hz),AB 22 (bT.ptZ E2 hz),hmp 6 (Ai1 (σ:=(ob 5 147 (bv x))::σ5 al m) m rfl x.Device 12),hbb 26 (Xl (q:=k) aa)] (oS al (CA m x.Device 12)) k5 [] ρ5 []
 .rw[EZ];refine yl (Bs':=[]) [1,1,0,1] (J:=(s0 115 fI [(1,.ref 3 0),(2,.mref 4)] (σ5 al (TF I.cards)) 5 3)) [hr 20 (DS (s:=I.cards))] (oS al (TF I.cards)) ?_;refine XU (l:=s) aa (λk:Nat=>(s0 115 fI [(1,.ref 3 0),(2,.mref 4),(35,aE cZ s),(36,iG (ah s)),(37,iG (k:Int))] (σ5 al (Vc (TF I.cards) s k)) 5 3)) 11110122 [hf 35 hS] (oS al (TF I.cards)) (λt k x hx hz k5=>?_) (λt=>?_) [] ρ5 []
  .have hlt:=(cr hx).1;have e:Vc (TF I.cards) s (k+1)=CA (Vc (TF I.cards) s k) x (k:Int):=by show(match s[k]? with|some d=>_|none=>_)=_;rw[hx]
   rw[e] at k5;generalize Vc (TF I.cards) s k=m at k5⊢;exact jw [hr 38 (CB hx),AB 40 (rZ.ixZ hz),AB 41 (rZ.p1Z tZ hz),hmp 5 (Ai1 (σ:=σ5 al m) m rfl x (k:Int)),hbb 45 (Xl (q:=k) aa)] (oS al (CA m x (k:Int))) k5 [] ρ5 []
  .rw[show Vc (TF I.cards) s s.length=O8 I.cards s from rfl];generalize O8 I.cards s=sen at hv0⊢;refine yl (Bs':=[]) [1,1,1,0,1] (J:=(s0 115 fI [(1,.ref 3 0),(2,.mref 4)] (σ5 al sen) 5 3)) [hr 38 (DS (s:=s))] (oS al sen) ?_;refine pN (stM al sen) [1,1,1,1,1,2,2] hv0 [ho 50 [aE aj al.row] [] (jY fI hcl) (Zy _),hdl 52 6 (al:=al) (fi:=212) (del:=λx=> !JN (I.o x).Kind) aH (λx=>Aid h.g x) (l:=al.row) hn rfl] (oMn al sen (al.row.filter (λx=> !!JN (I.o x).Kind),al.void) _ rfl) (λA z C hs k5 w=>?_) [] ρ6 kd5;obtain⟨l,vd⟩:=z;unfold Agx at hs;dsimp only at hs;cases b0:decide (l.length<=1000) with
   |false=>rw[b0] at hs;cases hs
   |true=>
   rw[b0,ax] at hs;have hln:=DV b0;have h':Aen fI (wV al vd) I:=⟨h.g,h.c,h.o,h.n⟩;have hkl:=λx y=>aaE h.g x y;generalize e1:(l.filter λx=> !A7 (vd.get x))=l1 at hs;have hl1:l1.length<=1000:=by rw[<-e1];exact Nj (Oa _ _) hln
   rcases bC hs with⟨b1,hs⟩|⟨b1,hs⟩
   .obtain rfl:=Bp hs;obtain rfl:=w _ rfl;exact ZT [hdl 55 6 (gl:=fI) (al:=wV al vd) (fi:=214) (del:=λx=>A7 (vd.get x)) aH (λx=>Aaw x) (l:=l) hln e1,hr 58 b1] (mLs (wV al vd)) [(0,0),(1,1),(2,2)] []
   .obtain⟨i,ei,hs⟩:=bS hs;obtain⟨x,r,hs⟩:=bS hs;obtain⟨k,rfl⟩:∃k:Nat,i=(k:Int):=by
     unfold aS at r;split at r
     .exact⟨i.toNat,aa⟩
     .cases r
    have hkx:l1[k]?=some x:=by rw[<-au];exact r
    have f:=(cr hkx).1;rw[Fw] at hs;have hle:l1.length-1=(l1.eraseIdx k).length:=by rw[List.length_eraseIdx,BB f]
    have hF:=Agq h'.g h'.n hl1 ei;have hg:=AdC h';have hgn:(JU I (wV al vd)).length<=1000:=Nj XX.2 (by simpa using hn);cases c2:(JU I (wV al vd)).any (λz=>decide (x=z)) with
    |false=>rw[c2,Bf] at hs;obtain rfl:=Bp hs;have j:=AaA (gl:=fI) (l:=JU I (wV al vd)) (x:=x) (i:=7) (c:=8) hgn;rw[c2] at j;exact jw [hdl 55 6 (gl:=fI) (al:=wV al vd) (fi:=214) (del:=λx=>A7 (vd.get x)) aH (λx=>Aaw x) (l:=l) hln e1,hr 58 b1,hz 62 [0,1,2,3,4,5] (AbE (c:=6) hF),AB 65 (ac.ixrZ 5 r),AB 66 (ac.pt0Z aW r),hbb 70 (Xl (q:=k) aa),tN 71 [5] 7 [(5,BA l1)] [.rsl 5 0 l1.length,iG (k:Int),iG ((k+1:Nat):Int)] [(0,BA (l1.eraseIdx k))] (aaH fI hl1 f) ⟨⟨rfl,.inr ⟨rfl,ac.imm l1⟩⟩,trivial⟩ ⟨⟨rfl,.inr ⟨rfl,ac.imm _⟩⟩,trivial⟩,hz 73 [0,1,2] (Aaz (c:=7) hg),hz 75 [7] j,hmr 8 (AkB (σ:=[(1,X7 vd)]) (i:=1) vd rfl x)] (oMn al sen (l1.eraseIdx k,CA vd x true) _ hle) (k5 _ rfl) [] ρ6 kd5
    |true=>
     rw[c2,ax] at hs;obtain rfl:=Bp hs;have k5:=k5 _ rfl;have j:=AaA (gl:=fI) (l:=JU I (wV al vd)) (x:=x) (i:=7) (c:=8) hgn;rw[c2] at j;refine pN (λq:Nat=>stV al sen (l1.eraseIdx k) x ((al.row.take q).foldl (vFu I al.row (l1.eraseIdx k) x) vd) q) [1,1,1,1,1,2,2,2,1,1,1,1,1,1,1,2,2] (XT (n:=al.row.length) aa) [hdl 55 6 (gl:=fI) (al:=wV al vd) (fi:=214) (del:=λx=>A7 (vd.get x)) aH (λx=>Aaw x) (l:=l) hln e1,hr 58 b1,hz 62 [0,1,2,3,4,5] (AbE (c:=6) hF),AB 65 (ac.ixrZ 5 r),AB 66 (ac.pt0Z aW r),hbb 70 (Xl (q:=k) aa),tN 71 [5] 7 [(5,BA l1)] [.rsl 5 0 l1.length,iG (k:Int),iG ((k+1:Nat):Int)] [(0,BA (l1.eraseIdx k))] (aaH fI hl1 f) ⟨⟨rfl,.inr ⟨rfl,ac.imm l1⟩⟩,trivial⟩ ⟨⟨rfl,.inr ⟨rfl,ac.imm _⟩⟩,trivial⟩,hz 73 [0,1,2] (Aaz (c:=7) hg),hz 75 [7] j] (oMn al sen (l1.eraseIdx k,vd) _ hle) (λD q E hs b F=>?_) [] ρ7 kd5;have hl2:(l1.eraseIdx k).length<=1000:=aa;generalize l1.eraseIdx k=l2 at k5 b hl2⊢;unfold AcD at hs;split at hs
     .rename_i hlt;obtain rfl:=Bp hs;obtain⟨y,hy⟩:∃y,al.row[q]?=some y:=⟨_,EA hlt⟩;have a:=Bt hy;have b:=b _ rfl;rw[JD,hy,Option.toList_some,Om,List.foldl_cons,List.foldl_nil] at b;generalize (al.row.take q).foldl (vFu I al.row l2 x) vd=u at b⊢;have hk:=hkl x y;unfold vFu at b;cases kk:Jn I x y with
      |true=>rw[kk] at hk b;exact jw [hr 88 (CB hy),AB 89 (ac.ixZ a),AB 90 (ac.ptZ aW a),hf 97 hk,hmr 8 (AkB (σ:=[(1,X7 u)]) (i:=1) u rfl y),hbb 114 (Xl (q:=q) aa)] (oMn al sen (l2,CA u y true) _ rfl) b [] ρ7 kd5
      |false=>
       rw[kk,Bf] at b;rw[kk] at hk;have p:=AaA (gl:=fI) (l:=l2) (x:=y) (i:=5) (c:=8) hl2;cases cc:l2.any (λz=>decide (y=z)) with
       |false=>rw[cc] at p b;exact jw [hr 88 (CB hy),AB 89 (ac.ixZ a),AB 90 (ac.ptZ aW a),hf 97 hk,hz 101 [5] p,hbb 114 (Xl (q:=q) aa)] (oMn al sen (l2,u) _ rfl) b [] ρ7 kd5
       |true=>
        have hw:=AgA (al:=wV al u) (c:=8) h.g h.n x y;rw[show(wV al u).row=al.row from rfl] at hw;rw[cc,Bool.true_and] at b;rw[cc] at p;cases ww:D5 I al.row x y with
        |false=>rw[ww] at hw b;exact jw [hr 88 (CB hy),AB 89 (ac.ixZ a),AB 90 (ac.ptZ aW a),hf 97 hk,hz 101 [5] p,hz 106 [0,1,2] hw,hbb 114 (Xl (q:=q) aa)] (oMn al sen (l2,u) _ rfl) b [] ρ7 kd5
        |true=>rw[ww] at hw b;exact jw [hr 88 (CB hy),AB 89 (ac.ixZ a),AB 90 (ac.ptZ aW a),hf 97 hk,hz 101 [5] p,hz 106 [0,1,2] hw,hmr 8 (AkB (σ:=[(1,X7 u)]) (i:=1) u rfl y),hbb 114 (Xl (q:=q) aa)] (oMn al sen (l2,CA u y true) _ rfl) b [] ρ7 kd5
     .split at hs
      .rename_i he;subst he;unfold vAl at k5;rw[EZ];generalize al.row.foldl (vFu I al.row l2 x) vd=u at k5⊢;exact jw [hr 88 (DS (s:=al.row))] (oMn al sen (l2,u) _ rfl) k5 [] ρ6 kd5
      .cases hs
theorem AcO{K V:Type}:Nr (⟨[],0⟩:FM K V):=by grind [Nr,FxOk]
def ofV(vs:Ba):FM Ab Bool:=vs.foldl (λm x=>CA m x true) ⟨[],0⟩
theorem AkE{vs:Ba}:Nr (ofV vs):=by
 have key:∀(l:Ba) (m:FM Ab Bool),Nr m->Nr (l.foldl (λm x=>CA m x true) m):=by intro l;induction l<;>grind [Hj]
 exact key vs _ AcO
def Vm(gg:Az)(row vs:Ba):Bb:=⟨gg,row,ofV vs,ofV vs⟩
abbrev hsI(d i c:Nat){m:FM Ab Bool}(k:Ab):HP:=Zu d [i] c (Akg (P:=prog) (σ:=[(i,X7 m)]) (t:=tMI) (t':=tMI) (et:=4) (v0:=false) jt Ai2 aH aH (k:=k) (gk:= .agg (aj k)) rfl NP)
abbrev AmP(d i c:Nat){m:FM Ab Bool}(k:Ab)(h:FxOk m):HP:=hms d [i] c (Akh (σ:=[(i,some (M7 tMI ga bG (CA m k ((m.get k).getD false))))]) (i:=i) (t':=tMI) (kv:=ga) (vg:=bG) (m:=m) (k:=k) (v0:=(m.get k).getD false) h NP true)
section
variable {gl:CC}
theorem AmQ{vs:Ba}(hO:ba prog gl 22 [.ptr (Ag gg) 0,aE aj ids] (aE aj row))(hV:ba prog gl 211 [.ptr (Ag gg) 0,aE aj ids] (aE aj vs))(hn:vs.length<=1000):SA prog gl 131 [.ptr (Ag gg) 0,aE aj ids] [] 0 0 (.ref 0 0) (σ3 (Vm gg row vs)):=by
 refine dFP func131 ?_;refine XU (l:=vs) aa (λk:Nat=>(s0 40 gl [(5,.ref 0 0),(18,aE aj vs),(19,iG (ah vs)),(20,iG (k:Int))] (σ3 (Vm gg row (vs.take k))) 3 0)) 1110122 [hf 11 hO,hf 18 hV] (mLs (Vm gg row (vs.take 0))) (λB k x hx hz k5=>?_) (λB=>?_) [] [(0,2),(1,0),(2,1)] []
 .have hlt:=(cr hx).1;have e:Vm gg row (vs.take (k+1))=⟨gg,row,CA (ofV (vs.take k)) x true,CA (ofV (vs.take k)) x true⟩:=by unfold Vm ofV;rw[JD,hx,Option.toList_some,Om];rfl
  have hm:=AkE (vs:=vs.take k);rw[e] at k5;unfold Vm;generalize ofV (vs.take k)=m at k5 hm⊢;exact jw [hr 21 (CB hx),AB 22 (ac.ixZ hz),AB 23 (ac.ptZ aW hz),hsI 34 1 4 (m:=m) x,AmP 35 1 4 x hm.1,hsI 36 2 4 (m:=m) x,AmP 37 2 4 x hm.1,hbb 38 (Xl (q:=k) aa)] (mLs ⟨gg,row,CA m x true,CA m x true⟩) k5 [] [(0,0),(1,1),(2,2)] []
 .rw[EZ];exact ZT [hr 21 (DS (s:=vs))] (mLs (Vm gg row vs)) [(0,0),(1,1),(2,2)] []
end
def Aes(I:Gi)(al:Bb)(s:Bn):Option Ba:=(Agy I al (O8 I.cards s)).map λv=>JU I (wV al v)
theorem AmR{κ:Nat->Fq}{al:Bb}(h0:κ 0=some 0)(h1:κ 1=some 1)(h2:κ 2=some 2):abi κ (σ3 al) (σ3 al):=λk o h=>by
 match k with
 |0=>obtain⟨a,e⟩:=Aax (v:=1) (f:=2) h1 h2 o h;exact⟨0,a,h0,e⟩
 |1=>obtain⟨a,e⟩:=QI o h;exact⟨1,a,h1,e⟩
 |2=>obtain⟨a,e⟩:=QI o h;exact⟨2,a,h2,e⟩
 |j+3=>cases h
theorem in3{al:Bb}:InP (vi [0,1,2]) [0,1,2] (σ3 al) (σ3 al):=λk o h=>by
 match k with
 |0=>obtain⟨a,e⟩:=Aax (κ:=vi [0,1,2]) (v:=1) (f:=2) rfl rfl o h;exact⟨0,a,rfl,e⟩
 |1=>obtain⟨a,e⟩:=QI (κ:=vi [0,1,2]) o h;exact⟨1,a,rfl,e⟩
 |2=>obtain⟨a,e⟩:=QI (κ:=vi [0,1,2]) o h;exact⟨2,a,rfl,e⟩
 |j+3=>cases h
theorem Aet{I:Gi}{ids row vs:Ba}{s:Bn}{r:Ba}(h:Aen fI (Vm gg row vs) I)(hO:ba prog fI 22 [.ptr (Ag gg) 0,aE aj ids] (aE aj row))(hV:ba prog fI 211 [.ptr (Ag gg) 0,aE aj ids] (aE aj vs))(hn:vs.length<=1000)
  (hS:ba prog fI 124 [.ptr (Ag gg) 0,aE aj row] (aE cZ s)) (hsn:s.length<=1000) (hr:Aes I (Vm gg row vs) s=some r):iV prog fI 72 [.ptr (Ag gg) 0,aE aj ids] 41 r.length (r.flatMap aj):=by
 unfold Aes at hr
 cases hd:Agy I (Vm gg row vs) (O8 I.cards s) with
 |none=>rw[hd] at hr;cases hr
 |some v=>
  rw[hd] at hr
  obtain rfl:=Bp hr
  have h':Aen fI (wV (Vm gg row vs) v) I:=⟨h.g,h.c,h.o,h.n⟩
  have hg:=AdC h'
  have hof:=AmQ hO hV hn
  have a:=Aer h hS hsn hd
  generalize Vm gg row vs=al at*
  refine OW func72 ?_
  exact EI [hfm 8 [] 0 3 0 [] [.ptr (Ag gg) 0,aE aj ids] (σ3 al) hof Agm (AmR rfl rfl rfl),hfm 10 [0,1,2] 3 0 3 (σ3 al) [.ref 0 0] (σ3 (wV al v)) a in3 (AmR rfl rfl rfl),hz 12 [0,1,2] (Aaz (al:=wV al v) (c:=3) hg)] (ac.imm (JU I (wV al v)))
def R1(o:Bo):JQ:=bif o.Kind=1 then some o.By else bif o.Kind=2 then some o.Device else bif o.Kind=13 then some o.Device else none
def TG(I:Gi)(acc:Bn)(x:Ab):Bn:=match R1 (I.o x) with
 |none=>acc
 |some d=>bif acc.any (λy=>decide (d=y))then acc else acc++[d]
def N3(I:Gi)(row:Ba):Bn:=row.foldl (TG I) []
theorem AgC{I:Gi}{acc:Bn}:(TG I acc x).length<=acc.length+1:=by grind [TG]
theorem X9{I:Gi}:∀{l:Ba} {acc:Bn},(l.foldl (TG I) acc).length<=acc.length+l.length
 |[],acc=>Dk _
 |x::r,acc=>by have h1:=X9 (I:=I) (l:=r) (acc:=TG I acc x);grind [AgC]
section
variable {gl:CC} {gg:Az}
abbrev AgD(gg:Az)(ids:Ba):G:= .clo (.func 144) [] [.ptr [.ptr (Ag gg) 0] 0,.ptr [aE aj ids] 0]
theorem AdG(ids:Ba):ba prog gl 76 [.ptr (Ag gg) 0,aE aj ids] (AgD gg ids):=by refine Gh func76 ?_;refine pO [1,0] (s0 6 gl [(2,.ptr [.ptr (Ag gg) 0] 0),(3,.ptr [aE aj ids] 0)] [] 0 0) [] [hc (eB (gs:=[.ptr (Ag gg) 0]) aH),hc (aY (aG 20 (aE aj ids) aH) bf)] ?_;exact Ar [] []
noncomputable abbrev cSe:Code:=bq 111012 (ai Tryz.f124)
noncomputable abbrev Vn(st:LoopState):Option Ob:=some ⟨0,[],some (.loop st none 22 [(5,.ref 0 0)] (Dy cSe) (Dz cSe) (DA cSe))⟩
abbrev AmS(gg:Az)(row:Ba)(k:Nat):Fr:=[(0,.yld 1),(1,.ptr [.ptr (Ag gg) 0] 0),(11,aE aj row),(12,iG (ah row)),(13,iG (k:Int))]
noncomputable abbrev σCa(acc:Bn):aQ:=[(0,bxI (.rsl 2 0 acc.length)),(1,Vn .ready),(2,KY acc)]
noncomputable abbrev AkF(gl:CC)(gg:Az)(row:Ba)(k:Nat)(acc:Bn):St:=(s0 40 gl (AmS gg row k) (σCa acc) 3 2)
noncomputable abbrev ZP(gl:CC)(gg:Az)(row:Ba)(k:Nat)(acc:Bn)(x:Ab)(d:Int):St:=(s0 40 gl ((5,.ref 3 0)::(8,iG d)::AmS gg row k) (σCa acc++[(3,Po x)]) 4 2)
abbrev ρC3:DH:=[(0,0),(1,1),(2,2)]
abbrev ρC4:DH:=[(0,0),(1,1),(2,2),(3,3)]
theorem AgE{l:Bn}{d:Int}{i c:Nat}(hn:l.length<=1000000):oJ prog gl 31 [.rsl i 0 l.length,iG d] [(i,KY l)] c (bG (l.any λy=>decide (d=y))) [] c:=
 PO aH (DF gl (Tk aa d)) (lR _) rfl λst h j y z h1 h2=>by
  match j with
  |0=>cases h1;cases h2;have ho:ag st.σ i=KY l:=h i _ (by rw[A9,BB rfl]);exact FD (s:=1) ho aH (by grind [AQ.len,rZ]) (rZ.len l) (by grind [jB,AQ.imm,rZ])
  |1=>grind [jB,mN]
  |j+2=>cases h1
theorem Ya{I:Gi}(h:Np gl gg I){ids row:Ba}(hO:ba prog gl 22 [.ptr (Ag gg) 0,aE aj ids] (aE aj row))(hn:row.length<=1000):ba prog gl 124 [.ptr (Ag gg) 0,aE aj ids] (aE cZ (N3 I row)):=by
 refine Gh func124 ?_;refine YR [1,1,0,1,2] (s0 22 gl [(5,.ref 0 0),(10,AgD gg ids)] [(0,bxI (.lit (.slice none 0 0)))] 1 0) [hf 10 (AdG (gl:=gl) (gg:=gg) ids)] ?_;refine Xt (fst:=[]) (cap:=[.ptr [.ptr (Ag gg) 0] 0,.ptr [aE aj ids] 0]) Tryz.f144 func144 ?_;refine XU (l:=row) aa (λk:Nat=>AkF gl gg row k ((row.take k).foldl (TG I) [])) [1,2,2] [hf 11 hO] [hc (rZ.imm [])] (λB k x hx e k5=>?_) (λB=>?_) (vs:=[3]) (ρ:=ρC3) (kd:=[(2,.row)])
 .have hlt:=(cr hx).1;have hal:=X9 (I:=I) (l:=row.take k) (acc:=[]);rw[Lv,List.length_nil] at hal;rw[JD,hx,Option.toList_some,Om,List.foldl_cons,List.foldl_nil] at k5;generalize (row.take k).foldl (TG I) []=acc at k5 hal⊢;have ho:=h.op x;have hb2:k<1000000:=aa;have fin:∀d,B (AkF gl gg row (k+1) (bif acc.any (λy=>decide (d=y))then acc else acc++[d]))->Gp prog Tryz.f144 (sI prog (s0 22 gl [(5,.ref 0 0),(10,AgD gg ids)] [(0,bxI (.lit (.slice none 0 0)))] 1 0) (dz prog (bE [1,1,0,1,2] (ai Tryz.f124) [] []) (tH prog Tryz.f124 (aE cZ (N3 I row))))) [B] false [1,2,2,1,1,0,2,1,1,1,1,0] (ZP gl gg row k acc x d):=λd hB=>by
   have f:=AgE (gl:=gl) (l:=acc) (d:=d) (i:=2) (c:=4) aa;cases cc:acc.any (λy=>decide (d=y)) with
   |true=>
    rw[cc] at hB f;refine Xw (i:=1) (j:=3) (n:=22) (t:=0) (t2:=0) (pe:=none) (fr:=[(5,.ref 0 0)]) (ps:=Dy cSe) (a:=Dz cSe) (b:=DA cSe) (s1:=(s0 40 gl ([(36,iG d),(35,.agg (aj x)),(34,.yld 1)]++(ZP gl gg row k acc x d).fr) ((ZP gl gg row k acc x d).σ) 4 2))
     (s3:=(s0 40 gl ([(38,bG false),(37,bG true),(36,iG d),(35,.agg (aj x)),(34,.yld 1)]++(ZP gl gg row k acc x d).fr) ((1,Vn .ready)::[(0,bxI (.rsl 2 0 acc.length)),(1,Vn .busy),(2,KY acc)]) 4 2))
     [(0,bxI (.rsl 2 0 acc.length)),(1,Vn .busy),(2,KY acc)] 4 (.loop .ready none 22 [(5,.ref 0 0)] (Dy cSe) (Dz cSe) (DA cSe)) [] [] ?_ ?_
    .refine C9 .normal ⟨22,gl,[(5,.ref 0 0),(7,iG d)],[(0,bxI (.rsl 2 0 acc.length)),(1,Vn .ready),(2,KY acc)],4,4,true⟩ [] [hc (rfl:acc.length=acc.length),hc (rZ.imm acc)] (Xv Tryz.f124 ?_ rfl) (ρ:=ρC4);exact C9 .normal ⟨22,gl,[],[(0,bxI (.rsl 2 0 acc.length)),(1,Vn .busy),(2,KY acc)],4,4,true⟩ [hz 15 [2] f] [hc (rfl:acc.length=acc.length),hc (rZ.imm acc)] (by grind [jy]) (ρ:=ρC4) (kd:=[(2,.row)])
    .exact jw [hbb 39 (Xl (q:=k) aa)] [hc (rfl:acc.length=acc.length),hc (rZ.imm acc)] hB [] ρC3 [(2,.row)]
   |false=>
    rw[cc] at hB f;refine Xw (i:=1) (j:=3) (n:=22) (t:=0) (t2:=0) (pe:=none) (fr:=[(5,.ref 0 0)]) (ps:=Dy cSe) (a:=Dz cSe) (b:=DA cSe) (s1:=(s0 40 gl ([(36,iG d),(35,.agg (aj x)),(34,.yld 1)]++(ZP gl gg row k acc x d).fr) ((ZP gl gg row k acc x d).σ) 4 2))
     (s3:=(s0 40 gl ([(38,bG false),(37,bG true),(36,iG d),(35,.agg (aj x)),(34,.yld 1)]++(ZP gl gg row k acc x d).fr) ((1,Vn .ready)::[(0,bxI (.rsl 4 0 (acc++[d]).length)),(1,Vn .busy),(4,KY (acc++[d]))]) 5 2))
     [(0,bxI (.rsl 4 0 (acc++[d]).length)),(1,Vn .busy),(4,KY (acc++[d]))] 5 (.loop .ready none 22 [(5,.ref 0 0)] (Dy cSe) (Dz cSe) (DA cSe)) [] [] ?_ ?_
    .refine C9 .normal ⟨22,gl,[(5,.ref 0 0),(7,iG d)],[(0,bxI (.rsl 2 0 acc.length)),(1,Vn .ready),(2,KY acc)],4,4,true⟩ [] [hc (rfl:acc.length=acc.length),hc (rZ.imm acc)] (Xv Tryz.f124 ?_ rfl) (ρ:=ρC4);exact C9 .normal ⟨22,gl,[],[(0,bxI (.rsl 4 0 (acc++[d]).length)),(1,Vn .busy),(4,KY (acc++[d]))],5,4,true⟩ [hz 15 [2] f,Tn 20 rZ 8 acc d aa] [hc (el (acc++[d])),hc (rZ.imm (acc++[d]))] (by grind [jy]) (ρ:=rI 4++[(4,5)]) (kd:=[(4,.row)])
    .exact jw [hbb 39 (Xl (q:=k) aa)] [hc (el (acc++[d])),hc (rZ.imm (acc++[d]))] hB [] [(0,0),(1,1),(2,4)] [(2,.row)]
  unfold TG at k5;generalize I.o x=o at ho k5;unfold R1 at k5;cases b1:decide (o.Kind=1) with
  |true=>rw[b1] at k5;exact pO 1122110211110 (ZP gl gg row k acc x o.By) [hr 14 (CB hx),AB 15 (ac.ixZ e),AB 16 (ac.ptZ aW e),hf 20 ho,hr 26 b1] [hc (rfl:acc.length=acc.length),hc (rZ.imm acc)] (fin _ k5) [] ρC4 [(2,.row)]
  |false=>
   rw[b1,Bf] at k5;cases b2:decide (o.Kind=2) with
   |true=>rw[b2] at k5;exact pO 1122110211110 (ZP gl gg row k acc x o.Device) [hr 14 (CB hx),AB 15 (ac.ixZ e),AB 16 (ac.ptZ aW e),hf 20 ho,hr 26 b1,hr 30 b2] [hc (rfl:acc.length=acc.length),hc (rZ.imm acc)] (fin _ k5) [] ρC4 [(2,.row)]
   |false=>
    rw[b2,Bf] at k5;cases b3:decide (o.Kind=13) with
    |true=>rw[b3] at k5;exact pO 1122110211110 (ZP gl gg row k acc x o.Device) [hr 14 (CB hx),AB 15 (ac.ixZ e),AB 16 (ac.ptZ aW e),hf 20 ho,hr 26 b1,hr 30 b2,hr 31 b3] [hc (rfl:acc.length=acc.length),hc (rZ.imm acc)] (fin _ k5) [] ρC4 [(2,.row)]
    |false=>rw[b3] at k5;exact jw [hr 14 (CB hx),AB 15 (ac.ixZ e),AB 16 (ac.ptZ aW e),hf 20 ho,hr 26 b1,hr 30 b2,hr 31 b3,hbb 39 (Xl (q:=k) aa)] [hc (rfl:acc.length=acc.length),hc (rZ.imm acc)] k5 [] ρC3 [(2,.row)]
 .rw[EZ];show Gp _ _ _ _ _ _ (AkF gl gg row row.length (N3 I row));generalize N3 I row=acc;refine C9 .normal (s0 40 gl [] [(0,bxI (.rsl 2 0 acc.length)),(1,Vn .ready),(2,KY acc)] 3 2) [hr 14 (DS (s:=row))] [hc (rfl:acc.length=acc.length),hc (rZ.imm acc)] (Xu ?_ rfl) (kd:=[(2,.row)]);exact Ar [] [hc (rZ.al acc)]
end
abbrev CmV(gl:CC)(fi:FuncId)(fa fc:Bk)(cmp:Ab->Ab->Int):Prop:=Uk prog gl fi fa fc (λp:Ab×Ab=>[.agg (aj p.1),.agg (aj p.2)]) (λz:Int=>iG z) (λp=>some (cmp p.1 p.2))
abbrev Sx(fi:FuncId)(fa fc:Bk):G:= .clo (.func fi) fa fc
theorem imP(p:Ab×Ab):∀g∈([.agg (aj p.1),.agg (aj p.2)]:Bk),bB g:=aY (aG 20 (.agg (aj p.1)) aH) (aY (aG 20 (.agg (aj p.2)) aH) bf)
abbrev hcp(d c:Nat){gl:CC}{fi:FuncId}{fa fc:Bk}{cmp:Ab->Ab->Int}(hv:CmV gl fi fa fc cmp)(x y:Ab):HP:=hz d [] (hv.cs (c:=c) (x:=(x,y)) rfl (imP (x,y)))
def AaB{α:Type}(cmp:α->α->Int)(a:Int)(s:List α×Int):Option ((List α×Int)⊕List α):=
 bif a<s.2 then(aS s.1 s.2).bind λx=>(aS s.1 (wI (s.2-1))).bind λy=>bif cmp x y<0 then(ji s.1 s.2 y).bind λb=>(ji b (wI (s.2-1)) x).bind λc=>some (.inl (c,wI (s.2-1)))else some (.inr s.1)else some (.inr s.1)
def AaC{α:Type}(cmp:α->α->Int)(a b:Int)(s:List α×Int):Option ((List α×Int)⊕List α):=
 bif s.2<b then(AH (AaB cmp a) (s.1,s.2)).bind λl=>some (.inl (l,wI (s.2+1)))else some (.inr s.1)
def inI{α:Type}(cmp:α->α->Int)(a b:Int)(l:List α):Option (List α):=AH (AaC cmp a b) (l,wI (a+1))
theorem Ai6{c d:Ba}{i j:Int}{a b:Ab}(h1:ji l i b=some c)(h2:ji c j a=some d):fh prog 26 (.rsl 0 0 l.length) j=some (.ref 0 (0+j.toNat*3)):=by rw[hZ h1];exact ac.ixsZ 0 h2
section
variable {gl:CC} {fi:FuncId} {fa fc:Bk} {cmp:Ab->Ab->Int} (hv:CmV gl fi fa fc cmp)
include hv
theorem AdH{a b:Int}{r:Ba}(h:inI cmp a b l=some r):jg prog gl 189 [.rsl 0 0 l.length,iG a,iG b,Sx fi fa fc] [(0,BA l)] 1 (.tup []) [(0,BA r)] 1:=by
 unfold inI at h;refine pP func189 ?_;refine pN (λs:Ba×Int=>(s0 53 gl [(0,.rsl 0 0 s.1.length),(1,iG a),(2,iG b),(3,Sx fi fa fc),(8,iG s.2)] [(0,BA s.1)] 1 1)) 1122 h [] [hc (el l),hc hv.im,hc (ac.imm l)] (λB s w hs k5 g=>?_);obtain⟨l1,i⟩:=s;unfold AaC at hs;dsimp only at hs;rcases bC hs with⟨b1,hs⟩|⟨b1,hs⟩
 .obtain⟨l2,e2,hs⟩:=bS hs;obtain rfl:=Bp hs;refine Ix 11221021 (s0 53 gl [(0,.rsl 0 0 l2.length),(1,iG a),(2,iG b),(3,Sx fi fa fc),(8,iG i)] [(0,BA l2)] 1 1) ?_ λkk=>?_
  .exact jw [] [hc (el l2),hc hv.im,hc (ac.imm l2)] (k5 _ rfl)
  refine pN (λs:Ba×Int=>(s0 53 gl [(0,.rsl 0 0 s.1.length),(1,iG a),(2,iG b),(3,Sx fi fa fc),(8,iG i),(9,iG s.2)] [(0,BA s.1)] 1 1)) 1122102122 e2 [hr 14 b1] [hc (el l1),hc hv.im,hc (ac.imm l1)] (λn z v hz k e=>?_);obtain⟨l3,j⟩:=z;unfold AaB at hz;dsimp only at hz;rcases bC hz with⟨b2,hz⟩|⟨b2,hz⟩
  .obtain⟨x,c,hz⟩:=bS hz;obtain⟨y,d,hz⟩:=bS hz;rcases bC hz with⟨b3,hz⟩|⟨b3,hz⟩
   .obtain⟨m,e1,hz⟩:=bS hz;obtain⟨f,e3,hz⟩:=bS hz;obtain rfl:=Bp hz;exact jw [hr 20 b2,AB 25 (ac.ixrZ 0 c),AB 26 (ac.pt0Z aW c),AB 30 (ac.ixrZ 0 d),AB 31 (ac.pt0Z aW d),hcp 32 1 hv x y,hr 33 b3,AB 45 (ac.ixrZ 0 d),AB 46 (ac.pt0Z aW d),AB 49 (ac.ixrZ 0 c),AB 50 (ac.pt0Z aW c),AB 51 (ac.ixsZ 0 e1),hw 51 (m.flatMap aj) (ac.putZ e1),AB 52 (Ai6 e1 e3),hw 52 (f.flatMap aj) (ac.putZ e3)] [hc ((hZ e1).trans (hZ e3)),hc hv.im,hc (ac.imm f)] (k _ rfl)
   .obtain rfl:=Bp hz;obtain rfl:=e _ rfl;exact yl 11221021 [hr 20 b2,AB 25 (ac.ixrZ 0 c),AB 26 (ac.pt0Z aW c),AB 30 (ac.ixrZ 0 d),AB 31 (ac.pt0Z aW d),hcp 32 1 hv x y,hr 33 b3] [hc (el l3),hc hv.im,hc (ac.imm l3)] kk
  .obtain rfl:=Bp hz;obtain rfl:=e _ rfl;exact yl 11221021 [hr 20 b2] [hc (el l3),hc hv.im,hc (ac.imm l3)] kk
 .obtain rfl:=Bp hs;obtain rfl:=g _ rfl;exact mt .normal (s0 53 gl [] [(0,BA l1)] 1 1) [] [hr 14 b1] [hc (ac.imm l1)] (kd:=[(0,.row)])
omit hv
def swZ{α:Type}(l:List α)(i j:Nat):Option (List α):=(l[i]?).bind λx=>(l[j]?).bind λy=>some ((l.set i y).set j x)
theorem I1{l r:List α}{i j:Nat}(h:swZ l i j=some r):∃x y,l[i]?=some x/\l[j]?=some y/\r=(l.set i y).set j x:=by grind [swZ]
theorem stZ{l:List α}{i:Nat}{y x:α}(h:l[i]?=some y):ji l (i:Int) x=some (l.set i x):=by grind [ji]
theorem Ail{l:List α}{i j:Nat}{y x z w:α}(h:l[j]?=some y):ji (l.set i z) (j:Int) x=some ((l.set i z).set j x):=by grind [ji]
theorem Ux:l.length=((l.set i y).set j x).length:=by rw[List.length_set,List.length_set]
abbrev hsw(a b c d:Nat){l w:Ba}{i j:Nat}{x y:Ab}(hx:l[i]?=some x)(hy:l[j]?=some y)(e:w=(l.set i y).set j x):List HP:=[AB a (ac.ixrZ 0 (Bt hy)),AB (a+1) (ac.pt0Z aW (Bt hy)),AB b (ac.ixrZ 0 (Bt hx)),AB (b+1) (ac.pt0Z aW (Bt hx)),AB c (ac.ixsZ 0 (stZ (x:=y) hx)),hw c ((l.set i y).flatMap aj) (ac.putZ (stZ (x:=y) hx)),AB d (Ai6 (stZ (x:=y) hx) (Ail (w:=x) (x:=x) (z:=y) (i:=i) hy)),hw d (w.flatMap aj) (e▸ac.putZ (Ail (w:=x) (x:=x) (z:=y) (i:=i) hy))]
theorem JV{c:Bool}{x:Option α}{v:α}(h:(bif c then x else none)=some v):c=true/\x=some v:=by grind
theorem AgF(h:Nat.blt 0 j=true):∃k,j=k+1:=by simp_all
theorem AgG{v:Nat⊕α}(h:(bif Nat.blt 0 j then some (.inl (j-1))else none)=some v):∃k,j=k+1/\v= .inl k:=by
 cases j with
 |zero=>cases h
 |succ k=>grind
def scU(cmp:Ab->Ab->Int)(l:Ba)(a j i:Nat):Option (Nat⊕Nat):=bif (i:Int)<=(j:Int)then(l[i]?).bind λx=>(l[a]?).bind λy=>bif cmp x y<0 then some (.inl (i+1))else some (.inr i)else some (.inr i)
def scD(cmp:Ab->Ab->Int)(l:Ba)(a i j:Nat):Option (Nat⊕Nat):=bif (i:Int)<=(j:Int)then(l[j]?).bind λx=>(l[a]?).bind λy=>bif cmp x y<0 then some (.inr j)else bif Nat.blt 0 j then some (.inl (j-1))else none else some (.inr j)
def paT(cmp:Ab->Ab->Int)(a:Nat)(s:Ba×Nat×Nat):Option ((Ba×Nat×Nat)⊕(Ba×Nat)):=
 bif s.1.length<=1000 then(AH (scU cmp s.1 a s.2.2) s.2.1).bind λi=>(AH (scD cmp s.1 a i) s.2.2).bind λj=>bif (j:Int)<(i:Int)then some (.inr (s.1,j))else bif Nat.blt 0 j then(swZ s.1 i j).bind λl=>some (.inl (l,i+1,j-1))else none else none
def paS(cmp:Ab->Ab->Int)(a b p:Nat)(l:Ba):Option (Nat×Bool×Ba):=
 (
  swZ l a p).bind λl0=>(AH (scU cmp l0 a (b-1)) (a+1)).bind λi=>(AH (scD cmp l0 a i) (b-1)).bind λj=>
  bif (j:Int)<(i:Int)then(swZ l0 j a).bind λr=>some (j,true,r)else bif Nat.blt 0 j then(swZ l0 i j).bind λl1=>(AH (paT cmp a) (l1,i+1,j-1)).bind λs=>(swZ s.1 s.2 a).bind λr=>some (s.2,false,r)else none
include hv
abbrev AaE(gl:CC)(fi:FuncId)(fa fc:Bk)(a b:Nat)(l:Ba)(i j:Nat):St:=(s0 178 gl [(0,.rsl 0 0 l.length),(1,iG (a:Int)),(2,iG (b:Int)),(4,Sx fi fa fc),(12,iG (i:Int)),(13,iG (j:Int))] [(0,BA l)] 1 1)
theorem Ww{a b p:Nat}{r:Ba}{f:Bool}(hl:l.length<=1000)(ha:a<1000)(hb1:1<=b)(hb2:b<=1000)(h:paS cmp a b p l=some (m,f,r)):jg prog gl 196 [.rsl 0 0 l.length,iG (a:Int),iG (b:Int),iG (p:Int),Sx fi fa fc] [(0,BA l)] 1 (.tup [iG (m:Int),bG f]) [(0,BA r)] 1:=by
 obtain⟨b,rfl⟩:∃q,b=q+1:=⟨b-1,aa⟩;unfold paS at h;rw[Nat.add_sub_cancel] at h;obtain⟨l0,e0,h⟩:=bS h;obtain⟨i,ei,h⟩:=bS h;obtain⟨j,ej,h⟩:=bS h;obtain⟨D,E,h1,h2,e0⟩:=I1 e0;have hl0:l.length=l0.length:=by rw[e0];exact Ux
 refine pP func196 ?_;refine Ix 11110 (AaE gl fi fa fc a (b+1) l0 i b) ?_ λkk=>?_;rotate_left
 .have hl2:l0.length<=1000:=aa;refine pN (λq:Nat=>AaE gl fi fa fc a (b+1) l0 q b) [1,1,1,0,2,2] ei (hsw 20 24 26 27 h1 h2 e0++[hbb 29 (Xl (q:=a) aa),hbb 31 (dec (q:=b) aa)]) [hc hl0,hc hv.im,hc (ac.imm l0)] (λu q v hz n g=>?_);unfold scU at hz;rcases bC hz with⟨b2,hz⟩|⟨b2,hz⟩
  .obtain⟨x,c,hz⟩:=bS hz;obtain⟨y,d,hz⟩:=bS hz;have hq:=(cr c).1;rcases bC hz with⟨b3,hz⟩|⟨b3,hz⟩
   .obtain rfl:=Bp hz;exact jw [hr 34 b2,AB 39 (ac.ixrZ 0 (Bt c)),AB 40 (ac.pt0Z aW (Bt c)),AB 43 (ac.ixrZ 0 (Bt d)),AB 44 (ac.pt0Z aW (Bt d)),hcp 45 1 hv x y,hr 46 b3,hbb 49 (Xl (q:=q) aa)] [hc (rfl:l0.length=l0.length),hc hv.im,hc (ac.imm l0)] (n _ rfl)
   .obtain rfl:=Bp hz;obtain rfl:=g _ rfl;exact yl 11110 [hr 34 b2,AB 39 (ac.ixrZ 0 (Bt c)),AB 40 (ac.pt0Z aW (Bt c)),AB 43 (ac.ixrZ 0 (Bt d)),AB 44 (ac.pt0Z aW (Bt d)),hcp 45 1 hv x y,hr 46 b3] [hc (rfl:l0.length=l0.length),hc hv.im,hc (ac.imm l0)] kk
  .obtain rfl:=Bp hz;obtain rfl:=g _ rfl;exact yl 11110 [hr 34 b2] [hc (rfl:l0.length=l0.length),hc hv.im,hc (ac.imm l0)] kk
 have hl0:l0.length<=1000:=aa;clear e0 h1 h2 hl ei;refine Ix 111110 (AaE gl fi fa fc a (b+1) l0 i j) ?_ λkk=>?_;rotate_left
 .skip;refine pN (λq:Nat=>AaE gl fi fa fc a (b+1) l0 i q) [1,1,1,1,0,2,2] ej [] [hc (rfl:l0.length=l0.length),hc hv.im,hc (ac.imm l0)] (λu q v hz n g=>?_);unfold scD at hz;rcases bC hz with⟨b2,hz⟩|⟨b2,hz⟩
  .obtain⟨x,c,hz⟩:=bS hz;obtain⟨y,d,hz⟩:=bS hz;have hq:=(cr c).1;rcases bC hz with⟨b3,hz⟩|⟨b3,hz⟩
   .obtain rfl:=Bp hz;obtain rfl:=g _ rfl;exact yl 111110 [hr 52 b2,AB 57 (ac.ixrZ 0 (Bt c)),AB 58 (ac.pt0Z aW (Bt c)),AB 61 (ac.ixrZ 0 (Bt d)),AB 62 (ac.pt0Z aW (Bt d)),hcp 63 1 hv x y,hr 64 b3] [hc (rfl:l0.length=l0.length),hc hv.im,hc (ac.imm l0)] kk
   .obtain⟨k,rfl,rfl⟩:=AgG hz;exact jw [hr 52 b2,AB 57 (ac.ixrZ 0 (Bt c)),AB 58 (ac.pt0Z aW (Bt c)),AB 61 (ac.ixrZ 0 (Bt d)),AB 62 (ac.pt0Z aW (Bt d)),hcp 63 1 hv x y,hr 64 b3,hbb 68 (dec (q:=k) aa)] [hc (rfl:l0.length=l0.length),hc hv.im,hc (ac.imm l0)] (n _ rfl)
  .obtain rfl:=Bp hz;obtain rfl:=g _ rfl;exact yl 111110 [hr 52 b2] [hc (rfl:l0.length=l0.length),hc hv.im,hc (ac.imm l0)] kk
 clear ej;rcases bC h with⟨b1,h⟩|⟨b1,h⟩
 .obtain⟨r',A,h⟩:=bS h;simp only[Fe,Ft] at h;obtain⟨rfl,rfl,rfl⟩:=h;obtain⟨x,y,hx,hy,e⟩:=I1 A;exact mt .ret (s0 178 gl [(10,iG (j:Int)),(11,bG true)] [(0,BA r')] 1 1) [iG (j:Int),bG true] (hr 71 b1::hsw 78 82 84 85 hx hy e) [hc (ac.imm r')] (kd:=[(0,.row)])
 obtain⟨hj,h⟩:=JV h;obtain⟨j,rfl⟩:=AgF hj;rw[Nat.add_sub_cancel] at h;obtain⟨l1,e1,h⟩:=bS h;obtain⟨s,es,h⟩:=bS h;obtain⟨r',A,h⟩:=bS h;simp only[Fe,Ft] at h;obtain⟨rfl,rfl,rfl⟩:=h;obtain⟨x,y,hx,hy,e1⟩:=I1 e1;have hli:=(cr hx).1;have o:=(cr hy).1;have hl1:l0.length=l1.length:=by rw[e1];exact Ux
 refine pN (λz:Ba×Nat×Nat=>AaE gl fi fa fc a (b+1) z.1 z.2.1 z.2.2) [1,1,1,1,1,1,1,1,1,0,2,2] es (hr 71 b1::hsw 93 97 99 100 hx hy e1++[hbb 102 (Xl (q:=i) aa),hbb 104 (dec (q:=j) aa)]) [hc hl1,hc hv.im,hc (ac.imm l1)] (λB z w hs k5 C=>?_);clear hx hy e1 hli o hl1 b1 hl0;obtain⟨l1,i,j⟩:=z;unfold paT at hs;dsimp only at hs;cases b0:decide (l1.length<=1000) with
 |false=>rw[b0] at hs;cases hs
 |true=>
 rw[b0,ax] at hs;have hl1:=DV b0;obtain⟨i1,ei,hs⟩:=bS hs;obtain⟨t,ej,hs⟩:=bS hs;refine Ix 111111111102220 (AaE gl fi fa fc a (b+1) l1 i1 j) ?_ λkk=>?_;rotate_left
 .skip;refine pN (λq:Nat=>AaE gl fi fa fc a (b+1) l1 q j) [1,1,1,1,1,1,1,1,1,0,2,2,2,0,2,2] ei [] [hc (rfl:l1.length=l1.length),hc hv.im,hc (ac.imm l1)] (λu q v hz n g=>?_);unfold scU at hz;rcases bC hz with⟨b2,hz⟩|⟨b2,hz⟩
  .obtain⟨x,c,hz⟩:=bS hz;obtain⟨y,d,hz⟩:=bS hz;have hq:=(cr c).1;rcases bC hz with⟨b3,hz⟩|⟨b3,hz⟩
   .obtain rfl:=Bp hz;exact jw [hr 107 b2,AB 112 (ac.ixrZ 0 (Bt c)),AB 113 (ac.pt0Z aW (Bt c)),AB 116 (ac.ixrZ 0 (Bt d)),AB 117 (ac.pt0Z aW (Bt d)),hcp 118 1 hv x y,hr 119 b3,hbb 122 (Xl (q:=q) aa)] [hc (rfl:l1.length=l1.length),hc hv.im,hc (ac.imm l1)] (n _ rfl)
   .obtain rfl:=Bp hz;obtain rfl:=g _ rfl;exact yl 111111111102220 [hr 107 b2,AB 112 (ac.ixrZ 0 (Bt c)),AB 113 (ac.pt0Z aW (Bt c)),AB 116 (ac.ixrZ 0 (Bt d)),AB 117 (ac.pt0Z aW (Bt d)),hcp 118 1 hv x y,hr 119 b3] [hc (rfl:l1.length=l1.length),hc hv.im,hc (ac.imm l1)] kk
  .obtain rfl:=Bp hz;obtain rfl:=g _ rfl;exact yl 111111111102220 [hr 107 b2] [hc (rfl:l1.length=l1.length),hc hv.im,hc (ac.imm l1)] kk
 clear ei;refine Ix 1111111111022210 (AaE gl fi fa fc a (b+1) l1 i1 t) ?_ λkk=>?_;rotate_left
 .skip;refine pN (λq:Nat=>AaE gl fi fa fc a (b+1) l1 i1 q) [1,1,1,1,1,1,1,1,1,0,2,2,2,1,0,2,2] ej [] [hc (rfl:l1.length=l1.length),hc hv.im,hc (ac.imm l1)] (λu q v hz n g=>?_);unfold scD at hz;rcases bC hz with⟨b2,hz⟩|⟨b2,hz⟩
  .obtain⟨x,c,hz⟩:=bS hz;obtain⟨y,d,hz⟩:=bS hz;have hq:=(cr c).1;rcases bC hz with⟨b3,hz⟩|⟨b3,hz⟩
   .obtain rfl:=Bp hz;obtain rfl:=g _ rfl;exact yl 1111111111022210 [hr 125 b2,AB 130 (ac.ixrZ 0 (Bt c)),AB 131 (ac.pt0Z aW (Bt c)),AB 134 (ac.ixrZ 0 (Bt d)),AB 135 (ac.pt0Z aW (Bt d)),hcp 136 1 hv x y,hr 137 b3] [hc (rfl:l1.length=l1.length),hc hv.im,hc (ac.imm l1)] kk
   .obtain⟨k,rfl,rfl⟩:=AgG hz;exact jw [hr 125 b2,AB 130 (ac.ixrZ 0 (Bt c)),AB 131 (ac.pt0Z aW (Bt c)),AB 134 (ac.ixrZ 0 (Bt d)),AB 135 (ac.pt0Z aW (Bt d)),hcp 136 1 hv x y,hr 137 b3,hbb 141 (dec (q:=k) aa)] [hc (rfl:l1.length=l1.length),hc hv.im,hc (ac.imm l1)] (n _ rfl)
  .obtain rfl:=Bp hz;obtain rfl:=g _ rfl;exact yl 1111111111022210 [hr 125 b2] [hc (rfl:l1.length=l1.length),hc hv.im,hc (ac.imm l1)] kk
 clear ej;rcases bC hs with⟨b1,hs⟩|⟨b1,hs⟩
 .obtain rfl:=Bp hs;obtain rfl:=C _ rfl;obtain⟨x,y,hx,hy,e⟩:=I1 A;exact mt .ret (s0 178 gl [(10,iG (t:Int)),(11,bG false)] [(0,BA r')] 1 1) [iG (t:Int),bG false] (hr 144 b1::hsw 169 173 175 176 hx hy e) [hc (ac.imm r')] (kd:=[(0,.row)])
 .obtain⟨hj,hs⟩:=JV hs;obtain⟨t,rfl⟩:=AgF hj;rw[Nat.add_sub_cancel] at hs;obtain⟨l2,e2,hs⟩:=bS hs;obtain rfl:=Bp hs;obtain⟨x,y,hx,hy,e2⟩:=I1 e2;have hli:=(cr hx).1;have o:=(cr hy).1;have hl2:l1.length=l2.length:=by rw[e2];exact Ux
  exact jw (hr 144 b1::hsw 151 155 157 158 hx hy e2++[hbb 160 (Xl (q:=i1) aa),hbb 162 (dec (q:=t) aa)]) [hc hl2,hc hv.im,hc (ac.imm l2)] (k5 _ rfl)
end
def RnF(l:Bk):Prop:=∀κ,l.map (qg κ 19)=l
abbrev oN1(s:Nat):Option Ob:=some ⟨3,[iG (s:Int)],none⟩
def o2S(cmp:Ab->Ab->Int)(l:Ba)(a b s:Nat):Option (Nat×Nat×Nat):=(l[b]?).bind λy=>(l[a]?).bind λx=>bif cmp y x<0 then some (b,a,s+1)else some (a,b,s)
def meS(cmp:Ab->Ab->Int)(l:Ba)(a b c s:Nat):Option (Nat×Nat):=(o2S cmp l a b s).bind λd=>(o2S cmp l d.2.1 c d.2.2).bind λe=>(o2S cmp l d.1 e.1 e.2.2).bind λf=>some (f.2.1,f.2.2)
def chS(cmp:Ab->Ab->Int)(l:Ba)(a:Nat):Option (Nat×Bool):=(meS cmp l (a+3) (a+6) (a+9) 0).bind λr=>bif r.2<=3 then some (r.1,decide ((r.2:Int)=0))else none
def scS(cmp:Ab->Ab->Int)(l:Ba)(b k:Nat):Option (Nat⊕Nat):=bif ((k+1:Nat):Int)<(b:Int)then(l[k+1]?).bind λx=>(l[k]?).bind λy=>bif cmp x y<0 then some (.inr k)else some (.inl (k+1))else some (.inr k)
def piS(cmp:Ab->Ab->Int)(l:Ba)(a b:Nat):Fo:=(AH (scS cmp l b) a).bind λk=>some (decide (((k+1:Nat):Int)=(b:Int)))
section
variable {gl:CC} {fi:FuncId} {fa fc:Bk} {cmp:Ab->Ab->Int} (hv:CmV gl fi fa fc cmp)
include hv
theorem Aim(hs:s<1000)(h:o2S cmp l a b s=some (u,v,w)):jg prog gl 360 [.rsl 0 0 l.length,iG (a:Int),iG (b:Int),.ref 1 0,Sx fi fa fc] [(0,BA l),(1,oN1 s)] 2 (.tup [iG (u:Int),iG (v:Int)]) [(0,BA l),(1,oN1 w)] 2:=by
 unfold o2S at h;obtain⟨y,hy,h⟩:=bS h;obtain⟨x,hx,h⟩:=bS h;refine pP func360 ?_;rcases bC h with⟨b1,h⟩|⟨b1,h⟩
 .simp only[Fe,Ft] at h;obtain⟨rfl,rfl,rfl⟩:=h;exact mt .ret (s0 32 gl [(10,iG (b:Int)),(11,iG (a:Int))] [(0,BA l),(1,oN1 (s+1))] 2 2) [iG (b:Int),iG (a:Int)] [AB 15 (ac.ixrZ 0 (Bt hy)),AB 16 (ac.pt0Z aW (Bt hy)),AB 19 (ac.ixrZ 0 (Bt hx)),AB 20 (ac.pt0Z aW (Bt hx)),hcp 21 2 hv y x,hr 22 b1,hbb 26 (Xl (q:=s) aa)] [hc (ac.imm l)] (kd:=[(0,.row)])
 .simp only[Fe,Ft] at h;obtain⟨rfl,rfl,rfl⟩:=h;exact mt .ret (s0 32 gl [(10,iG (a:Int)),(11,iG (b:Int))] [(0,BA l),(1,oN1 s)] 2 2) [iG (a:Int),iG (b:Int)] [AB 15 (ac.ixrZ 0 (Bt hy)),AB 16 (ac.pt0Z aW (Bt hy)),AB 19 (ac.ixrZ 0 (Bt hx)),AB 20 (ac.pt0Z aW (Bt hx)),hcp 21 2 hv y x,hr 22 b1] [hc (ac.imm l)] (kd:=[(0,.row)])
variable (ra:RnF fa) (rc:RnF fc)
include ra rc
theorem rn5{κ:Nat->Fq}{a b c d:G}{e f g h:G}(h1:qg κ 20 a=e)(h2:qg κ 20 b=f)(h3:qg κ 20 c=g)(h4:qg κ 20 d=h):[a,b,c,d,Sx fi fa fc].map (qg κ 20)=[e,f,g,h,Sx fi fa fc]:=by show[qg κ 20 a,qg κ 20 b,qg κ 20 c,qg κ 20 d,.clo (.func fi) (fa.map (qg κ 19)) (fc.map (qg κ 19))]=_;rw[h1,h2,h3,h4,ra κ,rc κ]
abbrev ho2(d:Nat){l:Ba}{a b s u v w:Nat}(hs:s<1000)(h:o2S cmp l a b s=some (u,v,w)):HP:=tN d [0,1] 2 [(0,BA l),(1,oN1 s)] [.rsl 0 0 l.length,iG (a:Int),iG (b:Int),.ref 1 0,Sx fi fa fc] [(0,BA l),(1,oN1 w)] (Aim hv hs h) ⟨⟨rfl,.inr ⟨rfl,ac.imm l⟩⟩,⟨rfl,.inl rfl⟩,trivial⟩ ⟨⟨rfl,.inr ⟨rfl,ac.imm l⟩⟩,⟨rfl,.inl rfl⟩,trivial⟩ (hgs:=rn5 hv ra rc rfl rfl rfl rfl)
theorem AmW(h:o2S cmp l a b s=some (u,v,w)):w<=s+1/\((u=a/\v=b)\/(u=b/\v=a)):=by grind [o2S]
theorem AkH(hs:s<100)(h:meS cmp l a b c s=some (m,w)):jg prog gl 300 [.rsl 0 0 l.length,iG (a:Int),iG (b:Int),iG (c:Int),.ref 1 0,Sx fi fa fc] [(0,BA l),(1,oN1 s)] 2 (iG (m:Int)) [(0,BA l),(1,oN1 w)] 2:=by unfold meS at h;obtain⟨⟨u1,v1,e⟩,e1,h⟩:=bS h;obtain⟨⟨f,v2,g⟩,e2,h⟩:=bS h;obtain⟨⟨i,v3,d⟩,e3,h⟩:=bS h;simp only[Fe,Ft] at h;obtain⟨rfl,rfl⟩:=h;have k1:=(AmW hv ra rc e1).1;have k2:=(AmW hv ra rc e2).1;dsimp only at e2 e3 k2;refine pP func300 ?_;exact mt .ret (s0 41 gl [(12,iG (v3:Int))] [(0,BA l),(1,oN1 d)] 2 2) [iG (v3:Int)] [ho2 hv ra rc 19 aa e1,ho2 hv ra rc 28 aa e2,ho2 hv ra rc 37 aa e3] [hc (ac.imm l)] (kd:=[(0,.row)])
abbrev Big(a b:Nat):Prop:=a+13<=b/\b<=15
omit hv ra rc in
theorem AgI(h:Big a b):(a=0/\b=13)\/(a=0/\b=14)\/(a=0/\b=15)\/(a=1/\b=14)\/(a=1/\b=15)\/(a=2/\b=15):=aa
abbrev AmX(d:Nat){l:Ba}{a b c m w:Nat}(h:meS cmp l a b c 0=some (m,w)):HP:=tN d [0,1] 2 [(0,BA l),(1,oN1 0)] [.rsl 0 0 l.length,iG (a:Int),iG (b:Int),iG (c:Int),.ref 1 0,Sx fi fa fc] [(0,BA l),(1,oN1 w)] (AkH hv ra rc BU h) ⟨⟨rfl,.inr ⟨rfl,ac.imm l⟩⟩,⟨rfl,.inl rfl⟩,trivial⟩ ⟨⟨rfl,.inr ⟨rfl,ac.imm l⟩⟩,⟨rfl,.inl rfl⟩,trivial⟩ (hgs:=congrArg (G.rsl 0 0 l.length::·) (rn5 hv ra rc rfl rfl rfl rfl))
theorem AkI{l:Ba}{a b m:Nat}{f:Bool}(hB:Big a b)(h:chS cmp l a=some (m,f)):jg prog gl 192 [.rsl 0 0 l.length,iG (a:Int),iG (b:Int),Sx fi fa fc] [(0,BA l)] 1 (.tup [iG (m:Int),iG (bif f then 1 else 0)]) [(0,BA l)] 1:=by
 unfold chS at h;obtain⟨⟨c,w⟩,e,h⟩:=bS h;obtain⟨hw,h⟩:=JV h;have hw:=DV hw;dsimp only at hw;simp only[Fe,Ft] at h;obtain⟨rfl,rfl⟩:=h;have hn:decide ((w:Int)=12)=false:=Dl aa;refine pP func192 ?_;cases b1:decide ((w:Int)=0) with
 |true=>
  rcases AgI hB with⟨rfl,rfl⟩|⟨rfl,rfl⟩|⟨rfl,rfl⟩|⟨rfl,rfl⟩|⟨rfl,rfl⟩|⟨rfl,rfl⟩
  all_goals exact mt .ret (s0 63 gl [(8,iG (c:Int)),(9,iG 1)] [(0,BA l)] 1 1) [iG (c:Int),iG 1] [AmX hv ra rc 54 e,hr 58 b1] [hc (ac.imm l)] (kd:=[(0,.row)])
 |false=>
  rcases AgI hB with⟨rfl,rfl⟩|⟨rfl,rfl⟩|⟨rfl,rfl⟩|⟨rfl,rfl⟩|⟨rfl,rfl⟩|⟨rfl,rfl⟩
  all_goals exact mt .ret (s0 63 gl [(8,iG (c:Int)),(9,iG 0)] [(0,BA l)] 1 1) [iG (c:Int),iG 0] [AmX hv ra rc 54 e,hr 58 b1,hr 61 hn] [hc (ac.imm l)] (kd:=[(0,.row)])
omit ra rc
theorem AkJ{l:Ba}{a b:Nat}{f:Bool}(hl:l.length<=1000)(ha:a<1000)(hb:b<=1000)(i:b-a<50)(h:piS cmp l a b=some f):jg prog gl 194 [.rsl 0 0 l.length,iG (a:Int),iG (b:Int),Sx fi fa fc] [(0,BA l)] 1 (bG f) [(0,BA l)] 1:=by
 unfold piS at h;obtain⟨k,ek,h⟩:=bS h;obtain rfl:=Bp h;refine pP func194 ?_;refine pN (λ_:Unit=>(s0 141 gl [(0,.rsl 0 0 l.length),(1,iG (a:Int)),(2,iG (b:Int)),(3,Sx fi fa fc),(9,iG ((a+1:Nat):Int)),(10,iG 0)] [(0,BA l)] 1 1)) 1110122 Lg [hbb 14 (Xl (q:=a) aa)] [hc (el l),hc hv.im,hc (ac.imm l)] (λB z w hz2 g d=>?_);clear g d hz2;refine Ix 11101221020 (s0 141 gl [(0,.rsl 0 0 l.length),(1,iG (a:Int)),(2,iG (b:Int)),(3,Sx fi fa fc),(9,iG ((k+1:Nat):Int)),(10,iG 0)] [(0,BA l)] 1 1) ?_ λkk=>?_;rotate_left
 .refine pN (λk:Nat=>(s0 141 gl [(0,.rsl 0 0 l.length),(1,iG (a:Int)),(2,iG (b:Int)),(3,Sx fi fa fc),(9,iG ((k+1:Nat):Int)),(10,iG 0)] [(0,BA l)] 1 1)) 1110122102022 ek [] [hc (el l),hc hv.im,hc (ac.imm l)] (λj k v hz g d=>?_);unfold scS at hz;rcases bC hz with⟨b2,hz⟩|⟨b2,hz⟩
  .obtain⟨x,c,hz⟩:=bS hz;obtain⟨y,e,hz⟩:=bS hz;have hq:=(cr c).1;rcases bC hz with⟨b3,hz⟩|⟨b3,hz⟩
   .obtain rfl:=Bp hz;obtain rfl:=d _ rfl;exact yl 11101221020 [hr 21 b2,AB 26 (ac.ixrZ 0 (Bt c)),AB 27 (ac.pt0Z aW (Bt c)),hbb 30 (dec (q:=k) aa),AB 31 (ac.ixrZ 0 (Bt e)),AB 32 (ac.pt0Z aW (Bt e)),hcp 33 1 hv x y,hr 34 b3] [hc (el l),hc hv.im,hc (ac.imm l)] kk
   .obtain rfl:=Bp hz;exact jw [hr 21 b2,AB 26 (ac.ixrZ 0 (Bt c)),AB 27 (ac.pt0Z aW (Bt c)),hbb 30 (dec (q:=k) aa),AB 31 (ac.ixrZ 0 (Bt e)),AB 32 (ac.pt0Z aW (Bt e)),hcp 33 1 hv x y,hr 34 b3,hbb 38 (Xl (q:=k+1) aa)] [hc (el l),hc hv.im,hc (ac.imm l)] (g _ rfl)
  .obtain rfl:=Bp hz;obtain rfl:=d _ rfl;exact yl 11101221020 [hr 21 b2] [hc (el l),hc hv.im,hc (ac.imm l)] kk
 clear ek;cases b1:decide (((k+1:Nat):Int)=(b:Int)) with
 |true=>exact mt .ret (s0 141 gl [(8,bG true)] [(0,BA l)] 1 1) [bG true] [hr 41 b1] [hc (ac.imm l)] (kd:=[(0,.row)])
 |false=>exact mt .ret (s0 141 gl [(8,bG false)] [(0,BA l)] 1 1) [bG false] [hr 41 b1,hbb 44 (sb (a:=(b:Int)) (b:=(a:Int)) (z:=(b:Int)-(a:Int)) rfl aa),hr 45 (show decide ((b:Int)-(a:Int)<50)=true from C6 aa)] [hc (ac.imm l)] (kd:=[(0,.row)])
omit hv
abbrev oXs(s:Nat):Option Ob:=some ⟨352,[uG (s:Int)],none⟩
def rnX:Bool->Nat->Nat
 |false,0=>13
 |false,1=>14069506893
 |false,2=>14988908846326605643
 |false,_=>3428281591454193221
 |true,0=>14
 |true,1=>15151776654
 |true,2=>16141901775903972233
 |true,_=>9417236295700912254
theorem AaF(d:Bool)(j:Nat)(h:j<3):jg prog gl 298 [.ref 0 0] [(0,oXs (rnX d j))] 1 (uG (rnX d (j+1):Int)) [(0,oXs (rnX d (j+1)))] 1:=by
 refine pP func298 ?_;rcases(by omega:j=0\/j=1\/j=2) with rfl|rfl|rfl<;>cases d
 .exact mt .ret (s0 33 gl [(2,uG 14069506893)] [(0,oXs 14069506893)] 1 1) [uG 14069506893] [] []
 .exact mt .ret (s0 33 gl [(2,uG 15151776654)] [(0,oXs 15151776654)] 1 1) [uG 15151776654] [] []
 .exact mt .ret (s0 33 gl [(2,uG 14988908846326605643)] [(0,oXs 14988908846326605643)] 1 1) [uG 14988908846326605643] [] []
 .exact mt .ret (s0 33 gl [(2,uG 16141901775903972233)] [(0,oXs 16141901775903972233)] 1 1) [uG 16141901775903972233] [] []
 .exact mt .ret (s0 33 gl [(2,uG 3428281591454193221)] [(0,oXs 3428281591454193221)] 1 1) [uG 3428281591454193221] [] []
 .exact mt .ret (s0 33 gl [(2,uG 9417236295700912254)] [(0,oXs 9417236295700912254)] 1 1) [uG 9417236295700912254] [] []
theorem AkK(d:Bool):ba prog gl 297 [iG (bif d then 14 else 13)] (uG 16):=by
 have h:=RC gl (n:=13) BU;have h':=RC gl (n:=14) BU;refine Gh func297 ?_;cases d
 .exact Ar [hf 5 h] []
 .exact Ar [hf 5 h'] []
end
theorem dJa{fn:Func}{Q:Exit->St->Prop}{Bs:List (St->Prop)}{m:Bool}{p:Br}(q:Br)(J:St)(kk:Gp P fn Q Bs false q J)(h:Gp P fn Q Bs false q J->Gp P fn Q Bs m p st):Gp P fn Q Bs m p st:=h kk
def brO:Bool->Nat->Nat
 |_,0=>0
 |false,1=>11
 |true,1=>9
 |false,_=>5
 |true,_=>0
def brT(d:Bool)(a:Nat)(s:Nat×Ba):Option ((Nat×Ba)⊕Ba):=match s.1 with
 |0=>(swZ s.2 (a+5) (a+brO d 0)).bind λl=>some (.inl (1,l))
 |1=>(swZ s.2 (a+6) (a+brO d 1)).bind λl=>some (.inl (2,l))
 |2=>(swZ s.2 (a+7) (a+brO d 2)).bind λl=>some (.inl (3,l))
 |3=>some (.inr s.2)
 |_=>none
def brG(l:Ba)(a b c:Nat)(d:Bool):Option (Ba×Nat):=bif d then some (l,c)else bif Nat.ble 1 a then(AH (brT (Nat.beq (b-a) 14) a) (0,l)).bind λr=>bif Nat.beq l.length r.length then some (r,c-1)else none else none
def agG(cmp:Ab->Ab->Int)(l:Ba)(a p:Nat):Fo:=bif Nat.blt 0 a then(l[a-1]?).bind λy=>(l[p]?).bind λx=>some (decide (cmp y x<0))else some true
def AgJ(a b:Nat):Bool:=Nat.ble (a+13) b&&Nat.ble b 15
theorem Ain(h:AgJ a b=true):Big a b:=by unfold AgJ at h;rw[bA] at h;exact⟨Ef h.1,Ef h.2⟩
abbrev PdS:Type:=Ba×Nat×Nat×Nat×Bool×Bool
def pdN(cmp:Ab->Ab->Int)(a b c:Nat)(m:Nat)(f:Bool)(l:Ba):Option (PdS⊕Ba):=
 bif a<=m/\m<b then(bif (m:Int)-(a:Int)<(b:Int)-(m:Int)then(inI cmp (a:Int) (m:Int) l).bind λl3=>bif Nat.beq l.length l3.length then some (.inl (l3,m+1,b,c,decide ((1:Int)<=(m:Int)-(a:Int)),f))else none
  else(inI cmp ((m+1:Nat):Int) (b:Int) l).bind λl3=>bif Nat.beq l.length l3.length then some (.inl (l3,a,m,c,decide ((1:Int)<=(b:Int)-(m:Int)),f))else none)else none
def pdT(cmp:Ab->Ab->Int)(s:PdS):Option (PdS⊕Ba):=
 bif s.1.length<=1000/\s.2.1<=100/\s.2.2.1<=100 then
 bif (s.2.2.1:Int)-(s.2.1:Int)<=12 then(inI cmp (s.2.1:Int) (s.2.2.1:Int) s.1).bind λr=>some (.inr r)
 else bif AgJ s.2.1 s.2.2.1&&(Nat.blt 0 s.2.2.2.1&&Nat.ble s.2.2.2.1 100) then
  (brG s.1 s.2.1 s.2.2.1 s.2.2.2.1 s.2.2.2.2.1).bind λq=>bif q.1.length<=1000 then(chS cmp q.1 s.2.1).bind λc=>(bif s.2.2.2.2.1&&s.2.2.2.2.2&&c.2 then piS cmp q.1 s.2.1 s.2.2.1 else some false).bind λd=>bif d then some (.inr q.1) else
  (agG cmp q.1 s.2.1 c.1).bind λok=>bif ok then(paS cmp s.2.1 s.2.2.1 c.1 q.1).bind λr=>bif Nat.beq q.1.length r.2.2.length then pdN cmp s.2.1 s.2.2.1 q.2 r.1 r.2.1 r.2.2 else none else none else none
 else none else none
section
variable {gl:CC} {fi:FuncId} {fa fc:Bk} {cmp:Ab->Ab->Int} (hv:CmV gl fi fa fc cmp)
include hv
theorem AkM(hB:Big a b)(ha:1<=a){r:Ba}(h:AH (brT (Nat.beq (b-a) 14) a) (0,l)=some r):jg prog gl 191 [.rsl 0 0 l.length,iG (a:Int),iG (b:Int),Sx fi fa fc] [(0,BA l)] 1 (.tup []) [(0,BA r)] 1:=by
 rcases(by omega:(a=1/\b=14)\/(a=1/\b=15)\/(a=2/\b=15)) with⟨rfl,rfl⟩|⟨rfl,rfl⟩|⟨rfl,rfl⟩
 let a:Nat:=1;let d:Bool:=false;rotate_left
 let a:Nat:=1;let d:Bool:=true;rotate_left
 let a:Nat:=2;let d:Bool:=false;all_goals
  have hn:=AkK (gl:=gl) d
  have h0:=AaF (gl:=gl) d 0 BU
  have h1:=AaF (gl:=gl) d 1 BU
  have h2:=AaF (gl:=gl) d 2 BU
  refine pP func191 ?_
  refine pN (λs:Nat×Ba=>(s0 67 gl [(0,.rsl 0 0 s.2.length),(1,iG (a:Int)),(8,iG (bif d then 14 else 13)),(9,.ref 1 0),(10,uG 16),(11,iG ((a+5+s.1:Nat):Int))] [(0,BA s.2),(1,oXs (rnX d s.1))] 2 1)) 111311122 h [hf 21 hn] [hc (el l),hc (ac.imm l)] (λB s w hs k5 c=>?_)
  obtain⟨j,l⟩:=s
  unfold brT at hs
  dsimp only at hs
  split at hs
  .obtain⟨l1,e1,hs⟩:=bS hs
   obtain rfl:=Bp hs
   obtain⟨x,y,hx,hy,e⟩:=I1 e1
   have hl:l.length=l1.length:=by rw[e];exact Ux
   exact jw (tN 38 [1] 2 [(1,oXs (rnX d 0))] [.ref 1 0] [(0,oXs (rnX d 1))] h0 ⟨⟨rfl,.inl rfl⟩,trivial⟩ ⟨⟨rfl,.inl rfl⟩,trivial⟩::hsw 59 63 65 66 hx hy e) [hc hl,hc (ac.imm l1)] (k5 _ rfl)
  .obtain⟨l1,e1,hs⟩:=bS hs
   obtain rfl:=Bp hs
   obtain⟨x,y,hx,hy,e⟩:=I1 e1
   have hl:l.length=l1.length:=by rw[e];exact Ux
   exact jw (tN 38 [1] 2 [(1,oXs (rnX d 1))] [.ref 1 0] [(0,oXs (rnX d 2))] h1 ⟨⟨rfl,.inl rfl⟩,trivial⟩ ⟨⟨rfl,.inl rfl⟩,trivial⟩::hsw 59 63 65 66 hx hy e) [hc hl,hc (ac.imm l1)] (k5 _ rfl)
  .obtain⟨l1,e1,hs⟩:=bS hs
   obtain rfl:=Bp hs
   obtain⟨x,y,hx,hy,e⟩:=I1 e1
   have hl:l.length=l1.length:=by rw[e];exact Ux
   exact jw (tN 38 [1] 2 [(1,oXs (rnX d 2))] [.ref 1 0] [(0,oXs (rnX d 3))] h2 ⟨⟨rfl,.inl rfl⟩,trivial⟩ ⟨⟨rfl,.inl rfl⟩,trivial⟩::hsw 59 63 65 66 hx hy e) [hc hl,hc (ac.imm l1)] (k5 _ rfl)
  .obtain rfl:=Bp hs
   obtain rfl:=c _ rfl
   exact mt .normal (s0 67 gl [] [(0,BA l)] 1 1) [] [] [hc (ac.imm l)] (kd:=[(0,.row)])
  .cases hs
variable (ra:RnF fa) (rc:RnF fc)
include ra rc
theorem rnA{κ:Nat->Fq}{x y:G}(h1:qg κ 20 x=y)(h:L.map (qg κ 20)=L):(x::(L++[Sx fi fa fc])).map (qg κ 20)=y::(L++[Sx fi fa fc]):=by rw[Fi,List.map_append,h1,h];show y::(L++[.clo (.func fi) (fa.map (qg κ 19)) (fc.map (qg κ 19))])=_;rw[ra κ,rc κ]
abbrev hI(d:Nat)(L:Bk){f:FuncId}{l r:Ba}{res:G}(hM:jg prog gl f (.rsl 0 0 l.length::(L++[Sx fi fa fc])) [(0,BA l)] 1 res [(0,BA r)] 1)(hL:L.map (qg (vi [0]) 20)=L):HP:=tN d [0] 1 [(0,BA l)] (.rsl 0 0 l.length::(L++[Sx fi fa fc])) [(0,BA r)] hM ⟨⟨rfl,.inr ⟨rfl,ac.imm l⟩⟩,trivial⟩ ⟨⟨rfl,.inr ⟨rfl,ac.imm r⟩⟩,trivial⟩ (hgs:=rnA hv ra rc rfl hL)
omit hv ra rc in
theorem mcL{r:Ba}{res:G}{n:Nat}(e:n=l.length)(hM:jg prog gl f (.rsl 0 0 l.length::L) [(0,BA l)] 1 res [(0,BA r)] 1):jg prog gl f (.rsl 0 0 n::L) [(0,BA l)] 1 res [(0,BA r)] 1:=e▸hM
abbrev hI2(d:Nat)(L:Bk){f:FuncId}{l r:Ba}{res:G}{n:Nat}(e:n=l.length)(hM:jg prog gl f (.rsl 0 0 l.length::(L++[Sx fi fa fc])) [(0,BA l)] 1 res [(0,BA r)] 1)(hL:L.map (qg (vi [0]) 20)=L):HP:=tN d [0] 1 [(0,BA l)] (.rsl 0 0 n::(L++[Sx fi fa fc])) [(0,BA r)] (mcL e hM) ⟨⟨rfl,.inr ⟨rfl,ac.imm l⟩⟩,trivial⟩ ⟨⟨rfl,.inr ⟨rfl,ac.imm r⟩⟩,trivial⟩ (hgs:=rnA hv ra rc rfl hL)
theorem Wx{a b:Nat}{r:Ba}(ha:a<=1000)(hb:b<=1000)(c:(b:Int)-(a:Int)<=12)(h:inI cmp (a:Int) (b:Int) l=some r)(k:Int):jg prog gl 106 [.rsl 0 0 l.length,iG (a:Int),iG (b:Int),iG k,Sx fi fa fc] [(0,BA l)] 1 (.tup []) [(0,BA r)] 1:=by have hs:=sb (a:=(b:Int)) (b:=(a:Int)) (z:=(b:Int)-(a:Int)) rfl aa;have hd:=C6 c;refine pP func106 ?_;refine pN (λ_:Unit=>(s0 148 gl [(0,.rsl 0 0 l.length),(1,iG (a:Int)),(2,iG (b:Int)),(3,iG k),(4,Sx fi fa fc)] [(0,BA l)] 1 1)) 11122 Lg [] [hc (el l),hc hv.im,hc (ac.imm l)] (λd z v hz2 e f=>?_);exact mt .ret (s0 148 gl [] [(0,BA r)] 1 1) [] [hbb 23 hs,hr 25 hd,hI hv ra rc 30 [iG (a:Int),iG (b:Int)] (AdH hv h) rfl] [hc (ac.imm r)] (kd:=[(0,.row)])
abbrev AoR(gl:CC)(fi:FuncId)(fa fc:Bk)(s:PdS):St:=(s0 148 gl [(0,.rsl 0 0 s.1.length),(1,iG (s.2.1:Int)),(2,iG (s.2.2.1:Int)),(3,iG (s.2.2.2.1:Int)),(4,Sx fi fa fc),(10,bG s.2.2.2.2.1),(11,bG s.2.2.2.2.2)] [(0,BA s.1)] 1 1)
theorem AkN{s:PdS}{r:Ba}(h:AH (pdT cmp) s=some r)(h1:s.2.2.2.2=(true,true)):jg prog gl 106 [.rsl 0 0 s.1.length,iG (s.2.1:Int),iG (s.2.2.1:Int),iG (s.2.2.2.1:Int),Sx fi fa fc] [(0,BA s.1)] 1 (.tup []) [(0,BA r)] 1:=by
 refine pP func106 ?_;obtain⟨l,a,b,g,j,par⟩:=s;obtain⟨rfl,rfl⟩:=Prod.mk.inj h1;clear h1;refine pN (AoR gl fi fa fc) [1,1,2,2] h [] [hc (el l),hc hv.im,hc (ac.imm l)] (λB s w hs k5 C=>?_);clear h l a b g;obtain⟨l,a,b,g,j,par⟩:=s;unfold pdT at hs;dsimp only at hs;obtain⟨hg,hs⟩:=JV hs;obtain⟨hl,ha,hb⟩:=DV hg;have n:=sb (a:=(b:Int)) (b:=(a:Int)) (z:=(b:Int)-(a:Int)) rfl aa;rcases bC hs with⟨b1,hs⟩|⟨b1,hs⟩
 .obtain⟨r',A,hs⟩:=bS hs;obtain rfl:=Bp hs;obtain rfl:=C _ rfl;exact mt .ret (s0 148 gl [] [(0,BA r')] 1 1) [] [hbb 23 n,hr 25 b1,hI hv ra rc 30 [iG (a:Int),iG (b:Int)] (AdH hv A) rfl] [hc (ac.imm r')] (kd:=[(0,.row)])
 obtain⟨u,hs⟩:=JV hs;simp only[bA] at u;obtain⟨hB,hl1,hl2⟩:=u;have hB:=Ain hB;have hlim:0<g:=Ef hl1;have hlim2:g<=100:=Ef hl2;clear hl1 hl2;obtain⟨⟨l1,c⟩,k,hs⟩:=bS hs;dsimp only at hs;obtain⟨v,hs⟩:=JV hs;have hll:=DV v;obtain⟨⟨p,Xl⟩,D,hs⟩:=bS hs;dsimp only at hs;obtain⟨d,ed,hs⟩:=bS hs;refine dJa [1,1,2,2,2,1,1,1,1,0] (s0 148 gl [(0,.rsl 0 0 l1.length),(1,iG (a:Int)),(2,iG (b:Int)),(3,iG (c:Int)),(4,Sx fi fa fc),(10,bG j),(11,bG par),(12,iG ((b:Int)-(a:Int)))] [(0,BA l1)] 1 1) ?_ λkk=>?_;rotate_left
 .have hn0:decide ((g:Int)=0)=false:=Dl aa;unfold brG at k;cases j with
  |true=>obtain⟨rfl,rfl⟩:=Prod.mk.inj (Bp k);exact pO 11122211110 _ [hbb 23 n,hr 25 b1,hr 32 hn0] [hc (el l),hc hv.im,hc (ac.imm l)] kk
  |false=>obtain⟨t,k⟩:=JV k;have t:=Ef t;obtain⟨r',A,k⟩:=bS k;obtain⟨hle,k⟩:=JV k;have hle:=bc hle;obtain⟨q,rfl⟩:∃q,g=q+1:=⟨g-1,aa⟩;rw[Nat.add_sub_cancel] at k;obtain⟨rfl,rfl⟩:=Prod.mk.inj (Bp k);exact pO 11122211110 _ [hbb 23 n,hr 25 b1,hr 32 hn0,hI hv ra rc 44 [iG (a:Int),iG (b:Int)] (AkM hv hB t A) rfl,hbb 46 (dec (q:=q) aa)] [hc hle,hc hv.im,hc (ac.imm r')] kk
 clear k b1 n hlim hlim2;have i:=AkI hv ra rc (b:=b) hB D;have hpi:=λe=>AkJ hv (l:=l1) (a:=a) (b:=b) (f:=d) hll aa aa aa e;cases d with
 |true=>
  obtain rfl:=Bp hs;obtain rfl:=C _ rfl;cases j with
  |false=>cases ed
  |true=>cases par with
   |false=>cases ed
   |true=>cases Xl with
    |false=>cases ed
    |true=>
     have hpi:=hpi ed
     exact mt .ret (s0 148 gl [] [(0,BA l1)] 1 1) [] [hI hv ra rc 52 [iG (a:Int),iG (b:Int)] i rfl,hI hv ra rc 80 [iG (a:Int),iG (b:Int)] hpi rfl] [hc (ac.imm l1)] (kd:=[(0,.row)])
 |false=>
 refine dJa [1,1,2,2,2,1,1,1,1,1,1,1,0,0] (s0 148 gl [(0,.rsl 0 0 l1.length),(1,iG (a:Int)),(2,iG (b:Int)),(3,iG (c:Int)),(4,Sx fi fa fc),(12,iG ((b:Int)-(a:Int))),(13,iG (p:Int))] [(0,BA l1)] 1 1) ?_ λkk=>?_;rotate_left
 .cases j with
  |false=>cases par<;>cases Xl<;>exact pO 111222111111100 _ [hI hv ra rc 52 [iG (a:Int),iG (b:Int)] i rfl] [hc (el l1),hc hv.im,hc (ac.imm l1)] kk
  |true=>cases par with
   |false=>cases Xl<;>exact pO 111222111111100 _ [hI hv ra rc 52 [iG (a:Int),iG (b:Int)] i rfl] [hc (el l1),hc hv.im,hc (ac.imm l1)] kk
   |true=>cases Xl with
    |false=>exact pO 111222111111100 _ [hI hv ra rc 52 [iG (a:Int),iG (b:Int)] i rfl] [hc (el l1),hc hv.im,hc (ac.imm l1)] kk
    |true=>
     have hpi:=hpi ed
     exact pO 111222111111100 _ [hI hv ra rc 52 [iG (a:Int),iG (b:Int)] i rfl,hI hv ra rc 80 [iG (a:Int),iG (b:Int)] hpi rfl] [hc (el l1),hc hv.im,hc (ac.imm l1)] kk
 clear i hpi ed D;rw[Bf] at hs;obtain⟨ok,o,hs⟩:=bS hs;have E:=hB.2;have hq:lD .quo (iG ((b:Int)-(a:Int))) (iG 8)=some (iG 1):=by rcases(by omega:(b:Int)-(a:Int)=13\/(b:Int)-(a:Int)=14\/(b:Int)-(a:Int)=15) with e|e|e<;>rw[e]<;>kernel_rfl
 rcases a with _|q
 .clear o;obtain⟨hok,hs⟩:=JV hs;subst hok;obtain⟨⟨m,f,l2⟩,ep,hs⟩:=bS hs;dsimp only at hs;obtain⟨h2,hs⟩:=JV hs;have h2:=bc h2;unfold pdN at hs;obtain⟨hm,hs⟩:=JV hs;have hm:=DV hm;rcases bC hs with⟨b2,hs⟩|⟨b2,hs⟩
  .have b3:=DV b2;obtain⟨l3,e3,hs⟩:=bS hs;obtain⟨h3,hs⟩:=JV hs;have h3:=h2.trans (bc h3);obtain rfl:=Bp hs;exact jw [hI hv ra rc 111 [iG ((0:Nat):Int),iG (b:Int),iG (p:Int)] (Ww hv hll aa aa aa ep) rfl,hbb 117 (sb (a:=(m:Int)) (b:=((0:Nat):Int)) (z:=(m:Int)-((0:Nat):Int)) rfl aa),hbb 120 (sb (a:=(b:Int)) (b:=(m:Int)) (z:=(b:Int)-(m:Int)) rfl aa),hbb 122 hq,hr 125 b2,hI2 hv ra rc 134 [iG ((0:Nat):Int),iG (m:Int),iG (c:Int)] h2 (Wx hv ra rc aa aa aa e3 (c:Int)) rfl,hbb 136 (Go.Proofs.YtjbfcillbjiajaaGreatDoor.Xl (q:=m) aa)] [hc h3,hc hv.im,hc (ac.imm l3)] (k5 _ rfl)
  .have b3:=Ni b2;obtain⟨l3,e3,hs⟩:=bS hs;obtain⟨h3,hs⟩:=JV hs;have h3:=h2.trans (bc h3);obtain rfl:=Bp hs;exact jw [hI hv ra rc 111 [iG ((0:Nat):Int),iG (b:Int),iG (p:Int)] (Ww hv hll aa aa aa ep) rfl,hbb 117 (sb (a:=(m:Int)) (b:=((0:Nat):Int)) (z:=(m:Int)-((0:Nat):Int)) rfl aa),hbb 120 (sb (a:=(b:Int)) (b:=(m:Int)) (z:=(b:Int)-(m:Int)) rfl aa),hbb 122 hq,hr 125 b2,hbb 142 (Go.Proofs.YtjbfcillbjiajaaGreatDoor.Xl (q:=m) aa),hI2 hv ra rc 146 [iG ((m+1:Nat):Int),iG (b:Int),iG (c:Int)] h2 (Wx hv ra rc aa aa aa e3 (c:Int)) rfl] [hc h3,hc hv.im,hc (ac.imm l3)] (k5 _ rfl)
 .obtain⟨y,hy,o⟩:=bS (show((l1[q]?).bind λy=>(l1[p]?).bind λx=>some (decide (cmp y x<0)))=some ok from o);obtain⟨x,hx,o⟩:=bS o;have o:=Bp o;have h0:decide ((0:Int)<((q+1:Nat):Int))=true:=C6 aa;obtain⟨hok,hs⟩:=JV hs;subst hok;obtain⟨⟨m,f,l2⟩,ep,hs⟩:=bS hs;dsimp only at hs;obtain⟨h2,hs⟩:=JV hs;have h2:=bc h2;unfold pdN at hs;obtain⟨hm,hs⟩:=JV hs;have hm:=DV hm;rcases bC hs with⟨b2,hs⟩|⟨b2,hs⟩
  .have b3:=DV b2;obtain⟨l3,e3,hs⟩:=bS hs;obtain⟨h3,hs⟩:=JV hs;have h3:=h2.trans (bc h3);obtain rfl:=Bp hs;exact jw [hr 82 h0,hbb 87 (dec (q:=q) aa),AB 88 (ac.ixrZ 0 (Bt hy)),AB 89 (ac.pt0Z aW (Bt hy)),AB 92 (ac.ixrZ 0 (Bt hx)),AB 93 (ac.pt0Z aW (Bt hx)),hcp 94 1 hv y x,hr 95 o,hI hv ra rc 111 [iG ((q+1:Nat):Int),iG (b:Int),iG (p:Int)] (Ww hv hll aa aa aa ep) rfl,hbb 117 (sb (a:=(m:Int)) (b:=((q+1:Nat):Int)) (z:=(m:Int)-((q+1:Nat):Int)) rfl aa),hbb 120 (sb (a:=(b:Int)) (b:=(m:Int)) (z:=(b:Int)-(m:Int)) rfl aa),hbb 122 hq,hr 125 b2,hI2 hv ra rc 134 [iG ((q+1:Nat):Int),iG (m:Int),iG (c:Int)] h2 (Wx hv ra rc aa aa aa e3 (c:Int)) rfl,hbb 136 (Go.Proofs.YtjbfcillbjiajaaGreatDoor.Xl (q:=m) aa)] [hc h3,hc hv.im,hc (ac.imm l3)] (k5 _ rfl)
  .have b3:=Ni b2;obtain⟨l3,e3,hs⟩:=bS hs;obtain⟨h3,hs⟩:=JV hs;have h3:=h2.trans (bc h3);obtain rfl:=Bp hs;exact jw [hr 82 h0,hbb 87 (dec (q:=q) aa),AB 88 (ac.ixrZ 0 (Bt hy)),AB 89 (ac.pt0Z aW (Bt hy)),AB 92 (ac.ixrZ 0 (Bt hx)),AB 93 (ac.pt0Z aW (Bt hx)),hcp 94 1 hv y x,hr 95 o,hI hv ra rc 111 [iG ((q+1:Nat):Int),iG (b:Int),iG (p:Int)] (Ww hv hll aa aa aa ep) rfl,hbb 117 (sb (a:=(m:Int)) (b:=((q+1:Nat):Int)) (z:=(m:Int)-((q+1:Nat):Int)) rfl aa),hbb 120 (sb (a:=(b:Int)) (b:=(m:Int)) (z:=(b:Int)-(m:Int)) rfl aa),hbb 122 hq,hr 125 b2,hbb 142 (Go.Proofs.YtjbfcillbjiajaaGreatDoor.Xl (q:=m) aa),hI2 hv ra rc 146 [iG ((m+1:Nat):Int),iG (b:Int),iG (c:Int)] h2 (Wx hv ra rc aa aa aa e3 (c:Int)) rfl] [hc h3,hc hv.im,hc (ac.imm l3)] (k5 _ rfl)
end
structure OrN {α:Type} (cmp:α->α->Int) (D:α->Prop):Prop where
 tr:∀x y z,cmp x y<0->cmp y z<0->cmp x z<0
 tt:∀x y,D x->D y->x≠y->cmp x y<0\/cmp y x<0
def Rg{α:Type}(a b:Nat)(l r:List α):Prop:=r.Perm l/\∀q,(q<a\/b<=q)->r[q]?=l[q]?
def SoR{α:Type}(cmp:α->α->Int)(a b:Nat)(l:List α):Prop:=∀p q x y,a<=p->p<q->q<b->l[p]?=some x->l[q]?=some y->cmp x y<0
def OrX{α:Type}(cmp:α->α->Int)(a b:Nat)(l:List α):Prop:=∀p q x y,p<q->¬(a<=p/\q<b)->l[p]?=some x->l[q]?=some y->cmp x y<0
theorem Rg.refl{α:Type}{a b:Nat}(l:List α):Rg a b l l:=⟨.refl _,λ_ _=>rfl⟩
theorem Rg.trans{α:Type}{a b:Nat}{l r s:List α}(h:Rg a b l r)(k:Rg a b r s):Rg a b l s:=⟨k.1.trans h.1,λq hq=>(k.2 q hq).trans (h.2 q hq)⟩
theorem Rg.mono{α:Type}{a b a' b':Nat}{l r:List α}(h:Rg a b l r)(ha:a'<=a)(hb:b<=b'):Rg a' b' l r:=⟨h.1,λq hq=>h.2 q aa⟩
theorem Rg.len{α:Type}{a b:Nat}{l r:List α}(h:Rg a b l r):r.length=l.length:=h.1.length_eq
theorem Nf{l:List α}(h:l.Nodup){q:Nat}{x:α}(h1:l[p]?=some x)(h2:l[q]?=some x):p=q:=by grind [List.getElem?_inj]
theorem Rg.src{α:Type}{a b:Nat}{l r:List α}(h:Rg a b l r)(hn:l.Nodup){q:Nat}{y:α}(h1:a<=q)(h2:q<b)(hy:r[q]?=some y):∃c,a<=c/\c<b/\l[c]?=some y:=by
 obtain⟨c,hq⟩:=Gu (h.1.mem_iff.1 (bO hy));refine⟨c,?_⟩;rcases(by omega:(c<a\/b<=c)\/(a<=c/\c<b)) with h3|h3
 .have:=Nf (h.1.nodup_iff.2 hn) hy ((h.2 c h3).trans hq);omega
 .exact⟨h3.1,h3.2,hq⟩
theorem OrX.rg{α:Type}{cmp:α->α->Int}{a b:Nat}{l r:List α}(h:OrX cmp a b l)(k:Rg a b l r)(hn:l.Nodup):OrX cmp a b r:=by
 have src:∀q y,r[q]?=some y->∃c,l[c]?=some y/\(c=q\/(a<=q/\q<b/\a<=c/\c<b)):=λq y hy=>by
  rcases(by omega:(q<a\/b<=q)\/(a<=q/\q<b)) with h3|h3
  .exact⟨q,(k.2 q h3).symm.trans hy,.inl rfl⟩
  grind [Rg.src]
 intro p q x y e hb hx hy;obtain⟨f,hx',hp⟩:=src p x hx;obtain⟨c,d,hq⟩:=src q y hy;exact h f c x y aa aa hx' d
theorem AgK{l:List α}{i j:Nat}(hi:i<l.length)(hj:j<l.length):∃r,swZ l i j=some r/\r.Perm l/\∀q,r[q]?=if q=j then l[i]? else if q=i then l[j]? else l[q]? :=by refine⟨(l.set i l[j]).set j l[i],?_,List.set_set_perm hi hj,λq=>?_⟩;all_goals grind [swZ]
theorem AbF{a b i j:Nat}{l r:List α}(h:r.Perm l)(hq:∀q,r[q]?=if q=j then l[i]? else if q=i then l[j]? else l[q]?)(h1:a<=i)(h2:i<b)(h3:a<=j)(h4:j<b):Rg a b l r:=by constructor<;>grind
section
variable {α:Type} {cmp:α->α->Int} {D:α->Prop} (hO:OrN cmp D)
include hO
theorem OrN.lt{l:List α}(hn:l.Nodup)(hD:∀z∈l,D z){p q:Nat}{x y:α}(hx:l[p]?=some x)(hy:l[q]?=some y)(a:p≠q)(h:¬cmp y x<0):cmp x y<0:=by grind [OrN,Nf]
theorem SoR.all{a b:Nat}{l:List α}(h:SoR cmp a b l)(k:OrX cmp a b l):SoR cmp 0 l.length l:=λp q x y _ c _ hx hy=>by
 by_cases hh:a<=p/\q<b
 .exact h p q x y hh.1 c hh.2 hx hy
 .exact k p q x y c hh hx hy
theorem AaG{a b:Nat}{l:List α}(hn:l.Nodup)(hD:∀z∈l,D z)(ha:a<=1000)(hb:b<=l.length)(hl:l.length<=1000):T (inI cmp (a:Int) (b:Int) l) λr=>Rg a b l r/\SoR cmp a b r:=by
 unfold inI;rw[show wI ((a:Int)+1)=wI ((a:Nat)+1) from rfl];rw[aq aa];refine T.loop (λs=>∃i:Nat,s.2=(i:Int)/\a+1<=i/\(i<=b\/i=a+1)/\Rg a b l s.1/\SoR cmp a i s.1) (λs=>b-s.2.toNat) ⟨a+1,rfl,Dk _,.inr rfl,.refl l,λp q x y h1 h2 h3=>aa⟩ (by show b-_<_;omega) ?_;rintro⟨l1,A⟩ ⟨i,e,h1,h2,h3,h4⟩;dsimp only at e h3 h4;subst e;have f:=h3.1.nodup_iff.2 hn;have hl1:=h3.len;unfold AaC;dsimp only;refine .dec (λhlt=>?_) λhge=> .some ⟨h3,λp q x y k1 k2 k3=>h4 p q x y k1 k2 aa⟩;have hib:i<b:=aa;refine .bind ((T.loop (λs=>∃j:Nat,s.2=(j:Int)/\a<=j/\j<=i/\Rg a b l1 s.1/\∀p q x y,a<=p->p<q->q<=i->q≠j->s.1[p]?=some x->s.1[q]?=some y->cmp x y<0) (λs=>s.2.toNat) (Q:=λr=>Rg a b l1 r/\SoR cmp a (i+1) r) ⟨i,rfl,aa,Dk _,.refl l1,λp q x y k1 k2 k3 d=>h4 p q x y k1 k2 aa⟩ (by show((i:Int)).toNat<_;omega) ?_).mono λr hr=> .some ⟨⟨i+1,aq aa,aa,.inl aa,h3.trans hr.1,hr.2⟩,?_⟩)
 .rintro⟨l2,B⟩ ⟨j,e,k1,k2,k3,d⟩;dsimp only at e k3 d;subst e;have g:=k3.1.nodup_iff.2 f;have hl2:=k3.len;unfold AaB;dsimp only;refine .dec (λh=>?_) λh=> .some ⟨k3,λp q x y m1 m2 m3=>d p q x y m1 m2 aa aa⟩;obtain⟨k,rfl⟩:∃k,j=k+1:=⟨j-1,aa⟩;have ew:wI (((k+1:Nat):Int)-1)=(k:Int):=by grind [bM]
  have gx:l2[k+1]?=some (l2[k+1]'aa):=EA _;have gy:l2[k]?=some (l2[k]'aa):=EA _;generalize l2[k+1]'aa=x at gx;generalize l2[k]'aa=y at gy;rw[ew,au,au,gx,gy,aL,aL];refine .dec (λhc=>?_) λhc=> .some ⟨k3,λp q u v m1 m2 m3 hu hv=>?_⟩
  .obtain⟨r,t,pr,m⟩:=AgK (l:=l2) (i:=k+1) (j:=k) aa aa;obtain⟨C,E,hx',c,n⟩:=I1 t;rw[gx] at hx';rw[gy] at c;cases hx';cases c;rw[stZ (x:=y) gx,aL,Ail (w:=x) (x:=x) (z:=y) (i:=k+1) gy,aL,<-n];refine .some ⟨⟨k,rfl,aa,aa,k3.trans (AbF pr m aa aa aa aa),λp q u v m1 m2 m3 o hu hv=>?_⟩,by simp_all⟩;rw[m p] at hu;rw[m q] at hv;rw[BX o] at hv;by_cases c1:q=k+1
   .subst c1;rw[BB rfl,gy] at hv;cases hv;by_cases c2:p=k
    .grind
    .rw[BX c2,BX aa] at hu;grind
   .rw[BX c1] at hv;by_cases c2:p=k
    .grind
    .rw[BX c2] at hu;by_cases c3:p=k+1;all_goals grind
  .have hyx:=hO.lt g (λz hz=>hD z (h3.1.mem_iff.1 (k3.1.mem_iff.1 hz))) gy gx aa hc;by_cases c1:q=k+1
   .subst c1;rw[gx] at hv;cases hv;by_cases c2:p=k
    .grind
    .exact hO.tr _ _ _ (d p k u y m1 aa aa aa hu gy) hyx
   grind
 .show b-((wI ((i:Int)+1))).toNat<b-((i:Int)).toNat;rw[aq aa];omega
end
section
variable {cmp:Ab->Ab->Int} (hO:OrN cmp λ_=>True)
include hO
structure PI (cmp:Ab->Ab->Int) (l0:Ba) (a b:Nat) (pv:Ab) (l:Ba) (i j:Nat):Prop where
 rg:Rg a b l0 l
 gp:l[a]?=some pv
 hi:a+1<=i
 hj:j<b
 hij:i<=j+1
 lo:∀q x,a<q->q<i->l[q]?=some x->cmp x pv<0
 up:∀q x,j<q->q<b->l[q]?=some x->¬cmp x pv<0
omit hO in
theorem AgL{β:Type}{K:Nat->Nat->Option β}{Q:β->Prop}(h:PI cmp l0 a b pv l i j)(hb:b<=l.length)(hl:l.length<=1000)
  (g:∀e d,PI cmp l0 a b pv l e d->d<=j->(d<e\/(e<d/\(∃x,l[e]?=some x/\¬cmp x pv<0)/\∃y,l[d]?=some y/\cmp y pv<0))->T (K e d) Q):
  T ((AH (scU cmp l a j) i).bind λe=>(AH (scD cmp l a e) j).bind λd=>K e d) Q:=by
 have hj:=h.hj
 refine .bind ((T.loop (λe=>PI cmp l0 a b pv l e j) (λe=>j+1-e) (Q:=λe=>PI cmp l0 a b pv l e j/\(j<e\/∃x,l[e]?=some x/\¬cmp x pv<0)) h aa λe h'=>?_).mono λe hi=>?_)
 .unfold scU
  refine .dec (λhc=>?_) λhc=> .some ⟨h',.inl aa⟩
  have gx:l[e]?=some (l[e]'aa):=EA _
  generalize l[e]'aa=x at gx
  rw[gx,h'.gp,aL,aL]
  refine .dec (λhx=> .some ⟨⟨h'.rg,h'.gp,Nat.le_succ_of_le h'.hi,h'.hj,aa,λq y k1 k2 hy=>?_,h'.up⟩,aa⟩) λhx=> .some ⟨h',.inr ⟨x,gx,hx⟩⟩
  grind [PI.lo]
 .obtain⟨hi,hx⟩:=hi
  refine .bind ((T.loop (λd=>PI cmp l0 a b pv l e d/\d<=j) (λd=>d) (Q:=λd=>(PI cmp l0 a b pv l e d/\d<=j)/\(d<e\/∃y,l[d]?=some y/\cmp y pv<0)) ⟨hi,Dk _⟩ aa λd ⟨h',f⟩=>?_).mono λd hj'=>?_)
  .unfold scD
   refine .dec (λhc=>?_) λhc=> .some ⟨⟨h',f⟩,.inl aa⟩
   have:=h'.hi
   have:=h'.hj
   have gx:l[d]?=some (l[d]'aa):=EA _
   generalize l[d]'aa=y at gx
   rw[gx,h'.gp,aL,aL]
   refine .dec (λhy=> .some ⟨⟨h',f⟩,.inr ⟨y,gx,hy⟩⟩) λhy=>?_
   rw[show Nat.blt 0 d=true from Nk aa,ax]
   refine .some ⟨⟨⟨h'.rg,h'.gp,h'.hi,aa,aa,h'.lo,λq x k1 k2 hx=>?_⟩,aa⟩,aa⟩
   by_cases c:q=d
   .grind
   .exact h'.up q x aa k2 hx
  grind
omit hO in
theorem Ai8(h:PI cmp l0 a b pv l i j)(hb:b<=l.length)(hij:i<j)(gx:l[i]?=some x)(hx:¬cmp x pv<0)(gy:l[j]?=some y)(hy:cmp y pv<0):∃r,swZ l i j=some r/\PI cmp l0 a b pv r (i+1) (j-1)/\0<j:=by
 have h1:=h.hi;have h2:=h.hj;obtain⟨r,e,pr,d⟩:=AgK (l:=l) (i:=i) (j:=j) aa aa;refine⟨r,e,⟨h.rg.trans (AbF pr d aa aa aa aa),?_,aa,aa,aa,λq z k1 k2 hz=>?_,λq z k1 k2 hz=>?_⟩,aa⟩
 .grind [PI.gp]
 .grind [PI.lo]
 .rw[d q] at hz;by_cases c:q=j
  .grind
  .rw[BX c,BX aa] at hz;exact h.up q z aa k2 hz
def Prt(cmp:Ab->Ab->Int)(a b m:Nat)(l:Ba):Prop:=a<=m/\m<b/\∃c,l[m]?=some c/\(∀q x,a<=q->q<m->l[q]?=some x->cmp x c<0)/\∀q x,m<q->q<b->l[q]?=some x->¬cmp x c<0
omit hO in
theorem AgM(h:PI cmp l0 a b pv l i j)(hb:b<=l.length)(hij:j<i):∃r,swZ l j a=some r/\Rg a b l0 r/\Prt cmp a b j r:=by
 have h1:=h.hi;have h2:=h.hj;have h3:=h.hij;obtain⟨r,c,pr,d⟩:=AgK (l:=l) (i:=j) (j:=a) aa aa;refine⟨r,c,h.rg.trans (AbF pr d aa aa aa aa),aa,aa,pv,?_,λq x k1 k2 hx=>?_,λq x k1 k2 hx=>?_⟩
 .grind [PI.gp]
 .grind [PI]
 grind [PI.up]
theorem Am0(hl:l.length<=1000)(hb:b<=l.length)(hap:a<=p)(c:p<b):T (paS cmp a b p l) λr=>Rg a b l r.2.2/\Prt cmp a b r.1 r.2.2:=by
 obtain⟨l0,e0,d,q0⟩:=AgK (l:=l) (i:=a) (j:=p) aa aa;have hl0:=d.length_eq;have g:=AbF (a:=a) (b:=b) d q0 (Dk _) aa hap c;unfold paS;refine .eqb e0 ?_;have gp:l0[a]?=some (l0[a]'aa):=EA _;generalize l0[a]'aa=pv at gp;have h0:PI cmp l a b pv l0 (a+1) (b-1):=by grind [PI]
 refine AgL h0 aa aa λi j h1 _ h2=>?_;refine .dec (λhc=>?_) λhc=>?_
 .grind [AgM,T.some]
 .rcases h2 with h2|⟨h2,⟨x,gx,hx⟩,y,gy,hy⟩
  .omega
  obtain⟨l1,e1,k1,k2⟩:=Ai8 h1 aa h2 gx hx gy hy;rw[show Nat.blt 0 j=true from Nk k2,ax];refine .eqb e1 (.bind ((T.loop (λs=>PI cmp l a b pv s.1 s.2.1 s.2.2) (λs=>s.2.2) (Q:=λs=>∃i,PI cmp l a b pv s.1 i s.2/\s.2<i) k1 (by grind) ?_).mono λs hs=>?_))
  .rintro⟨l2,h,e⟩ h3;dsimp only at h3;have hl2:=h3.rg.len;unfold paT;dsimp only;rw[C6 aa,ax];refine AgL h3 aa aa λi j h4 f h5=>?_;refine .dec (λhc=> .some ⟨i,h4,by show j<i;omega⟩) λhc=>?_;rcases h5 with h5|⟨h5,⟨x,gx,hx⟩,y,gy,hy⟩
   .omega
   obtain⟨l3,e3,m1,m2⟩:=Ai8 h4 aa h5 gx hx gy hy;rw[show Nat.blt 0 j=true from Nk m2,ax];refine .eqb e3 (.some ⟨m1,?_⟩);show j-1<e;omega
  .obtain⟨i,h3,h4⟩:=hs;have:=h3.rg.len;grind [AgM,T.some]
omit hO in
theorem AkO{x y:Nat}(hx:x<l.length)(hy:y<l.length):T (o2S cmp l x y s) λr=>((r.1=x/\r.2.1=y)\/(r.1=y/\r.2.1=x))/\r.2.2<=s+1:=by grind [o2S,T.some]
omit hO in
theorem AoS(hB:Big a b)(hb:b<=l.length):T (chS cmp l a) λr=>a<=r.1/\r.1<b:=by have h9:a+9<b:=aa;unfold chS meS;refine .bind (.bind ((AkO aa aa).mono λd h1=> .bind ((AkO aa aa).mono λe h2=> .bind ((AkO aa aa).mono λc h3=> .some ?_))));dsimp only at*;rw[C6 (show c.2.2<=3 by omega),ax];exact .some (show a<=c.2.1/\c.2.1<b by omega)
theorem AoT(hn:l.Nodup)(hb:b<=l.length)(d:a<b)(hl:l.length<=1000):T (piS cmp l a b) λf=>f=true->SoR cmp a b l:=by
 have adj:∀k,(∀q x y,a<=q->q<k->l[q]?=some x->l[q+1]?=some y->cmp x y<0)->SoR cmp a (k+1) l:=λk h=>by
  have key:∀n p x y,a<=p->p+n+1<=k->l[p]?=some x->l[p+n+1]?=some y->cmp x y<0:=by
   intro n;induction n with
   |zero=>grind
   |succ n ih=>intro p x y h1 h2 hx hy;have hlt:=(cr hy).1;have hz:l[p+n+1]?=some (l[p+n+1]'aa):=EA _;exact hO.tr _ _ _ (ih p x _ h1 aa hx hz) (h (p+n+1) _ y aa aa hz hy)
  intro p q x y h1 h2 h3 hx hy;obtain⟨n,rfl⟩:∃n,q=p+n+1:=⟨q-p-1,aa⟩;exact key n p x y h1 aa hx hy
 unfold piS;refine .bind ((T.loop (λk=>a<=k/\k<b/\∀q x y,a<=q->q<k->l[q]?=some x->l[q+1]?=some y->cmp x y<0) (λk=>b-k) (Q:=λk=>k<b/\∀q x y,a<=q->q<k->l[q]?=some x->l[q+1]?=some y->cmp x y<0) (by grind) aa λk hk=>?_).mono λk hk=> .some λhf=>?_)
 .obtain⟨h1,h2,h3⟩:=hk;unfold scS;refine .dec (λhc=>?_) λhc=> .some ⟨h2,h3⟩;have gx:l[k+1]?=some (l[k+1]'aa):=EA _;have gy:l[k]?=some (l[k]'aa):=EA _;generalize l[k+1]'aa=x at gx;generalize l[k]'aa=y at gy;rw[gx,gy,aL,aL];refine .dec (λhx=> .some ⟨h2,h3⟩) λhx=> .some ⟨⟨aa,aa,λq u v k1 k2 hu hv=>?_⟩,aa⟩;by_cases c:q=k
  .subst c;grind [OrN.lt]
  grind
 .have hf:=DV hf;have:=adj k hk.2;grind
omit hO in
theorem AoU{d:Bool}{l:Ba}(hl:a+13<=l.length):T (AH (brT d a) (0,l)) λr=>Rg a (a+13) l r:=by
 have ho:∀j,brO d j<=12:=λj=>by rcases j with _|_|j<;>cases d<;>exact Ef rfl
 refine T.loop (λs=>s.1<=3/\Rg a (a+13) l s.2) (λs=>3-s.1) ⟨Nat.zero_le _,.refl l⟩ (show 3-0<4611686018427387904 by decide) ?_;rintro⟨j,r⟩ ⟨h1,h2⟩;dsimp only at h1 h2;have hr:=h2.len;have key:∀i k,i<=12->k<=12->∃r',swZ r (a+i) (a+k)=some r'/\Rg a (a+13) l r':=λi k hi hk=>by obtain⟨r',e,p,q⟩:=AgK (l:=r) (i:=a+i) (j:=a+k) aa aa;exact⟨r',e,h2.trans (AbF p q aa aa aa aa)⟩
 unfold brT;rcases(by omega:j=0\/j=1\/j=2\/j=3) with rfl|rfl|rfl|rfl
 .obtain⟨r',e,h⟩:=key 5 _ BU (ho 0);exact .eqb e (.some ⟨⟨show 1<=3 by decide,h⟩,show 3-1<3-0 by decide⟩)
 .obtain⟨r',e,h⟩:=key 6 _ BU (ho 1);exact .eqb e (.some ⟨⟨show 2<=3 by decide,h⟩,show 3-2<3-1 by decide⟩)
 .obtain⟨r',e,h⟩:=key 7 _ BU (ho 2);exact .eqb e (.some ⟨⟨show 3<=3 by decide,h⟩,show 3-3<3-2 by decide⟩)
 .exact .some h2
structure PdI (cmp:Ab->Ab->Int) (l0:Ba) (s:PdS):Prop where
 pm:s.1.Perm l0
 ab:s.2.1<=s.2.2.1
 bn:s.2.2.1<=l0.length
 ox:OrX cmp s.2.1 s.2.2.1 s.1
 lm:12<s.2.2.1-s.2.1->4<=s.2.2.2.1+(15-(s.2.2.1-s.2.1))
 lh:s.2.2.2.1<=100
 bl:s.2.2.2.2.1=false->s.2.2.1-s.2.1<=12\/1<=s.2.1
theorem Am1(hn:l0.Nodup)(hl:l0.length<=15){s:PdS}(h0:PdI cmp l0 s):T (AH (pdT cmp) s) λr=>r.Perm l0/\SoR cmp 0 r.length r:=by
 refine T.loop (PdI cmp l0) (λs=>s.2.2.1-s.2.1) h0 (by grind [PdI]) ?_;rintro⟨l,a,b,e,w,par⟩ ⟨pm,ab,bn,ox,lm,lh,bl⟩;dsimp only at pm ab bn ox lm lh bl;have hll:=pm.length_eq;have hnl:=pm.nodup_iff.2 hn;unfold pdT;dsimp only;rw[C6 (by grind),ax];refine .dec (λhc=>?_) λhc=>?_
 .refine .bind ((AaG hO hnl (λ_ _=>trivial) aa aa aa).mono λr hr=> .some ⟨hr.1.1.trans pm,?_⟩);grind [SoR.all,OrX.rg]
 have hbig:12<b-a:=aa;have lm:=lm hbig;have hB:Big a b:=aa;have hBb:AgJ a b=true:=by unfold AgJ;rw[Nk hB.1,Nk hB.2];rfl
 rw[hBb,show Nat.blt 0 e=true from Nk aa,show Nat.ble e 100=true from Nk lh];simp only[Bool.and_self,ax];have hbr:T (brG l a b e w) λq=>Rg a b l q.1/\e<=q.2+1/\q.2<=e:=by
  unfold brG;cases w with
  |true=>exact .some ⟨.refl _,by show e<=e+1;omega,Dk _⟩
  |false=>
   have h1:1<=a:=by have:=bl rfl;omega
   rw[Bf,Nk h1,ax];refine .bind ((AoU (l:=l) aa).mono λr hr=>?_);rw[hr.len,Nat.beq_refl,ax];exact .some ⟨hr.mono (Dk _) hB.1,by show e<=e-1+1;omega,by show e-1<=e;omega⟩
 refine .bind (hbr.mono ?_);rintro⟨l1,g⟩ ⟨j,m1,m2⟩;dsimp only at j m1 m2⊢;have hl1:=j.len;have A:=j.1.nodup_iff.2 hnl;have ox1:=ox.rg j hnl;rw[C6 (show l1.length<=1000 by omega),ax];refine .bind ((AoS hB aa).mono ?_);rintro⟨p,C⟩ ⟨hp1,hp2⟩;dsimp only at hp1 hp2⊢;have hpi:T (bif w&&par&&C then piS cmp l1 a b else some false) λf=>f=true->SoR cmp a b l1:=by grind [AoT,T.some]
 refine .bind (hpi.mono λd hd=> .ite (λE=> .some ⟨j.1.trans pm,SoR.all hO (hd E) ox1⟩) λ_=>?_);have hag:agG cmp l1 a p=some true:=by
  unfold agG;cases hza:Nat.blt 0 a with
  |false=>rfl
  |true=>have hza:=Ef hza;have g1:l1[a-1]?=some (l1[a-1]'aa):=EA _;have g2:l1[p]?=some (l1[p]'aa):=EA _;rw[ax,g1,g2,aL,aL,C6 (ox1 (a-1) p _ _ aa aa g1 g2)]
 refine .eqb hag ?_;rw[ax];refine .bind ((Am0 hO aa aa hp1 hp2).mono ?_);rintro⟨m,f,l2⟩ ⟨k,H,I,z,o,lo,up⟩;dsimp only at k H I o lo up⊢;have hl2:=k.len;have i:=k.1.nodup_iff.2 A;have ox2:=ox1.rg k A;rw[show Nat.beq l1.length l2.length=true by rw[hl2];exact Nat.beq_refl _,ax];unfold pdN;rw[C6 ⟨H,I⟩,ax];have pvx:∀q x,m<q->q<b->l2[q]?=some x->cmp z x<0:=λq x h1 h2 hx=>hO.lt i (λ_ _=>trivial) o hx aa (up q x h1 h2 hx);refine .dec (λF=>?_) λF=>?_
 .refine .bind ((AaG hO i (λ_ _=>trivial) (a:=a) (b:=m) aa aa aa).mono λl3 ⟨c,so3⟩=>?_);have rg3':=c.mono (a':=a) (b':=b) (Dk _) aa;have hl3:=c.len;rw[show Nat.beq l2.length l3.length=true by rw[hl3];exact Nat.beq_refl _,ax];have gp3:l3[m]?=some z:=(c.2 m (.inr (Dk _))).trans o;have lo3:∀q x,a<=q->q<m->l3[q]?=some x->cmp x z<0:=λq x h1 h2 hx=>by obtain⟨J,k1,k2,k3⟩:=c.src i h1 h2 hx;exact lo J x k1 k2 k3
  have up3:∀q x,m<q->q<b->l3[q]?=some x->cmp z x<0:=λq x h1 h2 hx=>pvx q x h1 h2 ((c.2 q (.inr aa)).symm.trans hx);have ox3:=ox2.rg rg3' i;refine .some ⟨⟨c.1.trans (k.1.trans (j.1.trans pm)),by show m+1<=b;omega,bn,λu v x y n hh hx hy=>?_,λt=>by show 4<=g+_;have:12<b-(m+1):=t;show 4<=g+(15-(b-(m+1)));omega,by show g<=100;omega,λB=>?_⟩,by show b-(m+1)<b-a;omega⟩
  .have hh:¬(m+1<=u/\v<b):=hh;by_cases c0:a<=u/\v<b
   .rcases(by omega:v<m\/v=m\/(u=m/\m<v)\/(u<m/\m<v)) with h|rfl|⟨rfl,h⟩|⟨h1,h2⟩
    .exact so3 u v x y c0.1 n h hx hy
    .grind
    .grind
    .exact hO.tr _ _ _ (lo3 u x c0.1 h1 hx) (up3 v y h2 c0.2 hy)
   .exact ox3 u v x y n c0 hx hy
  .exact .inr (by show 1<=m+1;omega)
 .refine .bind ((AaG hO i (λ_ _=>trivial) (a:=m+1) (b:=b) aa aa aa).mono λl3 ⟨c,so3⟩=>?_);have rg3':=c.mono (a':=a) (b':=b) aa (Dk _);have hl3:=c.len;rw[show Nat.beq l2.length l3.length=true by rw[hl3];exact Nat.beq_refl _,ax];have gp3:l3[m]?=some z:=(c.2 m (.inl aa)).trans o;have lo3:∀q x,a<=q->q<m->l3[q]?=some x->cmp x z<0:=λq x h1 h2 hx=>lo q x h1 h2 ((c.2 q (.inl aa)).symm.trans hx);have up3:∀q x,m<q->q<b->l3[q]?=some x->cmp z x<0:=λq x h1 h2 hx=>by obtain⟨J,k1,k2,k3⟩:=c.src i aa h2 hx;grind
  have ox3:=ox2.rg rg3' i;refine .some ⟨⟨c.1.trans (k.1.trans (j.1.trans pm)),H,by show m<=l0.length;omega,λu v x y n hh hx hy=>?_,λt=>by have:12<m-a:=t;show 4<=g+(15-(m-a));omega,by show g<=100;omega,λB=>?_⟩,by show m-a<b-a;omega⟩
  .have hh:¬(a<=u/\v<m):=hh;by_cases c0:a<=u/\v<b
   .rcases(by omega:m+1<=u\/(u=m/\m<v)\/(u<m/\v=m)\/(u<m/\m<v)) with h|⟨rfl,h⟩|⟨h,rfl⟩|⟨h1,h2⟩
    .exact so3 u v x y h n c0.2 hx hy
    .grind
    .grind
    .exact hO.tr _ _ _ (lo3 u x c0.1 h1 hx) (up3 v y h2 c0.2 hy)
   .exact ox3 u v x y n c0 hx hy
  grind
end
def Pa(cmp:Ab->Ab->Int)(l:Ba):Option Ba:=AH (pdT cmp) (l,0,l.length,WZ l.length,true,true)
theorem Uy{cmp:Ab->Ab->Int}(hO:OrN cmp λ_=>True){l:Ba}(hn:l.Nodup)(hl:l.length<=15):T (Pa cmp l) λr=>r.Perm l/\r.Pairwise λx y=>cmp x y<0:=by
 refine(Am1 hO hn hl (s:=(l,0,l.length,WZ l.length,true,true)) ⟨.refl _,Nat.zero_le _,Dk _,λp q x y h1 h2 hx hy=>?_,λh=>?_,?_,λh=>by cases h⟩).mono λr hr=>⟨hr.1,?_⟩
 .grind
 .have h:12<l.length-0:=h;show 4<=WZ l.length+(15-(l.length-0));rcases(by omega:l.length=13\/l.length=14\/l.length=15) with e|e|e<;>rw[e]<;>decide
 .show WZ l.length<=100;generalize l.length=n at hl;rcases(by omega:n=0\/n=1\/n=2\/n=3\/n=4\/n=5\/n=6\/n=7\/n=8\/n=9\/n=10\/n=11\/n=12\/n=13\/n=14\/n=15) with rfl|rfl|rfl|rfl|rfl|rfl|rfl|rfl|rfl|rfl|rfl|rfl|rfl|rfl|rfl|rfl<;>decide
 .rw[List.pairwise_iff_getElem];intro p q hp hq a;exact hr.2 p q _ _ (Nat.zero_le _) a hq (EA hp) (EA hq)
def bj(x:Aj):Bk:=[iG x.commit.By,iG x.commit.Seq,uG x.commit.Sum,iG x.n]
theorem ee:fg prog 57=some true:=aH
def f7(x:Aj):List Value:=[.int .i64 x.commit.By,.int .i64 x.commit.Seq,.int .u64 (x.commit.Sum:Int),.int .i64 x.n]
section
variable {P:Bu}
theorem Qs{d:Nat}{xs ys us vs:Array Value}{f:Field}{fs:List Field}{r:Bool}(hn:f.name≠ "_")(hx:bt P (part f.type xs f.offset)=some (.agg us))(hy:bt P (part f.type ys f.offset)=some (.agg vs))(he:bt P (Op.equalIn d f.type (.agg us) (.agg vs))=some r):bt P (Op.eqFields d xs ys (f::fs))=if r=true then bt P (Op.eqFields d xs ys fs)else some false:=by rw[Op.eqFields,BB hn,fP hx,fP hy,fP he,Qr];cases r<;>rfl
end
theorem wy(d:Nat)(i j:Aj):bt prog (Op.equalIn (d+4) 57 (.agg (f7 i).toArray) (.agg (f7 j).toArray))=some (decide (i=j)):=by obtain⟨a0,a1⟩:=i;obtain⟨b0,b1⟩:=j;unfold f7;rw[xV (fs:= #[⟨ "commit",41,0,false, "", "huddle/hold",0⟩,⟨ "n",3,3,false, "", "huddle/hold",24⟩]) aH aH];simp only[Array.toList];rw[Qs (d:=d+3) (f:=⟨ "commit",41,0,false, "", "huddle/hold",0⟩) (fs:=[⟨ "n",3,3,false, "", "huddle/hold",24⟩]) (us:=(Pe a0).toArray) (vs:=(Pe b0).toArray) BU aH aH (Pf d a0 b0)];rw[uJ (k:= .i64) (k':= .i64) (a:=a1) (b:=b1) BU aH aH aH];simp only[Aj.mk.injEq];by_cases h0:a0=b0<;>by_cases h1:a1=b1<;>simp[h0,h1,Op.eqFields,bz]
theorem yV(i j:Aj){r:Bool}(h:decide (i=j)=r):∀p q:DC,b8 prog .eql 57 p q (.agg (bj i)) (.agg (bj j))=some (bG r):=λp q=>by subst h;exact Eo (us:=f7 i) (vs:=f7 j) aH aH aH (wy 9996 i j)
theorem K0(i j:Aj){r:Bool}(h:(!decide (i=j))=r):∀p q:DC,b8 prog .neq 57 p q (.agg (bj i)) (.agg (bj j))=some (bG r):=λp q=>by subst h;exact Cb (us:=f7 i) (vs:=f7 j) aH aH aH (wy 9996 i j)
def bU(x:Aj):Value:= .agg (f7 x).toArray
theorem LF:MH prog 57 bU:=Qw (d:= .struct #[⟨ "commit",41,0,false, "", "huddle/hold",0⟩,⟨ "n",3,3,false, "", "huddle/hold",24⟩]) aH (λb k=>by cases b<;>(show _=_;kernel_rfl)) (λa b=>rfl) (λa b=>wy 9996 a b)
theorem AlL(k:Aj):Instr.sameBits 10000 (bU k) (bU k)=true:=by unfold bU f7;simp[Instr.sameBits]
theorem Bq:AQ prog 77 57 4 bj:=⟨aH,aH,BU,λ_=>rfl,λ_=>rfl⟩
abbrev GI:Bj:=58
abbrev uGn(x:Nat):G:=uG x
abbrev eI(m:FM Aj Nat):Option Ob:=some (M7 GI bU uGn m)
abbrev oH(d:Int)(j:Nat):Option Ob:=some ⟨60,[iG d,.mref j],none⟩
abbrev pU(l:List Aj):Option Ob:=some ⟨57,l.flatMap bj,none⟩
theorem Ho(m:FM Aj Nat):∀e∈UK bU uGn m,bB e.2.1:=OI λv=>mN _
abbrev LL:Aj:=⟨⟨0,0,0⟩,0⟩
section
variable (gl:CC)
def O4(k:Nat):FM Aj Nat:=⟨[(LL,k,0)],1⟩
theorem Lm(d:Int)(k:Nat):jg prog gl 6 [iG d,uG k] [] 0 (.ref 0 0) [(0,oH d 1),(1,eI (O4 k))] 2:=by refine pP func6 ?_;exact mt .ret (s0 12 gl [(4,.ref 0 0)] [(0,oH d 1),(1,eI (O4 k))] 2 0) [.ref 0 0] [] [hc (Ho (O4 k))] (ρ:=[(0,1),(1,0)])
theorem RT{m:FM Aj Nat}(i:Ab)(n:Int)(p:Nat):jg prog gl 11 [.ref 0 0,.agg (aj i),iG n,uG p] [(0,oH d 1),(1,eI m)] 2 (.tup []) [(0,oH d 1),(1,eI (CA m ⟨i,n⟩ p))] 2:=by refine pP func11 ?_;exact mt .normal (s0 16 gl [] [(0,oH d 1),(1,eI (CA m ⟨i,n⟩ p))] 2 2) [] [hmu [1] 3 (AcA (P:=prog) (σ:=[(1,eI m)]) (i:=1) (t:=GI) (t':=GI) (et:=36) (vg:=uGn) LF AlL aH (k:=⟨i,n⟩) (gk:= .agg (bj ⟨i,n⟩)) rfl (m:=m) NP p)] [hc (Ho (CA m ⟨i,n⟩ p))] (ρ:=[(0,0),(1,1)])
theorem yW{a b}:DL prog gl (wz a b) 66 [.agg (bj a),.agg (bj b)] iG:=
 cy func66 λK=>ak λv1 e2=>kV (λb3=>aw [hf 10 (cF (HB gl e2) b3)]<|rv K) λb3=>ak λv4 e5=>aw [hf 10 (cF (HB gl e2) b3)]<|kV (λc=>aw [hf 16 (cF (HB gl e5) c)]<|rv K) λc=>aw [hf 16 (cF (HB gl e5) c)]<|rv K
abbrev oP:G:= .clo (.func 66) [] []
end
theorem Ab1{w w':World}(h:A3 (λ_=>False) w w'):∃q os,w'=grow (w.drewN q) os:=by
 refine⟨w'.drawn-w.drawn,w'.heap.extract w.heap.size w'.heap.size,?_⟩;have h1:=h.os;have h2:=h.tape;have h3:=h.output;have h4:=h.size;have h5:=h.drawn;have h6:=λk hk=>h.block k hk (λx=>x);obtain⟨hp,f,b,os,out⟩:=w;obtain⟨hp',d,a,e,c⟩:=w';simp only[grow,World.drewN] at*;subst h1;subst h2;subst h3;have e1:b+(a-b)=a:=aa;have e2:hp++hp'.extract hp.size hp'.size=hp':=by grind
 rw[e1,e2]
section
variable {P:Bu} {α:Type} [Inhabited α]
def Nh(enc:α->List Value)(d:List α):Bk:=(d.flatMap enc).map .lit
theorem AeU{enc:α->List Value}{cf:α->α->Int}(h1:∀x,∀v∈enc x,v.oneCell'=true)(h:∀x y,ba P [] g [.agg ((enc x).map .lit),.agg ((enc y).map .lit)] (.lit (.int .i64 (cf x y))))(a b size:Nat)(w:World):CmpLays P g #[] enc k cf a b size w:=by
 intro m os c hs x y;have hagg:∀(x:α) (W:World),IV (λ_=>False) W (.agg ((enc x).map .lit)) (.agg (enc x).toArray):=λx W=>by
  refine .agg _ _ aC (λi u hu=>?_) (λi g u hg hu=>?_)
  .rw[List.getElem?_toArray] at hu;exact h1 x u (bO hu)
  .rw[List.getElem?_toArray] at hu;rw[Mu,hu] at hg;cases hg;exact .lit u
 refine(h x y _ (λ_=>False) #[.agg (enc x).toArray,.agg (enc y).toArray] (λ_ h=>h.elim) (λ_ _ h=>by cases h) rfl ?_).mono ?_
 .grind
 .rintro e w' ⟨v,rfl,hv,hk⟩;cases hv;grind [Ab1]
theorem Aa0{enc:α->List Value}(hk:∀x,(enc x).length=k):∀(d:List α) (j:Nat),j<d.length*k->(d.flatMap enc)[j]?=some (flatK enc k d.toArray)[j]! :=by
 intro d;have key:∀(d:List α) (j:Nat),j<d.length*k->(d.flatMap enc)[j]?=some ((enc (d[j/k]!))[j%k]!):=by
  intro d;induction d with
  |nil=>grind
  |cons x r ih=>
   intro j hj;have hk0:0<k:=by grind
   rw[List.flatMap_cons];by_cases hjk:j<k
   .grind [Nat.div_eq_of_lt,LO]
   .rw[List.getElem?_append_right (by grind),hk];grind [Nat.div_eq_sub_div,Nat.mod_eq_sub_mod,Nat.add_mul]
 grind [get_flatK]
theorem Sd{enc:α->List Value}(hk:∀x,(enc x).length=k)(d:List α):(Nh enc d).length=d.length*k:=by unfold Nh;rw[Gq];induction d<;>grind
structure Ab2 (P:Bu) (f:FuncId) (enc:α->List Value) (k:Nat) (cf:α->α->Int) (g:FuncId):Prop where
 nil:∀(p:Option Addr) (cap:Nat) (fv:Value) (w:World),Calls P f #[.slice p 0 cap,fv] w λe w'=>e= .returned (.tuple #[])/\w'=w
 row:∀(blk off cap:Nat) (d:Array α) (w:World),CmpLays P g #[] enc k cf blk off d.size w->HoldsK enc k w blk off d->blk<w.heap.size->d.size<4611686018427387904->
  Calls P f #[.slice (some ⟨blk,off,none⟩) d.size cap,.func (.func g) #[] #[]] w λe w'=>e= .returned (.tuple #[])/\∃n os,w'=sortWorldK enc k w blk off n (d.toList.mergeSort λx y=> !(ltOf cf) y x).toArray os
theorem AeV{enc:α->List Value}{cf:α->α->Int}(hS:Ab2 P f enc k cf g)(hk:∀x,(enc x).length=k)(h1:∀x,∀v∈enc x,v.oneCell'=true)(c:∀x y,ba P [] g [.agg ((enc x).map .lit),.agg ((enc y).map .lit)] (.lit (.int .i64 (cf x y))))
  {t:Bj} (ht:bw P t=some k) (gl:CC) (d:List α) (hd:d.length<4611686018427387904):
  OU P gl f [.rsl 0 0 d.length,.clo (.func g) [] []] [(0,some ⟨t,Nh enc d,Option.none⟩)] 1 1 (.tup []) [(0,some ⟨t,Nh enc (d.mergeSort λx y=> !(ltOf cf) y x),Option.none⟩)]:=by
 intro w β S vs s hβ hG hR hsz h
 obtain⟨v0,v1,rfl⟩:∃v0 v1,vs= #[v0,v1]:=by
  obtain⟨l⟩:=vs;match l,hsz with
  |[a,b],_=>grind
 have z:=h 0 _ v0 rfl rfl
 have A:=h 1 _ v1 rfl rfl
 obtain⟨fs,cs,rfl,n,hc0,_,_⟩:=A.clo_form
 obtain rfl:fs= #[]:=Array.eq_empty_of_size_eq_zero n
 obtain rfl:cs= #[]:=Array.eq_empty_of_size_eq_zero hc0
 have hlen:(d.mergeSort λx y=> !(ltOf cf) y x).length=d.length:=List.length_mergeSort d
 have hone:∀(b:Bk) (i:Nat) (o:Ob),ag [(0,some ⟨t,b,Option.none⟩)] i=some o->i=0/\o=⟨t,b,Option.none⟩:=by
  intro b i o ho;rw[A9] at ho;split at ho
  .grind
  .cases ho
 rcases z.rsl_form with⟨hb,rfl,hn⟩|⟨b,C,F,cap,hb,rfl,hn,hm,ho',B⟩
 .have hd0:d=[]:=List.eq_nil_of_length_eq_zero hn
  subst hd0
  refine(hS.nil Option.none 0 _ w).mono ?_
  rintro e w' ⟨rfl,rfl⟩
  refine⟨_,β,rfl,?_⟩
  grind [ZX,RV,A3.refl]
 .obtain⟨rfl,rfl⟩:=B rfl
  have hob:=hR.ob 0 _ rfl
  rcases hob with⟨h2,_⟩|⟨b',H,r,h2,_⟩|⟨b',C',cur,_,h2,h3,h4,h5,h6,h7⟩
  .grind
  .cases h2
  .rw[hb] at h2;cases h2
   dsimp only at h3 h4 h6 h7
   rw[Ng ht] at h4
   rw[Sd hk] at h6
   have hcur:∀j,j<d.length*k->cur[j]?=some (flatK enc k d.toArray)[j]! :=by intro j hj;have hfl:=Aa0 hk d j hj;obtain⟨u,hu,_,p⟩:=h7 j (.lit (flatK enc k d.toArray)[j]!) (by grind [Nh]);rw[hu,p.lit_eq]
   have hH:HoldsK enc k w b 0 d.toArray:=by intro j hj;grind [size_flatK,cell_of_row,frozen_of_row]
   have hlt:b<w.heap.size:=(Array.getElem?_eq_some_iff.1 h3).1
   have hcall:=hS.row b 0 cap d.toArray w (AeU h1 c b 0 _ w) hH hlt (by simpa using hd)
   rw[List.size_toArray] at hcall
   refine hcall.mono ?_
   rintro e w' ⟨rfl,q,os,rfl⟩
   refine⟨_,β,rfl,?_⟩
   try simp only[List.toList_toArray] at*
   generalize hD:(d.mergeSort λx y=> !(ltOf cf) y x)=D at*
   have hfin:(sortWorldK enc k w b 0 q D.toArray os).heap[b]?=some (.cells (putCells id 0 (flatK enc k D.toArray) cur) t (0,0)):=by unfold sortWorldK putRowK;rw[heap_grow_old _ _ (by simpa[putRow,mapBlock,ahead] using hlt)];simp only[putRow,mapBlock];rw[Array.getElem?_modify,BB rfl,show(Sort.ahead w q).heap[b]?=w.heap[b]? from rfl,h3];rfl
   have hkeep:A3 (GG β [(0,some ⟨t,Nh enc d,Option.none⟩)]) w (sortWorldK enc k w b 0 q D.toArray os):=by
    refine⟨rfl,rfl,rfl,?_,λj hj hn=>?_,?_⟩
    .simp[sortWorldK,putRowK,putRow,mapBlock,ahead]
    .have hjb:j≠b:=λe=>hn ⟨0,_,cap,rfl,by grind⟩;unfold sortWorldK putRowK;rw[heap_grow_old _ _ (by simpa[putRow,mapBlock,ahead] using hj)];simp[putRow,mapBlock,ahead,Array.getElem?_modify,Ne.symm hjb]
    .simp[sortWorldK,putRowK,putRow,mapBlock,ahead,grow]
   have hsize:(putCells id 0 (flatK enc k D.toArray) cur).size=cur.size:=by simp[putCells]
   refine⟨λ_ _=>rfl,⟨λi o ho=>?_,λi j o r b2 m E hi hj _ _=>?_,λi o b2 m hi hb2=>?_⟩,λb2 hb2=>?_,.tup _ _ rfl (λi g u hg=>by simp at hg),hkeep⟩
   .obtain⟨rfl,rfl⟩:=hone _ i o ho
    refine .inr (.inr ⟨b,cap,_,rfl,hb,hfin,by grind [Ng],h5,by grind [Sd],λj g hg=>?_⟩)
    have hg':(Nh enc D)[j]?=some g:=hg
    have hj:j<D.length*k:=by grind [Sd]
    have hfl:=Aa0 hk D j hj
    unfold Nh at hg'
    rw[Mu,hfl] at hg'
    cases hg'
    have hj2:j<cur.size:=by grind
    refine⟨_,?_,h1 D.toArray[j/k]! _ ?_,.imm _ _ (.lit _)⟩
    .unfold putCells
     rw[Array.getElem?_mapIdx,Array.getElem?_eq_getElem hj2]
     simp[hj]
    .rw[get_flatK _ _ _ _ (by grind)]
     grind [Nat.mod_lt]
   .exact(hone _ i o hi).1.trans (hone _ j r hj).1.symm
   .obtain⟨rfl,_⟩:=hone _ i o hi
    exact hR.sep 0 _ b2 m rfl hb2
   .obtain⟨i,o,m,hi,hb2⟩:=hb2
    obtain⟨rfl,_⟩:=hone _ i o hi
    exact .inl ⟨0,_,m,rfl,hb2⟩
end
section
variable {gl:CC} {fi:FuncId} {fa fc:Bk} {cmp:Ab->Ab->Int}
theorem AbG(hv:CmV gl fi fa fc cmp)(a:RnF fa)(b:RnF fc){r:Ba}(hl:l.length<=15)(h:Pa cmp l=some r):jg prog gl 56 [.rsl 0 0 l.length,Sx fi fa fc] [(0,BA l)] 1 (.tup []) [(0,BA r)] 1:=by
 have e:wU (ah l)=l.length:=by unfold ah;rw[gP];omega
 have hb:ba prog gl 107 [uG (wU (ah l):Int)] (iG (WZ l.length:Int)):=by grind [RC]
 have hp:=AkN hv a b h rfl;dsimp only at hp;refine pP func56 ?_;exact mt .normal (s0 14 gl [] [(0,BA r)] 1 1) [] [AB 10 (C8 (ah l)),hf 11 hb,hI hv a b 13 [iG ((0:Nat):Int),iG (l.length:Int),iG (WZ l.length:Int)] hp rfl] [hc (ac.imm r)] (kd:=[(0,.row)])
theorem AbH(h:Uv gg):CmV gl 57 [.agg (Nv ⟨gg⟩)] [] (M3 (R0 gg)):=⟨aH,aY (aG 20 (.agg (Nv ⟨gg⟩)) aH) bf,bf,(by grind [Aih])⟩
theorem AgN(h:Uv gg)(hn:ids.length<=15)(hr:Pa (M3 (R0 gg)) ids=some row)(hle:row.length=ids.length):iV prog gl 22 [.ptr (Ag gg) 0,aE aj ids] 41 row.length (row.flatMap aj):=by
 have hcl:cU ids=some ids:=by grind [cU,aT]
 rw[hle];refine OW func22 ?_;exact EI [ho 7 [aE aj ids] [] (jY gl hcl) (Zy _),hI (gl:=gl) (AbH h) (λκ=>rfl) (λκ=>rfl) 12 [] (AbG (gl:=gl) (AbH h) (λκ=>rfl) (λκ=>rfl) hn hr) rfl] (ac.imm row)
theorem AbI(h:Uv gg)(hn:ids.length<=15)(hr:Pa (M3 (R0 gg)) ids=some row)(hle:row.length=ids.length):ba prog gl 22 [.ptr (Ag gg) 0,aE aj ids] (aE aj row):=(AgN h hn hr hle).fn ac.sz (ac.len _) (ac.imm _)
theorem TH(a b:Ab):ba prog gl 63 [.agg (aj a),.agg (aj b)] (bG (dt a b)):=HB gl (EW a b)
theorem Aio(a b:Ab):ba prog gl 372 [.agg (aj a),.agg (aj b)] (iG (GL a b)):=by
 have h1:=TH (gl:=gl) a b;have h2:=TH (gl:=gl) b a;unfold GL;refine Gh func372 ?_;cases c1:dt a b with
 |true=>rw[c1] at h1;exact Ar [hf 7 h1] []
 |false=>
  rw[c1] at h1;cases c2:dt b a with
  |true=>rw[c2] at h2;exact Ar [hf 7 h1,hf 10 h2] []
  |false=>rw[c2] at h2;exact Ar [hf 7 h1,hf 10 h2] []
abbrev hso(d c:Nat){l r:Ba}{fi:FuncId}{cmp:Ab->Ab->Int}(hv:CmV gl fi [] [] cmp)(hl:l.length<=15)(h:Pa cmp l=some r)(hlt:[0].all (λk=>Nat.blt k c)=true:=by kernel_rfl):HP:=tN d [0] c [(0,BA l)] [.rsl 0 0 l.length,.clo (.func fi) [] []] [(0,BA r)] (AbG hv (λκ=>rfl) (λκ=>rfl) hl h) ⟨⟨rfl,.inr ⟨rfl,ac.imm l⟩⟩,trivial⟩ ⟨⟨rfl,.inr ⟨rfl,ac.imm r⟩⟩,trivial⟩ hlt
theorem AkP:CmV gl 372 [] [] GL:=⟨aH,bf,bf,(by grind [Aio])⟩
theorem Aeu{r:Ba}(hl:l.length<=15)(h:Pa GL l=some r):jg prog gl 314 [.rsl 0 0 l.length] [(0,BA l)] 1 (.rsl 0 0 l.length) [(0,BA r)] 1:=by refine pP func314 ?_;exact mt .ret (s0 6 gl [(2,.rsl 0 0 l.length)] [(0,BA r)] 1 1) [.rsl 0 0 l.length] [hso (gl:=gl) 4 1 AkP hl h] [hc (el l),hc (ac.imm r)]
def ZQ(d a b:Int)(x:Ab):Bool:=bif x.By=d then(bif a<=x.Seq then decide (x.Seq<=b)else false)else false
abbrev hsm(d c:Nat){l r:Ba}(hl:l.length<=15)(h:Pa GL l=some r)(hlt:[0].all (λk=>Nat.blt k c)=true:=by kernel_rfl):HP:=tN d [0] c [(0,BA l)] [.rsl 0 0 l.length] [(0,BA r)] (Aeu (gl:=gl) hl h) ⟨⟨rfl,.inr ⟨rfl,ac.imm l⟩⟩,trivial⟩ ⟨⟨rfl,.inr ⟨rfl,ac.imm r⟩⟩,trivial⟩ hlt
theorem AkQ{r:Ba}{a b:Int}(hn:ids.length<=15)(h:Pa GL (ids.filter (ZQ d a b))=some r)(hle:r.length=(ids.filter (ZQ d a b)).length):iV prog gl 313 [aE aj ids,iG d,iG a,iG b] 41 r.length (r.flatMap aj):=by
 rw[hle];refine OW func313 ?_;refine XU (l:=ids) aa (λk:Nat=>(s0 41 gl [(1,iG d),(2,iG a),(3,iG b),(9,.rsl 0 0 ((ids.take k).filter (ZQ d a b)).length),(12,aE aj ids),(13,iG (ah ids)),(14,iG (k:Int))] [(0,BA ((ids.take k).filter (ZQ d a b)))] 1 0)) 1110122 [] [hc (ac.imm [])] (λB k x hx c k5=>?_) (λB=>?_)
 .have hlt:=(cr hx).1;have hl:=Oa (ZQ d a b) (ids.take k);rw[Lv] at hl;have e:(ids.take (k+1)).filter (ZQ d a b)=(ids.take k).filter (ZQ d a b)++(bif ZQ d a b x then[x] else[]):=by grind [JD]
  rw[e] at k5;generalize (ids.take k).filter (ZQ d a b)=l at k5 hl⊢;unfold ZQ at k5;cases b1:decide (x.By=d) with
  |false=>rw[b1,Bf,Bf,LP] at k5;exact jw [hr 15 (CB hx),AB 16 (ac.ixZ c),AB 17 (ac.ptZ aW c),hr 21 b1,hbb 38 (Xl (q:=k) aa)] [hc (el l),hc (ac.imm l)] k5
  |true=>
   rw[b1,ax] at k5;cases b2:decide (a<=x.Seq) with
   |false=>rw[b2,Bf,Bf,LP] at k5;exact jw [hr 15 (CB hx),AB 16 (ac.ixZ c),AB 17 (ac.ptZ aW c),hr 21 b1,hr 26 b2,hbb 38 (Xl (q:=k) aa)] [hc (el l),hc (ac.imm l)] k5
   |true=>
    rw[b2,ax] at k5;cases b3:decide (x.Seq<=b) with
    |false=>rw[b3,Bf,LP] at k5;exact jw [hr 15 (CB hx),AB 16 (ac.ixZ c),AB 17 (ac.ptZ aW c),hr 21 b1,hr 26 b2,hr 32 b3,hbb 38 (Xl (q:=k) aa)] [hc (el l),hc (ac.imm l)] k5
    |true=>rw[b3,ax] at k5;exact jw [hr 15 (CB hx),AB 16 (ac.ixZ c),AB 17 (ac.ptZ aW c),hr 21 b1,hr 26 b2,hr 32 b3,Tn 37 ac 24 l x aa,hbb 38 (Xl (q:=k) aa)] [hc (el (l++[x])),hc (ac.imm (l++[x]))] k5
 .rw[EZ];have hl:=Oa (ZQ d a b) ids;exact EI [hr 15 (DS (s:=ids)),hsm (gl:=gl) 40 1 aa h] (ac.imm r)
theorem AkR{r:Ba}{a b:Int}(hn:ids.length<=15)(h:Pa GL (ids.filter (ZQ d a b))=some r)(hle:r.length=(ids.filter (ZQ d a b)).length):ba prog gl 313 [aE aj ids,iG d,iG a,iG b] (aE aj r):=(AkQ hn h hle).fn ac.sz (ac.len _) (ac.imm _)
end
def Ll(x:Bg):List Value:=[.int .i64 x.Device,.int .i64 x.Seq]
theorem AaH(d:Nat)(i j:Bg):bt prog (Op.equalIn (d+3) 199 (.agg (Ll i).toArray) (.agg (Ll j).toArray))=some (decide (i=j)):=by obtain⟨a0,a1⟩:=i;obtain⟨b0,b1⟩:=j;unfold Ll;rw[xV (fs:= #[⟨ "Device",3,0,false, "", "",0⟩,⟨ "Seq",3,1,false, "", "",8⟩]) aH aH];simp only[Array.toList];rw[uJ (k:= .i64) (k':= .i64) (a:=a0) (b:=b0) BU aH aH aH];rw[uJ (k:= .i64) (k':= .i64) (a:=a1) (b:=b1) BU aH aH aH];grind [Bg.mk.injEq,Op.eqFields,bz]
def EH(x:Bg):Value:= .agg (Ll x).toArray
theorem ON:MH prog 199 EH:=Qw (d:= .struct #[⟨ "Device",3,0,false, "", "",0⟩,⟨ "Seq",3,1,false, "", "",8⟩]) aH (λb k=>by cases b<;>(show _=_;kernel_rfl)) (λa b=>rfl) (λa b=>AaH 9997 a b)
theorem Am2(k:Bg):Instr.sameBits 10000 (EH k) (EH k)=true:=by(unfold EH Ll;simp[Instr.sameBits])
abbrev tMk:Bj:=279
abbrev oMk(m:FM Bg Int):Option Ob:=some (M7 tMk EH iG m)
abbrev tMy:Bj:=280
abbrev oMy(m:FM Int Int):Option Ob:=some (M7 tMy JG iG m)
abbrev oFk(l:List Bg):Option Ob:=some ⟨199,l.flatMap Bv,none⟩
def Vo(a b:Bg):Int:=AbD a.Device b.Device
section
variable {gl:CC}
theorem Ais(a b:Bg):ba prog gl 207 [.agg (Bv a),.agg (Bv b)] (iG (Vo a b)):=WY gl (by unfold UB;rw[AdD];rfl)
abbrev cmK:G:= .clo (.func 207) [] []
abbrev hcF(d:Nat)(x y:Bg):HP:=hf d (Ais (gl:=gl) x y)
theorem Am3{l c d:List Bg}{i j:Int}{a b:Bg}(h1:ji l i b=some c)(h2:ji c j a=some d):fh prog 197 (.rsl 0 0 l.length) j=some (.ref 0 (0+j.toNat*2)):=by rw[hZ h1];exact Bh.ixsZ 0 h2
theorem Ait{a b:Int}{l:List Bg}(h:inI Vo a b l=some r):jg prog gl 361 [.rsl 0 0 l.length,iG a,iG b,cmK] [(0,oFk l)] 1 (.tup []) [(0,oFk r)] 1:=by
 unfold inI at h;refine pP func361 ?_;refine pN (λs:List Bg×Int=>(s0 53 gl [(0,.rsl 0 0 s.1.length),(1,iG a),(2,iG b),(3,cmK),(8,iG s.2)] [(0,oFk s.1)] 1 1)) 1122 h [] [hc (el l),hc (aG 20 cmK aH),hc (Bh.imm l)] (λB s w hs k5 g=>?_);obtain⟨l1,i⟩:=s;unfold AaC at hs;dsimp only at hs;rcases bC hs with⟨b1,hs⟩|⟨b1,hs⟩
 .obtain⟨l2,e2,hs⟩:=bS hs;obtain rfl:=Bp hs;refine Ix 11221021 (s0 53 gl [(0,.rsl 0 0 l2.length),(1,iG a),(2,iG b),(3,cmK),(8,iG i)] [(0,oFk l2)] 1 1) ?_ λkk=>?_
  .exact jw [] [hc (el l2),hc (aG 20 cmK aH),hc (Bh.imm l2)] (k5 _ rfl)
  refine pN (λs:List Bg×Int=>(s0 53 gl [(0,.rsl 0 0 s.1.length),(1,iG a),(2,iG b),(3,cmK),(8,iG i),(9,iG s.2)] [(0,oFk s.1)] 1 1)) 1122102122 e2 [hr 14 b1] [hc (el l1),hc (aG 20 cmK aH),hc (Bh.imm l1)] (λn z v hz k e=>?_);obtain⟨l3,j⟩:=z;unfold AaB at hz;dsimp only at hz;rcases bC hz with⟨b2,hz⟩|⟨b2,hz⟩
  .obtain⟨x,c,hz⟩:=bS hz;obtain⟨y,d,hz⟩:=bS hz;rcases bC hz with⟨b3,hz⟩|⟨b3,hz⟩
   .obtain⟨m,e1,hz⟩:=bS hz;obtain⟨f,e3,hz⟩:=bS hz;obtain rfl:=Bp hz;exact jw [hr 20 b2,AB 25 (Bh.ixrZ 0 c),AB 26 (Bh.pt0Z Hp c),AB 30 (Bh.ixrZ 0 d),AB 31 (Bh.pt0Z Hp d),hcF (gl:=gl) 32 x y,hr 33 b3,AB 45 (Bh.ixrZ 0 d),AB 46 (Bh.pt0Z Hp d),AB 49 (Bh.ixrZ 0 c),AB 50 (Bh.pt0Z Hp c),AB 51 (Bh.ixsZ 0 e1),hw 51 (m.flatMap Bv) (Bh.putZ e1),AB 52 (Am3 e1 e3),hw 52 (f.flatMap Bv) (Bh.putZ e3)] [hc ((hZ e1).trans (hZ e3)),hc (aG 20 cmK aH),hc (Bh.imm f)] (k _ rfl)
   .obtain rfl:=Bp hz;obtain rfl:=e _ rfl;exact yl 11221021 [hr 20 b2,AB 25 (Bh.ixrZ 0 c),AB 26 (Bh.pt0Z Hp c),AB 30 (Bh.ixrZ 0 d),AB 31 (Bh.pt0Z Hp d),hcF (gl:=gl) 32 x y,hr 33 b3] [hc (el l3),hc (aG 20 cmK aH),hc (Bh.imm l3)] kk
  .obtain rfl:=Bp hz;obtain rfl:=e _ rfl;exact yl 11221021 [hr 20 b2] [hc (el l3),hc (aG 20 cmK aH),hc (Bh.imm l3)] kk
 .obtain rfl:=Bp hs;obtain rfl:=g _ rfl;exact mt .normal (s0 53 gl [] [(0,oFk l1)] 1 1) [] [hr 14 b1] [hc (Bh.imm l1)] (kd:=[(0,.row)])
theorem Aiu{l:List Bg}(hl:l.length<=12)(h:inI Vo ((0:Nat):Int) (l.length:Int) l=some r)(k:Int):jg prog gl 304 [.rsl 0 0 l.length,iG 0,iG (l.length:Int),iG k,cmK] [(0,oFk l)] 1 (.tup []) [(0,oFk r)] 1:=by have hs:=sb (a:=(l.length:Int)) (b:=((0:Nat):Int)) (z:=(l.length:Int)-((0:Nat):Int)) rfl aa;have hd:decide ((l.length:Int)-((0:Nat):Int)<=12)=true:=C6 aa;refine pP func304 ?_;refine pN (λ_:Unit=>(s0 148 gl [(0,.rsl 0 0 l.length),(1,iG ((0:Nat):Int)),(2,iG (l.length:Int)),(3,iG k),(4,cmK)] [(0,oFk l)] 1 1)) 11122 Lg [] [hc (el l),hc (aG 20 cmK aH),hc (Bh.imm l)] (λc z v hz2 d e=>?_);exact mt .ret (s0 148 gl [] [(0,oFk r)] 1 1) [] [hbb 23 hs,hr 25 hd,tN 30 [0] 1 [(0,oFk l)] [.rsl 0 0 l.length,iG ((0:Nat):Int),iG (l.length:Int),cmK] [(0,oFk r)] (Ait (gl:=gl) h) ⟨⟨rfl,.inr ⟨rfl,Bh.imm l⟩⟩,trivial⟩ ⟨⟨rfl,.inr ⟨rfl,Bh.imm r⟩⟩,trivial⟩] [hc (Bh.imm r)] (kd:=[(0,.row)])
theorem AgO{l:List Bg}(hl:l.length<=12)(h:inI Vo ((0:Nat):Int) (l.length:Int) l=some r):jg prog gl 206 [.rsl 0 0 l.length,cmK] [(0,oFk l)] 1 (.tup []) [(0,oFk r)] 1:=by
 have e:wU (ah l)=l.length:=by unfold ah;rw[gP];omega
 have hb:ba prog gl 107 [uG (wU (ah l):Int)] (iG (WZ l.length:Int)):=by grind [RC]
 refine pP func206 ?_;exact mt .normal (s0 14 gl [] [(0,oFk r)] 1 1) [] [AB 10 (C8 (ah l)),hf 11 hb,tN 13 [0] 1 [(0,oFk l)] [.rsl 0 0 l.length,iG 0,iG (l.length:Int),iG (WZ l.length:Int),cmK] [(0,oFk r)] (Aiu (gl:=gl) hl h (WZ l.length:Int)) ⟨⟨rfl,.inr ⟨rfl,Bh.imm l⟩⟩,trivial⟩ ⟨⟨rfl,.inr ⟨rfl,Bh.imm r⟩⟩,trivial⟩] [hc (Bh.imm r)] (kd:=[(0,.row)])
end
end Go.Proofs.YtjbfcillbjiajaaGreatDoor
