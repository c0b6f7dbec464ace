/- Texts. -/
import Derived.Test.YtghphhhpagagbaaGreatDoorQC
namespace Go.Proofs.YtghphhhpagagbaaGreatDoor
set_option linter.unusedSectionVars false
set_option linter.unusedVariables false
set_option linter.unusedSimpArgs false
open Go.RowKit Tryz
attribute [local irreducible] Tr dz Gp
variable (gl:CB)
variable {α:Type}{ids l l0 row:Bc}{a b c i j m p s u v w:Nat}{gg:Aj}{L:Bn}{P:Br}{st:St}{I:Gi}{pv x y:Ab}{r:List Bh}{d:Int}
def GD(s:List EA×Int):Option ((List EA×Int)⊕(List EA)):=
 bif 0<s.2 then(aS s.1 s.2).bind λa=>(aS s.1 (wI (s.2-1))).bind λb=>(wz a b).bind λr=>bif r<0 then(ji s.1 s.2 b).bind λc=>(ji c (wI (s.2-1)) a).bind λd=>some (.inl (d,wI (s.2-1)))else some (.inr s.1)else some (.inr s.1)
def Ln(n:Int)(s:List EA×Int):Option ((List EA×Int)⊕(List EA)):=
 bif s.2<n then(AA GD (s.1,s.2)).bind λl=>some (.inl (l,wI (s.2+1)))else some (.inr s.1)
def So(l:List EA):Option (List EA):=AA (Ln (ah l)) (l,wI (0+1))
structure Al2 {K V:Type} (m:FM K V):Prop where
 nd:(m.es.map (·.2.2)).Nodup
 lt:∀e∈m.es,e.2.2<m.clk
structure Al3 (m:FM EA Nat) (srt:List EA):Prop where
 ok:Al2 m
 n:m.es.length<=12
 sr:∀ks:List EA,ks.Perm (m.es.map (·.1))->So ks=some srt
 len:srt.length=m.es.length
theorem Lt{l:Bk}{k:Nat}{v:Int}(hl:l.length<=3)(hv:v≠0)(hk:l[k]?=some v)(h:∀j,j<k->l[j]?=some 0):iy l=some v:=by
 unfold iy;refine T.eq (.bind ((T.search l (λy=>decide (y≠0)) (λ_ y=>y) aa (λk x hx hk=>?_) ?_).mono ?_))
 .grind [fm,eA,au,aq]
 .unfold fm;rw[eF,Be]
 .rintro r (⟨rfl,h0⟩|⟨k',x,hx,hp,rfl,h0⟩)
  .have:=h0 v (bO hk);simp[hv] at this
  .refine .some ?_;grind
theorem Uj:iy [0,0,0]=some 0:=by
 unfold iy;refine T.eq (.bind ((T.search [0,0,0] (λy=>decide (y≠0)) (λ_ y=>y) BX (λk x hx hk=>?_) ?_).mono ?_))
 .grind [fm,eA,au,aq]
 .unfold fm;rw[eF,Be]
 .rintro r (⟨rfl,h0⟩|⟨k',x,hx,hp,rfl,h0⟩)
  .exact .some rfl
  grind
theorem EW(a b:Ab):pE a b=some (dt a b):=by
 by_cases hl:dt a b=true
 .rw[hl];exact MW hl
 have hl:dt a b=false:=by simpa using hl
 rw[hl];unfold pE;rw[Ax,Ax,MV];simp only[aL];unfold dt at hl;by_cases h1:a.By=b.By
 .rw[BA (by simp[h1])] at hl;by_cases h2:a.Seq=b.Seq
  .rw[BA (by simp[h2])] at hl;have h3:=LR hl;by_cases h4:b.Sum<a.Sum
   .rw[Lt (k:=2) (v:=1) aC BX (by simp[h3,h4]) (by grind)];rfl
   grind [Uj]
  .rw[Bx h2] at hl;have h3:=LR hl;rw[Lt (k:=1) (v:=1) aC BX (by simp[h3];omega) (by grind)];rfl
 .rw[Bx h1] at hl;have h3:=LR hl;rw[Lt (k:=0) (v:=1) aC BX (by simp[h3];omega) (by grind)];rfl
theorem EX{a b:Ab}(h1:dt a b=false)(h2:dt b a=false):a=b:=by obtain⟨x,y,z⟩:=a;obtain⟨c,d,e⟩:=b;grind [dt]
def Wx(x y:Int):Int:=bif x<y then-1 else bif y<x then 1 else 0
def GK(a b:Ab):Int:=bif dt a b then-1 else bif dt b a then 1 else 0
def Ot(I:Gi)(a b:Ab):Int:=bif Wx (I.lev a) (I.lev b)≠0 then Wx (I.lev a) (I.lev b)else GK a b
theorem Acq(x y:Int):f8 x y=some (Wx x y):=by unfold f8 Wx Fu;have h1:decide (x≠x)=false:=C6 aC;have h2:decide (y≠y)=false:=C6 aC;simp only[h1,h2,aL,Be];cases decide (x<y)<;>cases decide (y<x)<;>rfl
theorem AgJ(u v:Int):iy [u,v]=some (bif u≠0 then u else v):=by
 unfold iy;refine T.eq (.bind (T.forI 2 (λk=>0<k->u=0/\(1<k->v=0)) aa (λh=>absurd h (Nat.lt_irrefl _)) (λk hk a=>?_) λa=>?_))
 .unfold fm;rcases(by omega:k=0\/k=1) with rfl|rfl
  .show T ((bif u≠0 then _ else _)) _;refine .ite (λh=> .some (.some ?_)) λh=> .some ⟨rfl,λ_=>⟨by simpa using h,λh=>absurd h (Nat.lt_irrefl _)⟩⟩;rw[h];rfl
  .obtain⟨hu,_⟩:=a aa;show T ((bif v≠0 then _ else _)) _;refine .ite (λh=> .some (.some ?_)) λh=> .some ⟨rfl,λ_=>⟨hu,λ_=>by simpa using h⟩⟩;subst hu;rfl
 .obtain⟨hu,hv⟩:=a aa;have hv:=hv aa;subst hu;subst hv;exact .some (.some rfl)
theorem AiK(h:Tz gg)(x:Ab):Fa gg x=some ((PA gg).lev x):=by
 unfold Fa FR;cases e:gg.at_.get x with
 |none=>show _=some (match MY gg x with|some y=>y.level|none=>0);rw[Wq e];rfl
 |some n=>obtain⟨k,y,rfl,hz,hn,hk,hm⟩:=TB h e;show _=some (match MY gg x with|some y=>y.level|none=>0);rw[hn];simp only[Option.isSome_some,ax,M2,hz,aL]
theorem AgK(h:Tz gg)(a b:Ab):K3 ⟨gg⟩ a b=some (Ot (PA gg) a b):=by unfold K3;rw[EW,EW];unfold Ot GK;cases h1:dt a b<;>cases h2:dt b a<;>(simp only[ax,Be,aL,AiK h,Acq,AgJ])
theorem AgL{gl:CB}(h:Tz gg)(a b:Ab):ba prog gl 87 [.agg (M4 ⟨gg⟩),.agg (aj a),.agg (aj b)] (iG (Ot (PA gg) a b)):=Q9 gl (AgK h a b)
theorem AgM{gl:CB}{s:Bc}(hn:s.length<=1000)(v:Ab):ba prog gl 133 [aE aj s,.agg (aj v)] (bG (s.any λy=>decide (v=y))):=Jd gl (Sv aa v)
abbrev dR(l:Bc)(i:Nat):Bn:=(l.flatMap aj).take (i*3)++(l.drop (i+1)).flatMap aj++(l.flatMap aj).drop (i*3+(l.length-(i+1))*3)
abbrev zD(L:Bn)(n:Nat):Bn:=L.take (n*3)++(bN zI (1*3)).map .lit++L.drop (n*3+1*3)
theorem AbE(h:i<l.length):(dR l i).length=l.length*3:=by grind [AH.len,ac]
theorem AiL(l:Bc)(i:Nat):∀g∈dR l i,bB g:=by grind [AH.imm,ac]
theorem AiM(h:∀g∈L,bB g)(n:Nat):∀g∈zD L n,bB g:=by grind [mN]
theorem AgN{l:Bc}{i:Nat}(h:i<l.length):(zD (dR l i) (l.length-1)).take ((l.length-1)*3)=(l.eraseIdx i).flatMap aj:=by
 have hl:=AbE h;have e1:(zD (dR l i) (l.length-1)).take ((l.length-1)*3)=(dR l i).take ((l.length-1)*3):=by grind
 have e2:(l.flatMap aj).take (i*3)=(l.take i).flatMap aj:=by grind [OQ,AH.len,ac,Nv]
 grind [AH.len,ac]
theorem cI:dp prog 29=some 25/\bw prog 25=some 3/\jj prog 25=some zI:=⟨aH,aH,aH⟩
def hai(d:Nat){P:Br}{σ:aQ}{t:Bo}{gx gy:G}{i n:Nat}{ob:Ob}(h:QN P σ t gx gy=some (i,ob,n)):HP:=⟨some (.i d i ob n),QN P (Un σ (fR gx++fR gy)) t gx gy=some (i,ob,n),(AbZ Hi).symm.trans h⟩
theorem AiN{l:Bc}{i:Nat}(h:i<l.length):QN prog [(0,Bw l)] 29 (.rsr 0 i) (.rsl 0 (0+((i+1:Nat):Int).toNat*3) (l.length-((i+1:Nat):Int).toNat))=some (0,⟨25,dR l i,none⟩,l.length-1):=by
 have e4:ag [(0,Bw l)] 0=some ⟨25,l.flatMap aj,none⟩:=rfl;have hlen:=ac.len l;have e5:fO [(0,Bw l)] 3 (.rsl 0 ((i+1)*3) (l.length-(i+1)))=some ((l.drop (i+1)).flatMap aj,l.length-(i+1)):=by
  unfold fO;simp only[e4,aL];rw[Bx (by rw[hlen];omega)];congr 2;have:(l.flatMap aj).drop ((i+1)*3)=(l.drop (i+1)).flatMap aj:=by
   conv=>lhs;rw[<-OQ (i+1) l,List.flatMap_append]
   grind [List.drop_left',AH.len,ac]
  grind [AH.len,ac]
 rw[Fs,Nat.zero_add];grind [QN,cI]
theorem AiO{l:Bc}{i:Nat}(h:i<l.length):sJ prog 29 (.rsl 0 0 l.length) (iG (i:Int)) (iG ((i+1:Nat):Int)) (iG (ah l))=some .junk:=by unfold sJ ah;grind [xL,cI]
theorem AiP{l:Bc}{i:Nat}(h:i<l.length):Jt prog [] 29 (.rsl 0 0 l.length) none (some (i:Int))=some (.rsr 0 i):=by unfold Jt;grind [cI]
theorem AiQ{l:Bc}{i:Nat}(h:i<l.length):Jt prog [ob 0 25 (dR l i)] 29 (.rsr 0 (l.length-1)) (some ((l.length-1:Nat):Int)) (some (ah l))=some (.rsl 0 ((l.length-1)*3) 1):=by have e4:ag [ob 0 25 (dR l i)] 0=some (⟨25,dR l i,none⟩:Ob):=rfl;unfold Jt ah;simp only[cI.1,cI.2.1,e4];rw[Bx (by grind [AbE]),Fs,Fs,show l.length-(l.length-1)=1 by omega]
theorem AiR{l:Bc}{i:Nat}(h:i<l.length):rF prog [ob 0 25 (dR l i),(1,some BC),(0,Bw l)] 29 (.rsl 0 ((l.length-1)*3) 1)=some (0,⟨25,zD (dR l i) (l.length-1),none⟩):=by have e4:ag [ob 0 25 (dR l i),(1,some BC),(0,Bw l)] 0=some (⟨25,dR l i,none⟩:Ob):=rfl;unfold rF;simp only[cI.1,cI.2.1,cI.2.2,e4];rw[Bx ⟨rfl,aa,BX,by rw[AbE h];omega,rfl⟩]
theorem YF{l:Bc}{i:Nat}(hl:l.length<=1000)(h:i<l.length):jg prog gl 244 [.rsl 0 0 l.length,iG (i:Int),iG ((i+1:Nat):Int)] [(0,Bw l)] 1 (.rsl 0 0 (l.length-1)) [(0,Bw (l.eraseIdx i))] 1:=by have hz:=AgN h;have hi:=AiM (AiL l i) (l.length-1);refine pP func244 ?_;refine pO 11111110 (J:=(s0 33 gl [(0,.rsl 0 0 (l.length-1))] [ob 0 25 (zD (dR l i) (l.length-1))] 1 1)) [hcv 13 (g:= .junk) (AiO h),hr 16 (show decide ((i:Int)=((i+1:Nat):Int))=false from C6 aa),hcv 22 (g:= .rsr 0 i) (AiP h),AB 25 (ac.sufZ 0 (l:=l) (i:=((i+1:Nat):Int)) (y:=l.drop (i+1)) (by unfold mc;rw[Bx ⟨aa,by rw[Fs];omega⟩,Fs])),hai 26 (AiN h),hcv 31 (g:= .rsl 0 ((l.length-1)*3) 1) (AiQ h),hcl 2 (AiR h)] [hc (rfl:l.length-1=l.length-1),hc hi] ?_ [] [(0,0)] [(0,.row)];refine dSh 0 ((l.length-1)*3) ?_;show Gp _ _ _ _ _ _ (s0 33 gl [(0,.rsl 0 0 (l.length-1))] ((ob 0 25 ((zD (dR l i) (l.length-1)).take ((l.length-1)*3)))::[ob 0 25 (zD (dR l i) (l.length-1))]) 1 1);rw[hz];exact mt .ret (s0 33 gl [(6,.rsl 0 0 (l.length-1))] [(0,Bw (l.eraseIdx i))] 1 1) [.rsl 0 0 (l.length-1)] [] [hc (rfl:l.length-1=l.length-1),hc (ac.imm (l.eraseIdx i))]
theorem Acr{gl:CB}{fid:FuncId}{gs gs':Bn}{σR:aQ}{t:Bo}{l:Bn}(hc:aK P fid=true)(hF:iV P gl fid gs' t m l)(hr:∀g∈l,∃v,g= .lit v)(hl:gs'.length=gs.length)(hz:∀st:St,(∀i o,ag σR i=some o->ag st.σ i=some o)->∀(i:Nat) (x y:G),gs[i]?=some x->gs'[i]?=some y->ve P st x y):oJ P gl fid gs σR c (.rsl c 0 m) [(c,some ⟨t,l,none⟩)] (c+1):=λo st y xs ats fst cap ho hd hx hgs hgl b a=>by grind [H4,UT]
abbrev tSe:Bo:=190
abbrev oSe(m:FM Int Int):Option Ob:=some (MZ tSe JN iG m)
theorem Ahu{σ:aQ}(m:FM Int Int)(h:ag σ 4=oSe m)(k v:Int):dZ prog σ tSe (.mref 4) (iG k) (iG v)=some (4,MZ tSe JN iG (C3 m k v)):=AeH (P:=prog) (et:=3) O6 Acd aH (k:=k) (gk:=iG k) rfl (m:=m) h v
theorem Ahv(k:Ab):Instr.sameBits 10000 (ga k) (ga k)=true:=by(unfold ga Pe;simp[Instr.sameBits])
theorem AiS{σ:aQ}{i:Nat}(m:FM Ab Bool)(h:ag σ i=Wv m)(k:Ab):dZ prog σ tMI (.mref i) (.agg (aj k)) (bG true)=some (i,MZ tMI ga bG (C3 m k true)):=AeH (P:=prog) (et:=4) jt Ahv aH (k:=k) (gk:= .agg (aj k)) rfl (m:=m) h true
def SG(cs:LQ):FM Int Int:=cs.foldl (λm c=>C3 m c.Device 12) ⟨[],0⟩
def Uu(m:FM Int Int)(s:Bk):Nat->FM Int Int
 |0=>m
 |k+1=>match s[k]? with
  |some d=>C3 (Uu m s k) d (k:Int)
  |none=>Uu m s k
def Ou(cs:LQ)(s:Bk):FM Int Int:=Uu (SG cs) s s.length
abbrev wV(al:AQ)(v:FM Ab Bool):AQ:={al with void:=v}
def vFu(I:Gi)(row a:Bc)(x:Ab)(v:FM Ab Bool)(y:Ab):FM Ab Bool:=bif Ja I x y then C3 v y true else bif a.any (λz=>decide (y=z))&&DW I row x y then C3 v y true else v
def vAl(I:Gi)(row a:Bc)(x:Ab)(v:FM Ab Bool):FM Ab Bool:=row.foldl (vFu I row a x) v
def Ae9(I:Gi)(al:AQ)(sen:FM Int Int)(s:Bc×FM Ab Bool):Option ((Bc×FM Ab Bool)⊕FM Ab Bool):=
 bif s.1.length<=1000 then
 (λl1:Bc=>bif ah l1=0 then some (.inr s.2)else(AA (Ae2 I al.row l1 sen) (0,-1)).bind λi=>(aS l1 i).bind λx=>
   bif(JQ I (wV al s.2)).any (λz=>decide (x=z))then some (.inl (l1.eraseIdx i.toNat,vAl I al.row (l1.eraseIdx i.toNat) x s.2))else some (.inl (l1.eraseIdx i.toNat,C3 s.2 x true)))
 (s.1.filter λx=> !Ba (s.2.get x))
 else none
def Afa(I:Gi)(al:AQ)(sen:FM Int Int):Option (FM Ab Bool):=AA (Ae9 I al sen) (al.row.filter (λx=> !!JF (I.o x).Kind),al.void)
abbrev σ3(al:AQ):aQ:=[(0,oLi al 1 2),(1,Wv al.void),(2,Wv al.fork)]
abbrev σ5(al:AQ)(sen:FM Int Int):aQ:=σ3 al++[(3,oBl 0),(4,oSe sen)]
abbrev σ6(al:AQ)(sen:FM Int Int)(l:Bc):aQ:=σ5 al sen++[(5,Bw l)]
theorem AiT(m:FM Int Int):∀e∈mEs JN iG m,bB e.2.1:=by grind [mN]
theorem Afb{κ:Nat->Fp}{b b':Nat}(h:κ b=some b'):∀ob,oBl b'=some ob->∃o,oBl b=some o/\MB κ o ob:=λob e=>by cases e;refine⟨_,rfl,rfl,.inl ?_⟩;grind [qg]
theorem aaV{κ:Nat->Fp}{al:AQ}{v v' f f':Nat}(h:κ v=some v')(h2:κ f=some f'):∀ob,oLi al v' f'=some ob->∃o,oLi al v f=some o/\MB κ o ob:=λob e=>by cases e;refine⟨_,rfl,rfl,.inl ?_⟩;grind [qg]
theorem PB{κ:Nat->Fp}{m:FM Ab Bool}:∀ob,Wv m=some ob->∃o,Wv m=some o/\MB κ o ob:=λob e=>by cases e;exact⟨_,rfl,rfl,rfl,rfl,rfl,.inr ⟨rfl,AbC m⟩⟩
theorem Acs{κ:Nat->Fp}:∀ob,Bw l=some ob->∃o,Bw l=some o/\MB κ o ob:=λob e=>by cases e;exact⟨_,rfl,rfl,.inr ⟨rfl,ac.imm l⟩⟩
theorem AkH(al:AQ)(l:Bc):InP (vi [5,3,0,1,2]) [5,3,0,1,2] [(5,Bw l),(3,oBl 0),(0,oLi al 1 2),(1,Wv al.void),(2,Wv al.fork)] ((0,Bw l)::σL al):=λk o0 h=>by
 match k with
 |0=>obtain⟨o,h1,h2⟩:=Acs (κ:=vi [5,3,0,1,2]) o0 h;exact⟨5,o,rfl,h1,h2⟩
 |1=>obtain⟨o,h1,h2⟩:=Afb (κ:=vi [5,3,0,1,2]) (b:=0) (b':=2) rfl o0 h;exact⟨3,o,rfl,h1,h2⟩
 |2=>obtain⟨o,h1,h2⟩:=aaV (κ:=vi [5,3,0,1,2]) (al:=al) (v:=1) (v':=3) (f:=2) (f':=4) rfl rfl o0 h;exact⟨0,o,rfl,h1,h2⟩
 |3=>obtain⟨o,h1,h2⟩:=PB (κ:=vi [5,3,0,1,2]) (m:=al.void) o0 h;exact⟨1,o,rfl,h1,h2⟩
 |4=>obtain⟨o,h1,h2⟩:=PB (κ:=vi [5,3,0,1,2]) (m:=al.fork) o0 h;exact⟨2,o,rfl,h1,h2⟩
 |j+5=>cases h
theorem AiU(al:AQ)(l d:Bc)(c:Nat):Aag (kO ((0,Bw l)::σL al) [5,3,0,1,2] 5 0 c) ((0,Bw d)::σL al) [(5,Bw d),(3,oBl 0),(0,oLi al 1 2),(1,Wv al.void),(2,Wv al.fork)]:=λi o h0=>by
 generalize hκ:kO ((0,Bw l)::σL al) [5,3,0,1,2] 5 0 c=κ;have h0':κ 0=some 5:=by rw[<-hκ];rfl
 have h1':κ 1=some 3:=by rw[<-hκ];rfl
 have h2':κ 2=some 0:=by rw[<-hκ];rfl
 have h3':κ 3=some 1:=by rw[<-hκ];rfl
 have h4':κ 4=some 2:=by rw[<-hκ];rfl
 match i with
 |5=>obtain⟨a,h1,h2⟩:=Acs (κ:=κ) o h0;exact⟨0,a,h0',h1,h2⟩
 |3=>obtain⟨a,h1,h2⟩:=Afb (κ:=κ) (b:=2) (b':=0) h2' o h0;exact⟨1,a,h1',h1,h2⟩
 |0=>obtain⟨a,h1,h2⟩:=aaV (κ:=κ) (al:=al) (v:=3) (v':=1) (f:=4) (f':=2) h3' h4' o h0;exact⟨2,a,h2',h1,h2⟩
 |1=>obtain⟨a,h1,h2⟩:=PB (κ:=κ) (m:=al.void) o h0;exact⟨3,a,h3',h1,h2⟩
 |2=>obtain⟨a,h1,h2⟩:=PB (κ:=κ) (m:=al.fork) o h0;exact⟨4,a,h4',h1,h2⟩
 |4=>cases h0
 |j+6=>cases h0
theorem AkI:aK prog 239=true:=aH
abbrev hdl(d c:Nat){fi:FuncId}{al:AQ}{del:Ab->Bool}{gl:CB}(a:aK prog fi=true)(hF:∀x,ba prog gl fi [.agg (aj x),.ptr [.ptr (BU al) 0] 0] (bG (del x))){l l':Bc}(hl:l.length<=1000)(e:(l.filter λx=> !del x)=l')(hlt:[5,3,0,1,2].all (λi=>Nat.blt i c)=true:=by kernel_rfl):HP:=
 hfm d [5,3,0,1,2] 5 0 c [(5,Bw l),(3,oBl 0),(0,oLi al 1 2),(1,Wv al.void),(2,Wv al.fork)] [.rsl 5 0 l.length,.clo (.func fi) [] [.ref 3 0]] [(5,Bw l'),(3,oBl 0),(0,oLi al 1 2),(1,Wv al.void),(2,Wv al.fork)] (e▸AbD a hF hl) (AkH al l) (AiU al l l' c) AkI hlt
section
variable {gl:CB} {P:Br}
theorem aaW(h:ag st.σ i=Bw l):ve prog st (.rsl i 0 l.length) (aE aj l):=FD (s:=3) h aH (by grind [AH.len,ac]) (ac.len l) (by grind [jB,AH.imm,ac])
theorem AaK{al:AQ}{l:Bc}{sen:FM Int Int}{r:Int}{c:Nat}(hF:ba prog gl 243 [.ptr (BU al) 0,aE aj l,FM.g JN iG sen] (iG r)):oJ prog gl 243 [.ref 0 0,.rsl 5 0 l.length,.mref 4] (σ6 al sen l) c (iG r) [] c:=
 Pr aH hF (lR _) rfl λst h i x y h1 h2=>by
  match i with
  |0=>grind [aaI]
  |1=>cases h1;cases h2;exact aaW (h 5 _ rfl)
  |2=>cases h1;cases h2;exact NQ (h 4 _ rfl) λe _=>jB (mN _)
  |j+3=>cases h1
theorem aaX{al:AQ}{c:Nat}(hF:iV prog gl 154 [.ptr (BU al) 0] 25 (JQ I al).length ((JQ I al).flatMap aj)):oJ prog gl 154 [.ref 0 0] (σ3 al) c (.rsl c 0 (JQ I al).length) [(c,Bw (JQ I al))] (c+1):=
 Acr aH hF (Zy _) rfl (by grind [aaI])
theorem aaZ{l:Bc}{x:Ab}{i c:Nat}(hn:l.length<=1000):oJ prog gl 133 [.rsl i 0 l.length,.agg (aj x)] [(i,Bw l)] c (bG (l.any λy=>decide (x=y))) [] c:=
 Pr aH (AgM hn x) (lR _) rfl λst h j y z h1 h2=>by
  match j with
  |0=>grind [aaW]
  |1=>cases h1;cases h2;exact jB (aG 20 (.agg (aj x)) aH)
  |j+2=>cases h1
theorem Afc{al:AQ}(h:QL gl al.g I)(hn:al.row.length<=1000)(x y:Ab){c:Nat}:oJ prog gl 246 [.ref 0 0,.agg (aj x),.agg (aj y)] (σ3 al) c (bG (DW I al.row x y)) [] c:=
 Pr aH (AaI h hn x y) (lR _) rfl λst h i p q h1 h2=>by
  match i with
  |0=>grind [aaI]
  |1=>cases h1;cases h2;exact jB (aG 20 (.agg (aj x)) aH)
  |2=>cases h1;cases h2;exact jB (aG 20 (.agg (aj y)) aH)
  |j+3=>cases h1
end
abbrev oS(al:AQ)(sen:FM Int Int):List HP:=mLs al++[hc (AiT sen)]
abbrev ρ5:DD:=[(0,0),(1,1),(2,2),(3,3),(4,4)]
abbrev ρ6:DD:=ρ5++[(5,5)]
abbrev ρ7:DD:=ρ6++[(6,6)]
abbrev kd5:List (Nat×Rk):=[(5,.row)]
abbrev stM(al:AQ)(sen:FM Int Int)(s:Bc×FM Ab Bool):St:=(s0 115 fI [(1,.ref 3 0),(2,.mref 4),(7,.rsl 5 0 s.1.length)] (σ6 (wV al s.2) sen s.1) 6 3)
abbrev oMn(al:AQ)(sen:FM Int Int)(s:Bc×FM Ab Bool)(n:Nat)(h:n=s.1.length):List HP:=hc h::oS (wV al s.2) sen++[hc (ac.imm s.1)]
abbrev stV(al:AQ)(sen:FM Int Int)(l:Bc)(x:Ab)(v:FM Ab Bool)(k:Nat):St:=(s0 115 fI [(1,.ref 3 0),(2,.mref 4),(7,.rsl 5 0 l.length),(9,.ref 6 0),(85,aE aj al.row),(86,iG (ah al.row)),(87,iG (k:Int))] (σ6 (wV al v) sen l++[(6,Xc x)]) 7 3)
theorem Ac9{al:AQ}(h:AeZ fI al I){s:Bk}(hS:ba prog fI 74 [.ptr (Ag al.g) 0,aE aj al.row] (aE cZ s))(hsn:s.length<=1000){v:FM Ab Bool}(hv0:Afa I al (Ou I.cards s)=some v):SW prog fI 153 [.ref 0 0] (σ3 al) 3 3 (.tup []) (σ3 (wV al v)):=by
 have hn:=h.n;have hcn:=h.c.n;have hcl:cU al.row=some al.row:=by unfold cU aT;rw[Bx cq];rfl
 unfold Afa at hv0;refine dFP func153 ?_;refine pN (λk:Nat=>(s0 115 fI [(1,.ref 3 0),(2,.mref 4),(17,aE bv I.cards),(18,iG (ah I.cards)),(19,iG (k:Int))] (σ5 al (SG (I.cards.take k))) 5 3)) 1110122 (EO (n:=I.cards.length) aa) [hf 17 h.g.cards] (oS al (SG (I.cards.take 0))) (λB k w hs k5 r=>?_) [] ρ5 [];unfold Ko at hs;split at hs
 .rename_i hlt;obtain rfl:=Bf hs;obtain⟨x,hx⟩:∃x,I.cards[k]?=some x:=⟨_,DR hlt⟩;have hz:=Bg hx;have k5:=k5 _ rfl;unfold SG at k5⊢;rw[JJ,hx,Option.toList_some,On,List.foldl_cons,List.foldl_nil] at k5;generalize (I.cards.take k).foldl (λ(m:FM Int Int) (c:DH)=>C3 m c.Device (12:Int)) ⟨[],0⟩=m at k5⊢;exact jw [hr 20 (Dd hx),AB 21 (bT.ixZ hz),AB 22 (bT.ptZ E2 hz),hmp 6 (Ahu (σ:=(ob 5 78 (bv x))::σ5 al m) m rfl x.Device 12),hbb 26 (Xl (q:=k) aa)] (oS al (C3 m x.Device 12)) k5 [] ρ5 []
 split at hs
 .rename_i he;subst he;clear r k5 hs;rw[EQ];refine yl (Bs':=[]) [1,1,0,1] (J:=(s0 115 fI [(1,.ref 3 0),(2,.mref 4)] (σ5 al (SG I.cards)) 5 3)) [hr 20 (DZ (s:=I.cards))] (oS al (SG I.cards)) ?_;refine pN (λk:Nat=>(s0 115 fI [(1,.ref 3 0),(2,.mref 4),(35,aE cZ s),(36,iG (ah s)),(37,iG (k:Int))] (σ5 al (Uu (SG I.cards) s k)) 5 3)) 11110122 (EO (n:=s.length) aa) [hf 35 hS] (oS al (SG I.cards)) (λt k A hs k5 r=>?_) [] ρ5 [];unfold Ko at hs;split at hs
  .rename_i hlt;obtain rfl:=Bf hs;obtain⟨x,hx⟩:∃x,s[k]?=some x:=⟨_,DR hlt⟩;have hz:=Bg hx;have k5:=k5 _ rfl;have e:Uu (SG I.cards) s (k+1)=C3 (Uu (SG I.cards) s k) x (k:Int):=by show(match s[k]? with|some d=>_|none=>_)=_;rw[hx]
   rw[e] at k5;generalize Uu (SG I.cards) s k=m at k5⊢;exact jw [hr 38 (Dd hx),AB 40 (rZ.ixZ hz),AB 41 (rZ.p1Z tZ hz),hmp 5 (Ahu (σ:=σ5 al m) m rfl x (k:Int)),hbb 45 (Xl (q:=k) aa)] (oS al (C3 m x (k:Int))) k5 [] ρ5 []
  split at hs
  .rename_i he;subst he;clear r k5 hs;rw[show Uu (SG I.cards) s s.length=Ou I.cards s from rfl];generalize Ou I.cards s=sen at hv0⊢;refine yl (Bs':=[]) [1,1,1,0,1] (J:=(s0 115 fI [(1,.ref 3 0),(2,.mref 4)] (σ5 al sen) 5 3)) [hr 38 (DZ (s:=s))] (oS al sen) ?_;refine pN (stM al sen) [1,1,1,1,1,2,2] hv0 [ho 50 [aE aj al.row] [] (jY fI hcl) (Zy _),hdl 52 6 (al:=al) (fi:=240) (del:=λx=> !JF (I.o x).Kind) aH (λx=>AgH h.g x) (l:=al.row) hn rfl] (oMn al sen (al.row.filter (λx=> !!JF (I.o x).Kind),al.void) _ rfl) (λC z D hs k5 r=>?_) [] ρ6 kd5;obtain⟨l,vd⟩:=z;unfold Ae9 at hs;dsimp only at hs;cases b0:decide (l.length<=1000) with
   |false=>rw[b0] at hs;cases hs
   |true=>
   rw[b0,ax] at hs;have hln:=DL b0;have h':AeZ fI (wV al vd) I:=⟨h.g,h.c,h.o,h.n⟩;have hkl:=λx y=>YC h.g x y;generalize e1:(l.filter λx=> !Ba (vd.get x))=l1 at hs;have hl1:l1.length<=1000:=by rw[<-e1];exact LD (Mj _ _) hln
   rcases bC hs with⟨b1,hs⟩|⟨b1,hs⟩
   .obtain rfl:=Bf hs;obtain rfl:=r _ rfl;exact ZT [hdl 55 6 (gl:=fI) (al:=wV al vd) (fi:=242) (del:=λx=>Ba (vd.get x)) aH (λx=>aaS x) (l:=l) hln e1,hr 58 b1] (mLs (wV al vd)) [(0,0),(1,1),(2,2)] []
   .obtain⟨i,ei,hs⟩:=bS hs;obtain⟨x,ex,hs⟩:=bS hs;obtain⟨k,rfl⟩:∃k:Nat,i=(k:Int):=by
     unfold aS at ex;split at ex
     .exact⟨i.toNat,aa⟩
     .cases ex
    have hkx:l1[k]?=some x:=by rw[<-au];exact ex
    have f:=(cr hkx).1;rw[Fs] at hs;have hle:l1.length-1=(l1.eraseIdx k).length:=by rw[List.length_eraseIdx,Bx f]
    have hF:=Ae3 h'.g h'.n hl1 ei;have hg:=Acp h';have hgn:(JQ I (wV al vd)).length<=1000:=LD V2.2 (by simpa using hn);cases c2:(JQ I (wV al vd)).any (λz=>decide (x=z)) with
    |false=>rw[c2,Be] at hs;obtain rfl:=Bf hs;have j:=aaZ (gl:=fI) (l:=JQ I (wV al vd)) (x:=x) (i:=7) (c:=8) hgn;rw[c2] at j;exact jw [hdl 55 6 (gl:=fI) (al:=wV al vd) (fi:=242) (del:=λx=>Ba (vd.get x)) aH (λx=>aaS x) (l:=l) hln e1,hr 58 b1,hz 62 [0,1,2,3,4,5] (AaK (c:=6) hF),AB 65 (ac.ixrZ 5 ex),AB 66 (ac.pt0Z aW ex),hbb 70 (Xl (q:=k) aa),tN 71 [5] 7 [(5,Bw l1)] [.rsl 5 0 l1.length,iG (k:Int),iG ((k+1:Nat):Int)] [(0,Bw (l1.eraseIdx k))] (YF fI hl1 f) ⟨⟨rfl,.inr ⟨rfl,ac.imm l1⟩⟩,trivial⟩ ⟨⟨rfl,.inr ⟨rfl,ac.imm _⟩⟩,trivial⟩,hz 73 [0,1,2] (aaX (c:=7) hg),hz 75 [7] j,hmr 8 (AiS (σ:=[(1,Wv vd)]) (i:=1) vd rfl x)] (oMn al sen (l1.eraseIdx k,C3 vd x true) _ hle) (k5 _ rfl) [] ρ6 kd5
    |true=>
     rw[c2,ax] at hs;obtain rfl:=Bf hs;have k5:=k5 _ rfl;have j:=aaZ (gl:=fI) (l:=JQ I (wV al vd)) (x:=x) (i:=7) (c:=8) hgn;rw[c2] at j;refine pN (λq:Nat=>stV al sen (l1.eraseIdx k) x ((al.row.take q).foldl (vFu I al.row (l1.eraseIdx k) x) vd) q) [1,1,1,1,1,2,2,2,1,1,1,1,1,1,1,2,2] (EO (n:=al.row.length) aa) [hdl 55 6 (gl:=fI) (al:=wV al vd) (fi:=242) (del:=λx=>Ba (vd.get x)) aH (λx=>aaS x) (l:=l) hln e1,hr 58 b1,hz 62 [0,1,2,3,4,5] (AaK (c:=6) hF),AB 65 (ac.ixrZ 5 ex),AB 66 (ac.pt0Z aW ex),hbb 70 (Xl (q:=k) aa),tN 71 [5] 7 [(5,Bw l1)] [.rsl 5 0 l1.length,iG (k:Int),iG ((k+1:Nat):Int)] [(0,Bw (l1.eraseIdx k))] (YF fI hl1 f) ⟨⟨rfl,.inr ⟨rfl,ac.imm l1⟩⟩,trivial⟩ ⟨⟨rfl,.inr ⟨rfl,ac.imm _⟩⟩,trivial⟩,hz 73 [0,1,2] (aaX (c:=7) hg),hz 75 [7] j] (oMn al sen (l1.eraseIdx k,vd) _ hle) (λE q F hs b H=>?_) [] ρ7 kd5;have hl2:(l1.eraseIdx k).length<=1000:=aa;generalize l1.eraseIdx k=l2 at k5 b hl2⊢;unfold Ko at hs;split at hs
     .rename_i hlt;obtain rfl:=Bf hs;obtain⟨y,hy⟩:∃y,al.row[q]?=some y:=⟨_,DR hlt⟩;have a:=Bg hy;have b:=b _ rfl;rw[JJ,hy,Option.toList_some,On,List.foldl_cons,List.foldl_nil] at b;generalize (al.row.take q).foldl (vFu I al.row l2 x) vd=u at b⊢;have hk:=hkl x y;unfold vFu at b;cases kk:Ja I x y with
      |true=>rw[kk] at hk b;exact jw [hr 88 (Dd hy),AB 89 (ac.ixZ a),AB 90 (ac.ptZ aW a),hf 97 hk,hmr 8 (AiS (σ:=[(1,Wv u)]) (i:=1) u rfl y),hbb 114 (Xl (q:=q) aa)] (oMn al sen (l2,C3 u y true) _ rfl) b [] ρ7 kd5
      |false=>
       rw[kk,Be] at b;rw[kk] at hk;have p:=aaZ (gl:=fI) (l:=l2) (x:=y) (i:=5) (c:=8) hl2;cases cc:l2.any (λz=>decide (y=z)) with
       |false=>rw[cc] at p b;exact jw [hr 88 (Dd hy),AB 89 (ac.ixZ a),AB 90 (ac.ptZ aW a),hf 97 hk,hz 101 [5] p,hbb 114 (Xl (q:=q) aa)] (oMn al sen (l2,u) _ rfl) b [] ρ7 kd5
       |true=>
        have hw:=Afc (al:=wV al u) (c:=8) h.g h.n x y;rw[show(wV al u).row=al.row from rfl] at hw;rw[cc,Bool.true_and] at b;rw[cc] at p;cases ww:DW I al.row x y with
        |false=>rw[ww] at hw b;exact jw [hr 88 (Dd hy),AB 89 (ac.ixZ a),AB 90 (ac.ptZ aW a),hf 97 hk,hz 101 [5] p,hz 106 [0,1,2] hw,hbb 114 (Xl (q:=q) aa)] (oMn al sen (l2,u) _ rfl) b [] ρ7 kd5
        |true=>rw[ww] at hw b;exact jw [hr 88 (Dd hy),AB 89 (ac.ixZ a),AB 90 (ac.ptZ aW a),hf 97 hk,hz 101 [5] p,hz 106 [0,1,2] hw,hmr 8 (AiS (σ:=[(1,Wv u)]) (i:=1) u rfl y),hbb 114 (Xl (q:=q) aa)] (oMn al sen (l2,C3 u y true) _ rfl) b [] ρ7 kd5
     .split at hs
      .rename_i he;subst he;unfold vAl at k5;rw[EQ];generalize al.row.foldl (vFu I al.row l2 x) vd=u at k5⊢;exact jw [hr 88 (DZ (s:=al.row))] (oMn al sen (l2,u) _ rfl) k5 [] ρ6 kd5
      .cases hs
  .cases hs
 .cases hs
theorem AiV{K V:Type}:QI (⟨[],0⟩:FM K V):=by grind [QI,FxOk]
def ofV(vs:Bc):FM Ab Bool:=vs.foldl (λm x=>C3 m x true) ⟨[],0⟩
theorem AiW{vs:Bc}:QI (ofV vs):=by
 have key:∀(l:Bc) (m:FM Ab Bool),QI m->QI (l.foldl (λm x=>C3 m x true) m):=by intro l;induction l<;>grind [NR]
 exact key vs _ AiV
def Xd(gg:Aj)(row vs:Bc):AQ:=⟨gg,row,ofV vs,ofV vs⟩
abbrev hsI(d i c:Nat){m:FM Ab Bool}(k:Ab):HP:=hme d [i] c (Aiw (P:=prog) (σ:=[(i,Wv m)]) (t:=tMI) (t':=tMI) (et:=4) (v0:=false) jt Ahv aH aH (k:=k) (gk:= .agg (aj k)) rfl Q4)
abbrev AkJ(d i c:Nat){m:FM Ab Bool}(k:Ab)(h:FxOk m):HP:=hms d [i] c (Aix (σ:=[(i,some (MZ tMI ga bG (C3 m k ((m.get k).getD false))))]) (i:=i) (t':=tMI) (kv:=ga) (vg:=bG) (m:=m) (k:=k) (v0:=(m.get k).getD false) h Q4 true)
section
variable {gl:CB}
theorem AkK{vs:Bc}(hO:ba prog gl 47 [.ptr (Ag gg) 0,aE aj ids] (aE aj row))(hV:ba prog gl 238 [.ptr (Ag gg) 0,aE aj ids] (aE aj vs))(hn:vs.length<=1000):SW prog gl 152 [.ptr (Ag gg) 0,aE aj ids] [] 0 0 (.ref 0 0) (σ3 (Xd gg row vs)):=by
 refine dFP func152 ?_;refine pN (λk:Nat=>(s0 40 gl [(5,.ref 0 0),(18,aE aj vs),(19,iG (ah vs)),(20,iG (k:Int))] (σ3 (Xd gg row (vs.take k))) 3 0)) 1110122 (EO (n:=vs.length) aa) [hf 11 hO,hf 18 hV] (mLs (Xd gg row (vs.take 0))) (λB k w hs k5 a=>?_) [] [(0,2),(1,0),(2,1)] [];unfold Ko at hs;split at hs
 .rename_i hlt;obtain rfl:=Bf hs;obtain⟨x,hx⟩:∃x,vs[k]?=some x:=⟨_,DR hlt⟩;have hz:=Bg hx;have k5:=k5 _ rfl;have e:Xd gg row (vs.take (k+1))=⟨gg,row,C3 (ofV (vs.take k)) x true,C3 (ofV (vs.take k)) x true⟩:=by unfold Xd ofV;rw[JJ,hx,Option.toList_some,On];rfl
  have hm:=AiW (vs:=vs.take k);rw[e] at k5;unfold Xd;generalize ofV (vs.take k)=m at k5 hm⊢;exact jw [hr 21 (Dd hx),AB 22 (ac.ixZ hz),AB 23 (ac.ptZ aW hz),hsI 34 1 4 (m:=m) x,AkJ 35 1 4 x hm.1,hsI 36 2 4 (m:=m) x,AkJ 37 2 4 x hm.1,hbb 38 (Xl (q:=k) aa)] (mLs ⟨gg,row,C3 m x true,C3 m x true⟩) k5 [] [(0,0),(1,1),(2,2)] []
 .split at hs
  .rename_i he;subst he;rw[EQ];exact ZT [hr 21 (DZ (s:=vs))] (mLs (Xd gg row vs)) [(0,0),(1,1),(2,2)] []
  .cases hs
end
def Afd(I:Gi)(al:AQ)(s:Bk):Option Bc:=(Afa I al (Ou I.cards s)).map λv=>JQ I (wV al v)
theorem AkL{κ:Nat->Fp}{al:AQ}(h0:κ 0=some 0)(h1:κ 1=some 1)(h2:κ 2=some 2):Aag κ (σ3 al) (σ3 al):=λk o h=>by
 match k with
 |0=>obtain⟨a,e⟩:=aaV (v:=1) (f:=2) h1 h2 o h;exact⟨0,a,h0,e⟩
 |1=>obtain⟨a,e⟩:=PB o h;exact⟨1,a,h1,e⟩
 |2=>obtain⟨a,e⟩:=PB o h;exact⟨2,a,h2,e⟩
 |j+3=>cases h
theorem in3{al:AQ}:InP (vi [0,1,2]) [0,1,2] (σ3 al) (σ3 al):=λk o h=>by
 match k with
 |0=>obtain⟨a,e⟩:=aaV (κ:=vi [0,1,2]) (v:=1) (f:=2) rfl rfl o h;exact⟨0,a,rfl,e⟩
 |1=>obtain⟨a,e⟩:=PB (κ:=vi [0,1,2]) o h;exact⟨1,a,rfl,e⟩
 |2=>obtain⟨a,e⟩:=PB (κ:=vi [0,1,2]) o h;exact⟨2,a,rfl,e⟩
 |j+3=>cases h
theorem Ada{I:Gi}{ids row vs:Bc}{s:Bk}{r:Bc}(h:AeZ fI (Xd gg row vs) I)(hO:ba prog fI 47 [.ptr (Ag gg) 0,aE aj ids] (aE aj row))(hV:ba prog fI 238 [.ptr (Ag gg) 0,aE aj ids] (aE aj vs))(hn:vs.length<=1000)
  (hS:ba prog fI 74 [.ptr (Ag gg) 0,aE aj row] (aE cZ s)) (hsn:s.length<=1000) (hr:Afd I (Xd gg row vs) s=some r):ba prog fI 82 [.ptr (Ag gg) 0,aE aj ids] (aE aj r):=by
 unfold Afd at hr
 cases hd:Afa I (Xd gg row vs) (Ou I.cards s) with
 |none=>rw[hd] at hr;cases hr
 |some v=>
  rw[hd] at hr
  obtain rfl:=Bf hr
  have h':AeZ fI (wV (Xd gg row vs) v) I:=⟨h.g,h.c,h.o,h.n⟩
  have hg:=Acp h'
  have hof:=AkK hO hV hn
  have a:=Ac9 h hS hsn hd
  generalize Xd gg row vs=al at*
  refine Gh func82 ?_
  exact Ar [hfm 8 [] 0 3 0 [] [.ptr (Ag gg) 0,aE aj ids] (σ3 al) hof AeY (AkL rfl rfl rfl),hfm 10 [0,1,2] 3 0 3 (σ3 al) [.ref 0 0] (σ3 (wV al v)) a in3 (AkL rfl rfl rfl),hz 12 [0,1,2] (aaX (al:=wV al v) (c:=3) hg)] [hc (ac.al (JQ I (wV al v)))]
def AaL(o:Bp):JL:=bif o.Kind=1 then some o.By else bif o.Kind=2 then some o.Device else bif o.Kind=13 then some o.Device else none
def SH(I:Gi)(acc:Bk)(x:Ab):Bk:=match AaL (I.o x) with
 |none=>acc
 |some d=>bif acc.any (λy=>decide (d=y))then acc else acc++[d]
def NS(I:Gi)(row:Bc):Bk:=row.foldl (SH I) []
theorem Afe{I:Gi}{acc:Bk}:(SH I acc x).length<=acc.length+1:=by grind [SH]
theorem Wy{I:Gi}:∀{l:Bc} {acc:Bk},(l.foldl (SH I) acc).length<=acc.length+l.length
 |[],acc=>DC _
 |x::r,acc=>by have h1:=Wy (I:=I) (l:=r) (acc:=SH I acc x);grind [Afe]
section
variable {gl:CB} {gg:Aj}
abbrev AiX(gg:Aj)(ids:Bc):G:= .clo (.func 237) [] [.ptr [.ptr (Ag gg) 0] 0,.ptr [aE aj ids] 0]
theorem AgO(ids:Bc):ba prog gl 148 [.ptr (Ag gg) 0,aE aj ids] (AiX gg ids):=by refine Gh func148 ?_;refine pO [1,0] (s0 6 gl [(2,.ptr [.ptr (Ag gg) 0] 0),(3,.ptr [aE aj ids] 0)] [] 0 0) [] [hc (eB (gs:=[.ptr (Ag gg) 0]) aH),hc (aY (aG 20 (aE aj ids) aH) bf)] ?_;exact Ar [] []
noncomputable abbrev cSe:Code:=bq 111012 (ai Tryz.f74)
noncomputable abbrev Uv(st:LoopState):Option Ob:=some ⟨0,[],some (.loop st none 22 [(5,.ref 0 0)] (Dy cSe) (Dz cSe) (DA cSe))⟩
abbrev AkM(gg:Aj)(row:Bc)(k:Nat):Fr:=[(0,.yld 1),(1,.ptr [.ptr (Ag gg) 0] 0),(11,aE aj row),(12,iG (ah row)),(13,iG (k:Int))]
noncomputable abbrev σCa(acc:Bk):aQ:=[(0,bxI (.rsl 2 0 acc.length)),(1,Uv .ready),(2,Ke acc)]
noncomputable abbrev AiY(gl:CB)(gg:Aj)(row:Bc)(k:Nat)(acc:Bk):St:=(s0 40 gl (AkM gg row k) (σCa acc) 3 2)
noncomputable abbrev XV(gl:CB)(gg:Aj)(row:Bc)(k:Nat)(acc:Bk)(x:Ab)(d:Int):St:=(s0 40 gl ((5,.ref 3 0)::(8,iG d)::AkM gg row k) (σCa acc++[(3,Xc x)]) 4 2)
abbrev ρC3:DD:=[(0,0),(1,1),(2,2)]
abbrev ρC4:DD:=[(0,0),(1,1),(2,2),(3,3)]
theorem Aff{l:Bk}{d:Int}{i c:Nat}(hn:l.length<=1000000):oJ prog gl 77 [.rsl i 0 l.length,iG d] [(i,Ke l)] c (bG (l.any λy=>decide (d=y))) [] c:=
 Pr aH (Dk gl (Sv aa d)) (lR _) rfl λst h j y z h1 h2=>by
  match j with
  |0=>cases h1;cases h2;have ho:ag st.σ i=Ke l:=h i _ (by rw[A9,Bx rfl]);exact FD (s:=1) ho aH (by grind [AH.len,rZ]) (rZ.len l) (by grind [jB,AH.imm,rZ])
  |1=>grind [jB,mN]
  |j+2=>cases h1
theorem Wz(h:QL gl gg I){ids row:Bc}(hO:ba prog gl 47 [.ptr (Ag gg) 0,aE aj ids] (aE aj row))(hn:row.length<=1000):ba prog gl 74 [.ptr (Ag gg) 0,aE aj ids] (aE cZ (NS I row)):=by
 refine Gh func74 ?_;refine YR [1,1,0,1,2] (s0 22 gl [(5,.ref 0 0),(10,AiX gg ids)] [(0,bxI (.lit (.slice none 0 0)))] 1 0) [hf 10 (AgO (gl:=gl) (gg:=gg) ids)] ?_;refine Xt (fst:=[]) (cap:=[.ptr [.ptr (Ag gg) 0] 0,.ptr [aE aj ids] 0]) Tryz.f237 func237 ?_;refine pN (λk:Nat=>AiY gl gg row k ((row.take k).foldl (SH I) [])) [1,2,2] (EO (n:=row.length) aa) [hf 11 hO] [hc (rZ.imm [])] (λB k w hs k5 g=>?_) (vs:=[3]) (ρ:=ρC3) (kd:=[(2,.row)]);unfold Ko at hs;split at hs
 .rename_i hlt;obtain rfl:=Bf hs;obtain⟨x,hx⟩:∃x,row[k]?=some x:=⟨_,DR hlt⟩;have e:=Bg hx;have k5:=k5 _ rfl;have hal:=Wy (I:=I) (l:=row.take k) (acc:=[]);rw[Nv,List.length_nil] at hal;rw[JJ,hx,Option.toList_some,On,List.foldl_cons,List.foldl_nil] at k5;generalize (row.take k).foldl (SH I) []=acc at k5 hal⊢;have ho:=h.op x;have hb2:k<1000000:=aa;have fin:∀d,B (AiY gl gg row (k+1) (bif acc.any (λy=>decide (d=y))then acc else acc++[d]))->Gp prog Tryz.f237 (sI prog (s0 22 gl [(5,.ref 0 0),(10,AiX gg ids)] [(0,bxI (.lit (.slice none 0 0)))] 1 0) (dz prog (bE [1,1,0,1,2] (ai Tryz.f74) [] []) (tH prog Tryz.f74 (aE cZ (NS I row))))) [B] false [1,2,2,1,1,0,2,1,1,1,1,0] (XV gl gg row k acc x d):=λd hB=>by
   have f:=Aff (gl:=gl) (l:=acc) (d:=d) (i:=2) (c:=4) aa;cases cc:acc.any (λy=>decide (d=y)) with
   |true=>
    rw[cc] at hB f;refine Xw (i:=1) (j:=3) (n:=22) (t:=0) (t2:=0) (pe:=none) (fr:=[(5,.ref 0 0)]) (ps:=Dy cSe) (a:=Dz cSe) (b:=DA cSe) (s1:=(s0 40 gl ([(36,iG d),(35,.agg (aj x)),(34,.yld 1)]++(XV gl gg row k acc x d).fr) ((XV gl gg row k acc x d).σ) 4 2))
     (s3:=(s0 40 gl ([(38,bG false),(37,bG true),(36,iG d),(35,.agg (aj x)),(34,.yld 1)]++(XV gl gg row k acc x d).fr) ((1,Uv .ready)::[(0,bxI (.rsl 2 0 acc.length)),(1,Uv .busy),(2,Ke acc)]) 4 2))
     [(0,bxI (.rsl 2 0 acc.length)),(1,Uv .busy),(2,Ke acc)] 4 (.loop .ready none 22 [(5,.ref 0 0)] (Dy cSe) (Dz cSe) (DA cSe)) [] [] ?_ ?_
    .refine C9 .normal ⟨22,gl,[(5,.ref 0 0),(7,iG d)],[(0,bxI (.rsl 2 0 acc.length)),(1,Uv .ready),(2,Ke acc)],4,4,true⟩ [] [hc (rfl:acc.length=acc.length),hc (rZ.imm acc)] (Xv Tryz.f74 ?_ rfl) (ρ:=ρC4) (kd:=[(2,.row)]);exact C9 .normal ⟨22,gl,[],[(0,bxI (.rsl 2 0 acc.length)),(1,Uv .busy),(2,Ke acc)],4,4,true⟩ [hz 15 [2] f] [hc (rfl:acc.length=acc.length),hc (rZ.imm acc)] (by grind [jy]) (ρ:=ρC4) (kd:=[(2,.row)])
    .exact jw [hbb 39 (Xl (q:=k) aa)] [hc (rfl:acc.length=acc.length),hc (rZ.imm acc)] hB [] ρC3 [(2,.row)]
   |false=>
    rw[cc] at hB f;refine Xw (i:=1) (j:=3) (n:=22) (t:=0) (t2:=0) (pe:=none) (fr:=[(5,.ref 0 0)]) (ps:=Dy cSe) (a:=Dz cSe) (b:=DA cSe) (s1:=(s0 40 gl ([(36,iG d),(35,.agg (aj x)),(34,.yld 1)]++(XV gl gg row k acc x d).fr) ((XV gl gg row k acc x d).σ) 4 2))
     (s3:=(s0 40 gl ([(38,bG false),(37,bG true),(36,iG d),(35,.agg (aj x)),(34,.yld 1)]++(XV gl gg row k acc x d).fr) ((1,Uv .ready)::[(0,bxI (.rsl 4 0 (acc++[d]).length)),(1,Uv .busy),(4,Ke (acc++[d]))]) 5 2))
     [(0,bxI (.rsl 4 0 (acc++[d]).length)),(1,Uv .busy),(4,Ke (acc++[d]))] 5 (.loop .ready none 22 [(5,.ref 0 0)] (Dy cSe) (Dz cSe) (DA cSe)) [] [] ?_ ?_
    .refine C9 .normal ⟨22,gl,[(5,.ref 0 0),(7,iG d)],[(0,bxI (.rsl 2 0 acc.length)),(1,Uv .ready),(2,Ke acc)],4,4,true⟩ [] [hc (rfl:acc.length=acc.length),hc (rZ.imm acc)] (Xv Tryz.f74 ?_ rfl) (ρ:=ρC4) (kd:=[(2,.row)]);exact C9 .normal ⟨22,gl,[],[(0,bxI (.rsl 4 0 (acc++[d]).length)),(1,Uv .busy),(4,Ke (acc++[d]))],5,4,true⟩ [hz 15 [2] f,Tn 20 rZ 8 acc d aa] [hc (el (acc++[d])),hc (rZ.imm (acc++[d]))] (by grind [jy]) (ρ:=rI 4++[(4,5)]) (kd:=[(4,.row)])
    .exact jw [hbb 39 (Xl (q:=k) aa)] [hc (el (acc++[d])),hc (rZ.imm (acc++[d]))] hB [] [(0,0),(1,1),(2,4)] [(2,.row)]
  unfold SH at k5;generalize I.o x=o at ho k5;unfold AaL at k5;cases b1:decide (o.Kind=1) with
  |true=>rw[b1] at k5;exact pO 1122110211110 (XV gl gg row k acc x o.By) [hr 14 (Dd hx),AB 15 (ac.ixZ e),AB 16 (ac.ptZ aW e),hf 20 ho,hr 26 b1] [hc (rfl:acc.length=acc.length),hc (rZ.imm acc)] (fin _ k5) [] ρC4 [(2,.row)]
  |false=>
   rw[b1,Be] at k5;cases b2:decide (o.Kind=2) with
   |true=>rw[b2] at k5;exact pO 1122110211110 (XV gl gg row k acc x o.Device) [hr 14 (Dd hx),AB 15 (ac.ixZ e),AB 16 (ac.ptZ aW e),hf 20 ho,hr 26 b1,hr 30 b2] [hc (rfl:acc.length=acc.length),hc (rZ.imm acc)] (fin _ k5) [] ρC4 [(2,.row)]
   |false=>
    rw[b2,Be] at k5;cases b3:decide (o.Kind=13) with
    |true=>rw[b3] at k5;exact pO 1122110211110 (XV gl gg row k acc x o.Device) [hr 14 (Dd hx),AB 15 (ac.ixZ e),AB 16 (ac.ptZ aW e),hf 20 ho,hr 26 b1,hr 30 b2,hr 31 b3] [hc (rfl:acc.length=acc.length),hc (rZ.imm acc)] (fin _ k5) [] ρC4 [(2,.row)]
    |false=>rw[b3] at k5;exact jw [hr 14 (Dd hx),AB 15 (ac.ixZ e),AB 16 (ac.ptZ aW e),hf 20 ho,hr 26 b1,hr 30 b2,hr 31 b3,hbb 39 (Xl (q:=k) aa)] [hc (rfl:acc.length=acc.length),hc (rZ.imm acc)] k5 [] ρC3 [(2,.row)]
 .split at hs
  .rename_i he;subst he;rw[EQ];show Gp _ _ _ _ _ _ (AiY gl gg row row.length (NS I row));generalize NS I row=acc;refine C9 .normal (s0 40 gl [] [(0,bxI (.rsl 2 0 acc.length)),(1,Uv .ready),(2,Ke acc)] 3 2) [hr 14 (DZ (s:=row))] [hc (rfl:acc.length=acc.length),hc (rZ.imm acc)] (Xu ?_ rfl) (ρ:=ρC3) (kd:=[(2,.row)]);exact Ar [] [hc (rZ.al acc)]
  .cases hs
end
abbrev CmV(gl:CB)(fi:FuncId)(fa fc:Bn)(cmp:Ab->Ab->Int):Prop:=SP prog gl fi fa fc (λp:Ab×Ab=>[.agg (aj p.1),.agg (aj p.2)]) (λz:Int=>iG z) (λp=>some (cmp p.1 p.2))
abbrev R1(fi:FuncId)(fa fc:Bn):G:= .clo (.func fi) fa fc
theorem imP(p:Ab×Ab):∀g∈([.agg (aj p.1),.agg (aj p.2)]:Bn),bB g:=aY (aG 20 (.agg (aj p.1)) aH) (aY (aG 20 (.agg (aj p.2)) aH) bf)
abbrev hcp(d c:Nat){gl:CB}{fi:FuncId}{fa fc:Bn}{cmp:Ab->Ab->Int}(hv:CmV gl fi fa fc cmp)(x y:Ab):HP:=hz d [] (hv.cs (c:=c) (x:=(x,y)) rfl (imP (x,y)))
def aa0{α:Type}(cmp:α->α->Int)(a:Int)(s:List α×Int):Option ((List α×Int)⊕List α):=
 bif a<s.2 then(aS s.1 s.2).bind λx=>(aS s.1 (wI (s.2-1))).bind λy=>bif cmp x y<0 then(ji s.1 s.2 y).bind λb=>(ji b (wI (s.2-1)) x).bind λc=>some (.inl (c,wI (s.2-1)))else some (.inr s.1)else some (.inr s.1)
def aa1{α:Type}(cmp:α->α->Int)(a b:Int)(s:List α×Int):Option ((List α×Int)⊕List α):=
 bif s.2<b then(AA (aa0 cmp a) (s.1,s.2)).bind λl=>some (.inl (l,wI (s.2+1)))else some (.inr s.1)
def inI{α:Type}(cmp:α->α->Int)(a b:Int)(l:List α):Option (List α):=AA (aa1 cmp a b) (l,wI (a+1))
theorem Ahz{c d:Bc}{i j:Int}{a b:Ab}(h1:ji l i b=some c)(h2:ji c j a=some d):fh prog 29 (.rsl 0 0 l.length) j=some (.ref 0 (0+j.toNat*3)):=by rw[hZ h1];exact ac.ixsZ 0 h2
section
variable {gl:CB} {fi:FuncId} {fa fc:Bn} {cmp:Ab->Ab->Int} (hv:CmV gl fi fa fc cmp)
include hv
theorem Acu{a b:Int}{r:Bc}(h:inI cmp a b l=some r):jg prog gl 267 [.rsl 0 0 l.length,iG a,iG b,R1 fi fa fc] [(0,Bw l)] 1 (.tup []) [(0,Bw r)] 1:=by
 unfold inI at h;refine pP func267 ?_;refine pN (λs:Bc×Int=>(s0 53 gl [(0,.rsl 0 0 s.1.length),(1,iG a),(2,iG b),(3,R1 fi fa fc),(8,iG s.2)] [(0,Bw s.1)] 1 1)) 1122 h [] [hc (el l),hc hv.im,hc (ac.imm l)] (λB s w hs k5 f=>?_) [] [(0,0)] [(0,.row)];obtain⟨l1,i⟩:=s;unfold aa1 at hs;dsimp only at hs;rcases bC hs with⟨b1,hs⟩|⟨b1,hs⟩
 .obtain⟨l2,e2,hs⟩:=bS hs;obtain rfl:=Bf hs;refine Ix 11221021 (s0 53 gl [(0,.rsl 0 0 l2.length),(1,iG a),(2,iG b),(3,R1 fi fa fc),(8,iG i)] [(0,Bw l2)] 1 1) ?_ λkk=>?_
  .exact jw [] [hc (el l2),hc hv.im,hc (ac.imm l2)] (k5 _ rfl) [] [(0,0)] [(0,.row)]
  refine pN (λs:Bc×Int=>(s0 53 gl [(0,.rsl 0 0 s.1.length),(1,iG a),(2,iG b),(3,R1 fi fa fc),(8,iG i),(9,iG s.2)] [(0,Bw s.1)] 1 1)) 1122102122 e2 [hr 14 b1] [hc (el l1),hc hv.im,hc (ac.imm l1)] (λm z v hz g d=>?_) [] [(0,0)] [(0,.row)];obtain⟨l3,j⟩:=z;unfold aa0 at hz;dsimp only at hz;rcases bC hz with⟨b2,hz⟩|⟨b2,hz⟩
  .obtain⟨x,ex,hz⟩:=bS hz;obtain⟨y,c,hz⟩:=bS hz;rcases bC hz with⟨b3,hz⟩|⟨b3,hz⟩
   .obtain⟨k,e1,hz⟩:=bS hz;obtain⟨e,e3,hz⟩:=bS hz;obtain rfl:=Bf hz;exact jw [hr 20 b2,AB 25 (ac.ixrZ 0 ex),AB 26 (ac.pt0Z aW ex),AB 30 (ac.ixrZ 0 c),AB 31 (ac.pt0Z aW c),hcp 32 1 hv x y,hr 33 b3,AB 45 (ac.ixrZ 0 c),AB 46 (ac.pt0Z aW c),AB 49 (ac.ixrZ 0 ex),AB 50 (ac.pt0Z aW ex),AB 51 (ac.ixsZ 0 e1),hw 51 (k.flatMap aj) (ac.putZ e1),AB 52 (Ahz e1 e3),hw 52 (e.flatMap aj) (ac.putZ e3)] [hc ((hZ e1).trans (hZ e3)),hc hv.im,hc (ac.imm e)] (g _ rfl) [] [(0,0)] [(0,.row)]
   .obtain rfl:=Bf hz;obtain rfl:=d _ rfl;exact yl 11221021 [hr 20 b2,AB 25 (ac.ixrZ 0 ex),AB 26 (ac.pt0Z aW ex),AB 30 (ac.ixrZ 0 c),AB 31 (ac.pt0Z aW c),hcp 32 1 hv x y,hr 33 b3] [hc (el l3),hc hv.im,hc (ac.imm l3)] kk [] [(0,0)] [(0,.row)]
  .obtain rfl:=Bf hz;obtain rfl:=d _ rfl;exact yl 11221021 [hr 20 b2] [hc (el l3),hc hv.im,hc (ac.imm l3)] kk [] [(0,0)] [(0,.row)]
 .obtain rfl:=Bf hs;obtain rfl:=f _ rfl;exact mt .normal (s0 53 gl [] [(0,Bw l1)] 1 1) [] [hr 14 b1] [hc (ac.imm l1)] (ρ:=[(0,0)]) (kd:=[(0,.row)])
omit hv
def swZ{α:Type}(l:List α)(i j:Nat):Option (List α):=(l[i]?).bind λx=>(l[j]?).bind λy=>some ((l.set i y).set j x)
theorem I1{l r:List α}{i j:Nat}(h:swZ l i j=some r):∃x y,l[i]?=some x/\l[j]?=some y/\r=(l.set i y).set j x:=by grind [swZ]
theorem stZ{l:List α}{i:Nat}{y x:α}(h:l[i]?=some y):ji l (i:Int) x=some (l.set i x):=by grind [ji]
theorem AgQ{l:List α}{i j:Nat}{y x z w:α}(h:l[j]?=some y):ji (l.set i z) (j:Int) x=some ((l.set i z).set j x):=by grind [ji]
theorem TD:l.length=((l.set i y).set j x).length:=by rw[List.length_set,List.length_set]
abbrev hsw(a b c d:Nat){l w:Bc}{i j:Nat}{x y:Ab}(hx:l[i]?=some x)(hy:l[j]?=some y)(e:w=(l.set i y).set j x):List HP:=[AB a (ac.ixrZ 0 (Bg hy)),AB (a+1) (ac.pt0Z aW (Bg hy)),AB b (ac.ixrZ 0 (Bg hx)),AB (b+1) (ac.pt0Z aW (Bg hx)),AB c (ac.ixsZ 0 (stZ (x:=y) hx)),hw c ((l.set i y).flatMap aj) (ac.putZ (stZ (x:=y) hx)),AB d (Ahz (stZ (x:=y) hx) (AgQ (w:=x) (x:=x) (z:=y) (i:=i) hy)),hw d (w.flatMap aj) (e▸ac.putZ (AgQ (w:=x) (x:=x) (z:=y) (i:=i) hy))]
theorem Ht{c:Bool}{x:Option α}{v:α}(h:(bif c then x else none)=some v):c=true/\x=some v:=by grind
theorem Afg(h:Nat.blt 0 j=true):∃k,j=k+1:=by simp_all
theorem Afh{v:Nat⊕α}(h:(bif Nat.blt 0 j then some (.inl (j-1))else none)=some v):∃k,j=k+1/\v= .inl k:=by
 cases j with
 |zero=>cases h
 |succ k=>grind
def scU(cmp:Ab->Ab->Int)(l:Bc)(a j i:Nat):Option (Nat⊕Nat):=bif (i:Int)<=(j:Int)then(l[i]?).bind λx=>(l[a]?).bind λy=>bif cmp x y<0 then some (.inl (i+1))else some (.inr i)else some (.inr i)
def scD(cmp:Ab->Ab->Int)(l:Bc)(a i j:Nat):Option (Nat⊕Nat):=bif (i:Int)<=(j:Int)then(l[j]?).bind λx=>(l[a]?).bind λy=>bif cmp x y<0 then some (.inr j)else bif Nat.blt 0 j then some (.inl (j-1))else none else some (.inr j)
def paT(cmp:Ab->Ab->Int)(a:Nat)(s:Bc×Nat×Nat):Option ((Bc×Nat×Nat)⊕(Bc×Nat)):=
 bif s.1.length<=1000 then(AA (scU cmp s.1 a s.2.2) s.2.1).bind λi=>(AA (scD cmp s.1 a i) s.2.2).bind λj=>bif (j:Int)<(i:Int)then some (.inr (s.1,j))else bif Nat.blt 0 j then(swZ s.1 i j).bind λl=>some (.inl (l,i+1,j-1))else none else none
def paS(cmp:Ab->Ab->Int)(a b p:Nat)(l:Bc):Option (Nat×Bool×Bc):=
 (
  swZ l a p).bind λl0=>(AA (scU cmp l0 a (b-1)) (a+1)).bind λi=>(AA (scD cmp l0 a i) (b-1)).bind λj=>
  bif (j:Int)<(i:Int)then(swZ l0 j a).bind λr=>some (j,true,r)else bif Nat.blt 0 j then(swZ l0 i j).bind λl1=>(AA (paT cmp a) (l1,i+1,j-1)).bind λs=>(swZ s.1 s.2 a).bind λr=>some (s.2,false,r)else none
include hv
abbrev aa2(gl:CB)(fi:FuncId)(fa fc:Bn)(a b:Nat)(l:Bc)(i j:Nat):St:=(s0 178 gl [(0,.rsl 0 0 l.length),(1,iG (a:Int)),(2,iG (b:Int)),(4,R1 fi fa fc),(12,iG (i:Int)),(13,iG (j:Int))] [(0,Bw l)] 1 1)
theorem PO{a b p:Nat}{r:Bc}{f:Bool}(hl:l.length<=1000)(ha:a<1000)(hb1:1<=b)(hb2:b<=1000)(h:paS cmp a b p l=some (m,f,r)):jg prog gl 274 [.rsl 0 0 l.length,iG (a:Int),iG (b:Int),iG (p:Int),R1 fi fa fc] [(0,Bw l)] 1 (.tup [iG (m:Int),bG f]) [(0,Bw r)] 1:=by
 obtain⟨b,rfl⟩:∃q,b=q+1:=⟨b-1,aa⟩;unfold paS at h;rw[Nat.add_sub_cancel] at h;obtain⟨l0,e0,h⟩:=bS h;obtain⟨i,ei,h⟩:=bS h;obtain⟨j,ej,h⟩:=bS h;obtain⟨C,D,h1,h2,e0⟩:=I1 e0;have hl0:l.length=l0.length:=by rw[e0];exact TD
 refine pP func274 ?_;refine Ix 11110 (aa2 gl fi fa fc a (b+1) l0 i b) ?_ λkk=>?_;rotate_left
 .have hl2:l0.length<=1000:=aa;refine pN (λq:Nat=>aa2 gl fi fa fc a (b+1) l0 q b) [1,1,1,0,2,2] ei (hsw 20 24 26 27 h1 h2 e0++[hbb 29 (Xl (q:=a) aa),hbb 31 (dec (q:=b) aa)]) [hc hl0,hc hv.im,hc (ac.imm l0)] (λt q v hz g d=>?_) [] [(0,0)] [(0,.row)];unfold scU at hz;rcases bC hz with⟨b2,hz⟩|⟨b2,hz⟩
  .obtain⟨x,ex,hz⟩:=bS hz;obtain⟨y,c,hz⟩:=bS hz;have hq:=(cr ex).1;rcases bC hz with⟨b3,hz⟩|⟨b3,hz⟩
   .obtain rfl:=Bf hz;exact jw [hr 34 b2,AB 39 (ac.ixrZ 0 (Bg ex)),AB 40 (ac.pt0Z aW (Bg ex)),AB 43 (ac.ixrZ 0 (Bg c)),AB 44 (ac.pt0Z aW (Bg c)),hcp 45 1 hv x y,hr 46 b3,hbb 49 (Xl (q:=q) aa)] [hc (rfl:l0.length=l0.length),hc hv.im,hc (ac.imm l0)] (g _ rfl) [] [(0,0)] [(0,.row)]
   .obtain rfl:=Bf hz;obtain rfl:=d _ rfl;exact yl 11110 [hr 34 b2,AB 39 (ac.ixrZ 0 (Bg ex)),AB 40 (ac.pt0Z aW (Bg ex)),AB 43 (ac.ixrZ 0 (Bg c)),AB 44 (ac.pt0Z aW (Bg c)),hcp 45 1 hv x y,hr 46 b3] [hc (rfl:l0.length=l0.length),hc hv.im,hc (ac.imm l0)] kk [] [(0,0)] [(0,.row)]
  .obtain rfl:=Bf hz;obtain rfl:=d _ rfl;exact yl 11110 [hr 34 b2] [hc (rfl:l0.length=l0.length),hc hv.im,hc (ac.imm l0)] kk [] [(0,0)] [(0,.row)]
 have hl0:l0.length<=1000:=aa;clear e0 h1 h2 hl ei;refine Ix 111110 (aa2 gl fi fa fc a (b+1) l0 i j) ?_ λkk=>?_;rotate_left
 .skip;refine pN (λq:Nat=>aa2 gl fi fa fc a (b+1) l0 i q) [1,1,1,1,0,2,2] ej [] [hc (rfl:l0.length=l0.length),hc hv.im,hc (ac.imm l0)] (λt q v hz g d=>?_) [] [(0,0)] [(0,.row)];unfold scD at hz;rcases bC hz with⟨b2,hz⟩|⟨b2,hz⟩
  .obtain⟨x,ex,hz⟩:=bS hz;obtain⟨y,c,hz⟩:=bS hz;have hq:=(cr ex).1;rcases bC hz with⟨b3,hz⟩|⟨b3,hz⟩
   .obtain rfl:=Bf hz;obtain rfl:=d _ rfl;exact yl 111110 [hr 52 b2,AB 57 (ac.ixrZ 0 (Bg ex)),AB 58 (ac.pt0Z aW (Bg ex)),AB 61 (ac.ixrZ 0 (Bg c)),AB 62 (ac.pt0Z aW (Bg c)),hcp 63 1 hv x y,hr 64 b3] [hc (rfl:l0.length=l0.length),hc hv.im,hc (ac.imm l0)] kk [] [(0,0)] [(0,.row)]
   .obtain⟨k,rfl,rfl⟩:=Afh hz;exact jw [hr 52 b2,AB 57 (ac.ixrZ 0 (Bg ex)),AB 58 (ac.pt0Z aW (Bg ex)),AB 61 (ac.ixrZ 0 (Bg c)),AB 62 (ac.pt0Z aW (Bg c)),hcp 63 1 hv x y,hr 64 b3,hbb 68 (dec (q:=k) aa)] [hc (rfl:l0.length=l0.length),hc hv.im,hc (ac.imm l0)] (g _ rfl) [] [(0,0)] [(0,.row)]
  .obtain rfl:=Bf hz;obtain rfl:=d _ rfl;exact yl 111110 [hr 52 b2] [hc (rfl:l0.length=l0.length),hc hv.im,hc (ac.imm l0)] kk [] [(0,0)] [(0,.row)]
 clear ej;rcases bC h with⟨b1,h⟩|⟨b1,h⟩
 .obtain⟨r',u,h⟩:=bS h;simp only[Fk,FF] at h;obtain⟨rfl,rfl,rfl⟩:=h;obtain⟨x,y,hx,hy,e⟩:=I1 u;exact mt .ret (s0 178 gl [(10,iG (j:Int)),(11,bG true)] [(0,Bw r')] 1 1) [iG (j:Int),bG true] (hr 71 b1::hsw 78 82 84 85 hx hy e) [hc (ac.imm r')] (ρ:=[(0,0)]) (kd:=[(0,.row)])
 obtain⟨hj,h⟩:=Ht h;obtain⟨j,rfl⟩:=Afg hj;rw[Nat.add_sub_cancel] at h;obtain⟨l1,e1,h⟩:=bS h;obtain⟨s,es,h⟩:=bS h;obtain⟨r',u,h⟩:=bS h;simp only[Fk,FF] at h;obtain⟨rfl,rfl,rfl⟩:=h;obtain⟨x,y,hx,hy,e1⟩:=I1 e1;have hli:=(cr hx).1;have n:=(cr hy).1;have hl1:l0.length=l1.length:=by rw[e1];exact TD
 refine pN (λz:Bc×Nat×Nat=>aa2 gl fi fa fc a (b+1) z.1 z.2.1 z.2.2) [1,1,1,1,1,1,1,1,1,0,2,2] es (hr 71 b1::hsw 93 97 99 100 hx hy e1++[hbb 102 (Xl (q:=i) aa),hbb 104 (dec (q:=j) aa)]) [hc hl1,hc hv.im,hc (ac.imm l1)] (λB z w hs k5 A=>?_) [] [(0,0)] [(0,.row)];clear hx hy e1 hli n hl1 b1 hl0;obtain⟨l1,i,j⟩:=z;unfold paT at hs;dsimp only at hs;cases b0:decide (l1.length<=1000) with
 |false=>rw[b0] at hs;cases hs
 |true=>
 rw[b0,ax] at hs;have hl1:=DL b0;obtain⟨i1,ei,hs⟩:=bS hs;obtain⟨o,ej,hs⟩:=bS hs;refine Ix 111111111102220 (aa2 gl fi fa fc a (b+1) l1 i1 j) ?_ λkk=>?_;rotate_left
 .skip;refine pN (λq:Nat=>aa2 gl fi fa fc a (b+1) l1 q j) [1,1,1,1,1,1,1,1,1,0,2,2,2,0,2,2] ei [] [hc (rfl:l1.length=l1.length),hc hv.im,hc (ac.imm l1)] (λt q v hz g d=>?_) [] [(0,0)] [(0,.row)];unfold scU at hz;rcases bC hz with⟨b2,hz⟩|⟨b2,hz⟩
  .obtain⟨x,ex,hz⟩:=bS hz;obtain⟨y,c,hz⟩:=bS hz;have hq:=(cr ex).1;rcases bC hz with⟨b3,hz⟩|⟨b3,hz⟩
   .obtain rfl:=Bf hz;exact jw [hr 107 b2,AB 112 (ac.ixrZ 0 (Bg ex)),AB 113 (ac.pt0Z aW (Bg ex)),AB 116 (ac.ixrZ 0 (Bg c)),AB 117 (ac.pt0Z aW (Bg c)),hcp 118 1 hv x y,hr 119 b3,hbb 122 (Xl (q:=q) aa)] [hc (rfl:l1.length=l1.length),hc hv.im,hc (ac.imm l1)] (g _ rfl) [] [(0,0)] [(0,.row)]
   .obtain rfl:=Bf hz;obtain rfl:=d _ rfl;exact yl 111111111102220 [hr 107 b2,AB 112 (ac.ixrZ 0 (Bg ex)),AB 113 (ac.pt0Z aW (Bg ex)),AB 116 (ac.ixrZ 0 (Bg c)),AB 117 (ac.pt0Z aW (Bg c)),hcp 118 1 hv x y,hr 119 b3] [hc (rfl:l1.length=l1.length),hc hv.im,hc (ac.imm l1)] kk [] [(0,0)] [(0,.row)]
  .obtain rfl:=Bf hz;obtain rfl:=d _ rfl;exact yl 111111111102220 [hr 107 b2] [hc (rfl:l1.length=l1.length),hc hv.im,hc (ac.imm l1)] kk [] [(0,0)] [(0,.row)]
 clear ei;refine Ix 1111111111022210 (aa2 gl fi fa fc a (b+1) l1 i1 o) ?_ λkk=>?_;rotate_left
 .skip;refine pN (λq:Nat=>aa2 gl fi fa fc a (b+1) l1 i1 q) [1,1,1,1,1,1,1,1,1,0,2,2,2,1,0,2,2] ej [] [hc (rfl:l1.length=l1.length),hc hv.im,hc (ac.imm l1)] (λt q v hz g d=>?_) [] [(0,0)] [(0,.row)];unfold scD at hz;rcases bC hz with⟨b2,hz⟩|⟨b2,hz⟩
  .obtain⟨x,ex,hz⟩:=bS hz;obtain⟨y,c,hz⟩:=bS hz;have hq:=(cr ex).1;rcases bC hz with⟨b3,hz⟩|⟨b3,hz⟩
   .obtain rfl:=Bf hz;obtain rfl:=d _ rfl;exact yl 1111111111022210 [hr 125 b2,AB 130 (ac.ixrZ 0 (Bg ex)),AB 131 (ac.pt0Z aW (Bg ex)),AB 134 (ac.ixrZ 0 (Bg c)),AB 135 (ac.pt0Z aW (Bg c)),hcp 136 1 hv x y,hr 137 b3] [hc (rfl:l1.length=l1.length),hc hv.im,hc (ac.imm l1)] kk [] [(0,0)] [(0,.row)]
   .obtain⟨k,rfl,rfl⟩:=Afh hz;exact jw [hr 125 b2,AB 130 (ac.ixrZ 0 (Bg ex)),AB 131 (ac.pt0Z aW (Bg ex)),AB 134 (ac.ixrZ 0 (Bg c)),AB 135 (ac.pt0Z aW (Bg c)),hcp 136 1 hv x y,hr 137 b3,hbb 141 (dec (q:=k) aa)] [hc (rfl:l1.length=l1.length),hc hv.im,hc (ac.imm l1)] (g _ rfl) [] [(0,0)] [(0,.row)]
  .obtain rfl:=Bf hz;obtain rfl:=d _ rfl;exact yl 1111111111022210 [hr 125 b2] [hc (rfl:l1.length=l1.length),hc hv.im,hc (ac.imm l1)] kk [] [(0,0)] [(0,.row)]
 clear ej;rcases bC hs with⟨b1,hs⟩|⟨b1,hs⟩
 .obtain rfl:=Bf hs;obtain rfl:=A _ rfl;obtain⟨x,y,hx,hy,e⟩:=I1 u;exact mt .ret (s0 178 gl [(10,iG (o:Int)),(11,bG false)] [(0,Bw r')] 1 1) [iG (o:Int),bG false] (hr 144 b1::hsw 169 173 175 176 hx hy e) [hc (ac.imm r')] (ρ:=[(0,0)]) (kd:=[(0,.row)])
 .obtain⟨hj,hs⟩:=Ht hs;obtain⟨o,rfl⟩:=Afg hj;rw[Nat.add_sub_cancel] at hs;obtain⟨l2,e2,hs⟩:=bS hs;obtain rfl:=Bf hs;obtain⟨x,y,hx,hy,e2⟩:=I1 e2;have hli:=(cr hx).1;have n:=(cr hy).1;have hl2:l1.length=l2.length:=by rw[e2];exact TD
  exact jw (hr 144 b1::hsw 151 155 157 158 hx hy e2++[hbb 160 (Xl (q:=i1) aa),hbb 162 (dec (q:=o) aa)]) [hc hl2,hc hv.im,hc (ac.imm l2)] (k5 _ rfl) [] [(0,0)] [(0,.row)]
end
section
variable {gl:CB}
abbrev oLs(l:LE):Option Ob:=some ⟨22,l.flatMap Jc,none⟩
def AcF(s:LE×Nat×Nat):Option ((LE×Nat×Nat)⊕LE):=bif (s.2.1:Int)<(s.2.2:Int)-1 then(bif Nat.ble s.1.length 4000 then(swZ s.1 s.2.1 (s.2.2-1)).bind λw=>some (.inl (w,s.2.1+1,s.2.2-1))else none)else some (.inr s.1)
theorem Aj2{q:Nat}(h:q<1000000):lD .sub (iG (q:Int)) (iG 1)=some (iG ((q:Int)-1)):=by grind [sb]
theorem Ah4{l r:LE}(hn:l.length<=4000)(h:AA AcF (l,0,l.length)=some r):jg prog gl 131 [.rsl 0 0 l.length] [(0,oLs l)] 1 (.tup []) [(0,oLs r)] 1:=by
 refine pP func131 ?_;refine pN (λs:LE×Nat×Nat=>(s0 28 gl [(0,.rsl 0 0 s.1.length),(2,iG (s.2.1:Int)),(3,iG ((s.2.2:Int)-1))] [(0,oLs s.1)] 1 1)) 1122 h [hbb 6 (Aj2 (q:=l.length) aa)] [hc (el l),hc (nH.imm l)] (λB s w hs k5 b=>?_) [] [(0,0)] [(0,.row)];obtain⟨l1,i,j⟩:=s;unfold AcF at hs;dsimp only at hs;rcases bC hs with⟨b1,hs⟩|⟨b1,hs⟩
 .rcases bC hs with⟨b2,hs⟩|⟨b2,hs⟩;rotate_left;· cases hs
  obtain⟨a,e0,hs⟩:=bS hs;obtain rfl:=Bf hs;obtain⟨j,rfl⟩:∃c,j=c+1:=⟨j-1,by have:=DL b1;omega⟩;rw[Nat.add_sub_cancel] at e0 k5;obtain⟨x,y,hx,hy,e1⟩:=I1 e0;have hw1:l1.length=a.length:=by rw[e1,List.length_set,List.length_set]
  have hi:=(cr hx).1;have hj:=(cr hy).1;have hl:=E5 b2;rw[show((j+1:Nat):Int)-1=(j:Int) by omega] at b1⊢;exact jw [hr 9 b1,AB 20 (nH.ixrZ 0 (Bg hy)),AB 21 (nH.p10Z Vs (Bg hy)),AB 24 (nH.ixrZ 0 (Bg hx)),AB 25 (nH.p10Z Vs (Bg hx)),AB 26 (nH.ixsZ 0 (stZ (x:=y) hx)),hw 26 ((l1.set i y).flatMap Jc) (nH.putZ (stZ (x:=y) hx)),AB 27 (nH.ixsZ 0 (stZ (x:=x) hy)),hw 27 (a.flatMap Jc) (e1▸nH.putZ (AgQ (w:=x) (x:=x) (z:=y) (i:=i) hy)),hbb 11 (Xl (q:=i) aa),hbb 13 (Aj2 (q:=j) aa)] [hc hw1,hc (nH.imm a)] (k5 _ rfl) [] [(0,0)] [(0,.row)]
 .obtain rfl:=Bf hs;obtain rfl:=b _ rfl;exact mt .normal (s0 28 gl [] [(0,oLs l1)] 1 1) [] [hr 9 b1] [hc (nH.imm l1)] (ρ:=[(0,0)]) (kd:=[(0,.row)])
def LL(s:LE):Option LE:=aT 24 [] s
theorem Sm{s:LE}:LU prog gl (LL s) 130 [aE Jc s] 22 Jc:=λr h=>by
 unfold LL at h;refine OW func130 ?_;refine pO 1100 (s0 8 gl [(0,aE Jc s)] [] 0 0) [] [] ?_;refine IA 0 3 4 30 22 rfl (E5 aH) (E5 aH) λb hb=>?_;cases b
 .exact EI [eu 7 nH h] (nH.imm _)
 .obtain rfl:=nH.isNil (hb rfl);obtain rfl:=mV h;exact EI [] (nH.imm [])
theorem AcG{l r:LE}(hn:l.length<=4000)(h:AA AcF (l,0,l.length)=some r)(hl:r.length=l.length):ba prog gl 65 [aE Jc l] (aE Jc r):=by refine Gh func65 ?_;have a:=Sm (gl:=gl) (s:=l) (r:=l) (by unfold LL;grind [aT]);have hM:=Ah4 (gl:=gl) hn h;rw[<-hl] at a hM;exact Ar [hz 5 [] (Uz (c:=0) aH a (eB aH) (nH.imm l)),tN 7 [0] 1 [(0,oLs l)] [.rsl 0 0 r.length] [(0,oLs r)] hM ⟨⟨rfl,.inr ⟨rfl,nH.imm l⟩⟩,trivial⟩ ⟨⟨rfl,.inr ⟨rfl,nH.imm r⟩⟩,trivial⟩] [hc (nH.al r)]
theorem Ab0{l:Bk}{a b r:LE}(hd:Pm l d=some (a,b))(hn:a.length<=4000)(h:AA AcF (a,0,a.length)=some r)(hl:r.length=a.length):ba prog gl 26 [aE cZ l,iG d] (aE Jc r):=by refine Gh func26 ?_;exact Ar [hf 10 (Aaj gl hd),hf 14 (AcG (gl:=gl) hn h hl)] []
end
theorem AfQ(n:Int):Si n=zZ n:=by
 have:Pa n=AE n:=by grind [Pa,AE]
 grind [Si,zZ]
def ZI(n:Nat):Nat:=((zZ (n:Int)).getD 0).toNat
theorem X9{n:Nat}(h:2<=n)(hn:n<=1000000):zZ (n:Int)=some ((ZI n:Nat):Int)/\1<=ZI n/\ZI n<n:=by obtain⟨v,e,k,rfl,h1,h2⟩:=Oc h hn;grind [ZI]
def N9:Nat->Bk->LE
 |0,_=>[]
 |n+1,l=>if l.length=0 then[]else if l.length=1 then[l]else l::(N9 n (l.take (ZI l.length))++N9 n (l.drop (ZI l.length)))
def XM(d:Int):Nat->Bk->LE
 |0,_=>[]
 |n+1,l=>if l.length<=1 then[l]else l::(if d∈l.take (ZI l.length)then XM d n (l.take (ZI l.length))else XM d n (l.drop (ZI l.length)))
theorem Sp(d:Int):∀(n m:Nat) (l:Bk),l.length<n->l.length<m->l.length<=1000000->XM d n l=XM d m l
 |0,_,_,h,_,_=>(by grind)
 |_,0,_,_,h,_=>(by grind)
 |n+1,m+1,l,h,h',hl=>by
  unfold XM;split
  .rfl
  .obtain⟨_,k1,k2⟩:=X9 (n:=l.length) aa hl;rw[Sp d n m (l.take (ZI l.length)) cq cq cq,Sp d n m (l.drop (ZI l.length)) cq cq cq]
theorem ZJ:∀(nn:Nat) (l:Bk),l.length<nn->l.length<=1000000->KF nn l=some (N9 nn l)/\(N9 nn l).length<=2*l.length-1
 |0,_,h,_=>absurd h (Nat.not_lt_zero _)
 |nn+1,l,h,hl=>by
  unfold KF N9;by_cases h0:l.length=0
  .simp[ah,h0]
  by_cases h1:l.length=1
  .simp[ah,h1]
  obtain⟨e,k1,k2⟩:=X9 (n:=l.length) aa hl;obtain⟨e2,n2⟩:=ZJ nn (l.take (ZI l.length)) cq cq;obtain⟨e3,a⟩:=ZJ nn (l.drop (ZI l.length)) cq cq;rw[show decide (ah l=0)=false from C6 (by unfold ah;omega),show decide (ah l=1)=false from C6 (by unfold ah;omega),Be,Be,show ah l=(l.length:Int) from rfl,e,aL,BA h0,BA h1];rw[Nv] at n2;rw[List.length_drop] at a;constructor
  .refine T.eq (.bind (.pre aa aa ?_));rw[Fs,e2,aL];refine .bind (.app (by simp only[List.length_singleton];omega) (.bind (.suf aa aa ?_)));rw[Fs,e3,aL];exact .bind (.app (by simp only[Uh,List.length_singleton];omega) (.some aC))
  grind
theorem S9:∀(nn:Nat) (l:Bk),∀s∈N9 nn l,∀x∈s,x∈l
 |0,_=>by simp[N9]
 |nn+1,l=>by
  intro s hs x hx;unfold N9 at hs;split at hs
  .cases hs
  split at hs
  .grind
  .rcases EG.1 hs with rfl|hs
   .exact hx
   rcases Jk.1 hs with hs|hs
   .exact List.mem_of_mem_take (S9 nn _ s hs x hx)
   .exact List.mem_of_mem_drop (S9 nn _ s hs x hx)
theorem ZK(d:Int):∀(nn:Nat) (l:Bk),l.length<nn->l.length<=1000000->l.Nodup->(N9 nn l).filter (λs=>decide (d∈s))=if d∈l then XM d nn l else[]
 |0,_,h,_,_=>(by grind)
 |nn+1,l,h,hl,hnd=>by
  by_cases hd:d∈l
  .rw[Bx hd];have hp:0<l.length:=List.length_pos_of_mem hd;unfold N9 XM;rw[BA aa];by_cases h1:l.length=1
   .grind
   rw[BA h1,BA aa];obtain⟨_,k1,k2⟩:=X9 (n:=l.length) aa hl;generalize ZI l.length=k at k1 k2;have e2:=ZK d nn (l.take k) cq cq (by grind);have e3:=ZK d nn (l.drop k) cq cq (by grind);grind [OQ]
  grind [List.filter_eq_nil_iff,S9]
theorem AdM{l:LE}(hl:l.length<=4000):AA AcF (l,0,l.length)=some l.reverse:=by
 refine T.eq (T.loop (λs=>s.2.1+s.2.2=l.length/\s.1.length=l.length/\∀k,k<l.length->s.1[k]?=if s.2.1<=k/\k<s.2.2 then l[k]? else l.reverse[k]?) (λs=>s.2.2) (by grind) (by grind) ?_);rintro⟨w,i,j⟩ ⟨h1,h2,h3⟩;simp only at h1 h2 h3;unfold AcF;refine .dec (λh0=>?_) λh0=> .some (show w=l.reverse from ?_)
 .have h0:(i:Int)<(j:Int)-1:=h0;rw[show Nat.ble (w,i,j).1.length 4000=true from(by grind [Qi]),ax];have hi:i<w.length:=aa;have hj:j-1<w.length:=aa;have e:swZ w i (j-1)=some ((w.set i (w[j-1]'hj)).set (j-1) (w[i]'hi)):=by grind [swZ]
  show T ((swZ w i (j-1)).bind _) _;rw[e,aL];refine .some ⟨⟨by grind,by simp[h2],λk hk=>?_⟩,by grind⟩;have ei:=h3 i aa;have ej:=h3 (j-1) aa;have ek:=h3 k hk;rw[Bx (by grind)] at ei;rw[Bx (by grind)] at ej;show((w.set i _).set (j-1) _)[k]?=if i+1<=k/\k<j-1 then _ else _
  rw[List.getElem?_set,List.getElem?_set];by_cases k1:j-1=k
  .grind
  grind
 .have h0:¬(i:Int)<(j:Int)-1:=h0;refine List.ext_getElem? λk=>?_;grind
theorem AfR{l:Bk}(hl:l.length<=3000)(hd:d∈l):∃b,Pm l d=some (XM d (l.length+1) l,b):=by
 unfold Pm;rw[Sv aa,aL,show(l.any λy=>decide (d=y))=true from(by grind),Bool.not_true,Be];obtain⟨R,hR⟩:∃R,XM d (l.length+1) l=R:=⟨_,rfl⟩;rw[hR];have key:T (AA (Pl d) (l,[],[])) λv=>∃b,v= .inr (R,b):=by
  refine T.loop (λs:Bk×LE×LE=>d∈s.1/\s.1.length<=3000/\s.2.1.length+s.1.length<=6000/\s.2.2.length+s.1.length<=6000/\s.2.1++XM d (s.1.length+1) s.1=R) (λs=>s.1.length) (by grind) (by grind) ?_;rintro⟨c,a,f⟩ ⟨h1,h2,h3,h4,h5⟩;simp only at h1 h2 h3 h4 h5;have hp:0<c.length:=List.length_pos_of_mem h1;unfold Pl fF;dsimp only;refine .bind (.app (by grind) (.bind (.app (by grind) ?_)));rw[M1];unfold XM at h5;by_cases hc:c.length<2
  .rw[show M6 c=some ([],[]) by grind [M6,ah],aL];rw[Bx aa] at h5;exact .some ⟨f,by rw[<-h5]⟩
  obtain⟨e,k1,k2⟩:=X9 (n:=c.length) aa aa;rw[BA aa] at h5;generalize ZI c.length=k at e k1 k2 h5;have eK:M6 c=some (c.take k,c.drop k):=by unfold M6 fF;rw[C6 (by grind [ah]),Be,show ah c=(c.length:Int) from rfl,AfQ,e,aL];refine T.eq (.bind (.pre aa aa ?_));grind [T.bind,T.app,T.suf,T.some]
  have lt:(c.take k).length=k:=by grind
  have ld:(c.drop k).length=c.length-k:=List.length_drop;rw[eK,aL];dsimp only;rw[show decide (ah (c.drop k)=0)=false from(by grind [ah]),Be,Sv aa,aL];have hx:d∈c.take k\/d∈c.drop k:=by grind [OQ]
  rw[Sp d c.length ((c.take k).length+1) (c.take k) aa aa aa,Sp d c.length ((c.drop k).length+1) (c.drop k) aa aa aa] at h5;by_cases ht:d∈c.take k
  .rw[show((c.take k).any λy=>decide (d=y))=true from(by grind),ax];rw[Bx ht] at h5;refine .bind (.app (by grind) (.some (by constructor<;>grind)));all_goals grind
  .rw[show((c.take k).any λy=>decide (d=y))=false from(by grind),Be];rw[BA ht] at h5;refine .bind (.app (by grind) (.some (by constructor<;>grind)));all_goals grind
 obtain⟨v,e,b,rfl⟩:=key;rw[e];exact⟨b,rfl⟩
def RnF(l:Bn):Prop:=∀κ,l.map (qg κ 19)=l
abbrev oN1(s:Nat):Option Ob:=some ⟨3,[iG (s:Int)],none⟩
def o2S(cmp:Ab->Ab->Int)(l:Bc)(a b s:Nat):Option (Nat×Nat×Nat):=(l[b]?).bind λy=>(l[a]?).bind λx=>bif cmp y x<0 then some (b,a,s+1)else some (a,b,s)
def meS(cmp:Ab->Ab->Int)(l:Bc)(a b c s:Nat):Option (Nat×Nat):=(o2S cmp l a b s).bind λd=>(o2S cmp l d.2.1 c d.2.2).bind λe=>(o2S cmp l d.1 e.1 e.2.2).bind λf=>some (f.2.1,f.2.2)
def chS(cmp:Ab->Ab->Int)(l:Bc)(a:Nat):Option (Nat×Bool):=(meS cmp l (a+3) (a+6) (a+9) 0).bind λr=>bif r.2<=3 then some (r.1,decide ((r.2:Int)=0))else none
def scS(cmp:Ab->Ab->Int)(l:Bc)(b k:Nat):Option (Nat⊕Nat):=bif ((k+1:Nat):Int)<(b:Int)then(l[k+1]?).bind λx=>(l[k]?).bind λy=>bif cmp x y<0 then some (.inr k)else some (.inl (k+1))else some (.inr k)
def piS(cmp:Ab->Ab->Int)(l:Bc)(a b:Nat):Fl:=(AA (scS cmp l b) a).bind λk=>some (decide (((k+1:Nat):Int)=(b:Int)))
section
variable {gl:CB} {fi:FuncId} {fa fc:Bn} {cmp:Ab->Ab->Int} (hv:CmV gl fi fa fc cmp)
include hv
theorem AgR(hs:s<1000)(h:o2S cmp l a b s=some (u,v,w)):jg prog gl 376 [.rsl 0 0 l.length,iG (a:Int),iG (b:Int),.ref 1 0,R1 fi fa fc] [(0,Bw l),(1,oN1 s)] 2 (.tup [iG (u:Int),iG (v:Int)]) [(0,Bw l),(1,oN1 w)] 2:=by
 unfold o2S at h;obtain⟨y,hy,h⟩:=bS h;obtain⟨x,hx,h⟩:=bS h;refine pP func376 ?_;rcases bC h with⟨b1,h⟩|⟨b1,h⟩
 .simp only[Fk,FF] at h;obtain⟨rfl,rfl,rfl⟩:=h;exact mt .ret (s0 32 gl [(10,iG (b:Int)),(11,iG (a:Int))] [(0,Bw l),(1,oN1 (s+1))] 2 2) [iG (b:Int),iG (a:Int)] [AB 15 (ac.ixrZ 0 (Bg hy)),AB 16 (ac.pt0Z aW (Bg hy)),AB 19 (ac.ixrZ 0 (Bg hx)),AB 20 (ac.pt0Z aW (Bg hx)),hcp 21 2 hv y x,hr 22 b1,hbb 26 (Xl (q:=s) aa)] [hc (ac.imm l)] (ρ:=[(0,0),(1,1)]) (kd:=[(0,.row)])
 .simp only[Fk,FF] at h;obtain⟨rfl,rfl,rfl⟩:=h;exact mt .ret (s0 32 gl [(10,iG (a:Int)),(11,iG (b:Int))] [(0,Bw l),(1,oN1 s)] 2 2) [iG (a:Int),iG (b:Int)] [AB 15 (ac.ixrZ 0 (Bg hy)),AB 16 (ac.pt0Z aW (Bg hy)),AB 19 (ac.ixrZ 0 (Bg hx)),AB 20 (ac.pt0Z aW (Bg hx)),hcp 21 2 hv y x,hr 22 b1] [hc (ac.imm l)] (ρ:=[(0,0),(1,1)]) (kd:=[(0,.row)])
variable (ra:RnF fa) (rc:RnF fc)
include ra rc
theorem rn5{κ:Nat->Fp}{a b c d:G}{e f g h:G}(h1:qg κ 20 a=e)(h2:qg κ 20 b=f)(h3:qg κ 20 c=g)(h4:qg κ 20 d=h):[a,b,c,d,R1 fi fa fc].map (qg κ 20)=[e,f,g,h,R1 fi fa fc]:=by show[qg κ 20 a,qg κ 20 b,qg κ 20 c,qg κ 20 d,.clo (.func fi) (fa.map (qg κ 19)) (fc.map (qg κ 19))]=_;rw[h1,h2,h3,h4,ra κ,rc κ]
abbrev ho2(d:Nat){l:Bc}{a b s u v w:Nat}(hs:s<1000)(h:o2S cmp l a b s=some (u,v,w)):HP:=tN d [0,1] 2 [(0,Bw l),(1,oN1 s)] [.rsl 0 0 l.length,iG (a:Int),iG (b:Int),.ref 1 0,R1 fi fa fc] [(0,Bw l),(1,oN1 w)] (AgR hv hs h) ⟨⟨rfl,.inr ⟨rfl,ac.imm l⟩⟩,⟨rfl,.inl rfl⟩,trivial⟩ ⟨⟨rfl,.inr ⟨rfl,ac.imm l⟩⟩,⟨rfl,.inl rfl⟩,trivial⟩ (hgs:=rn5 hv ra rc rfl rfl rfl rfl)
theorem AkQ(h:o2S cmp l a b s=some (u,v,w)):w<=s+1/\((u=a/\v=b)\/(u=b/\v=a)):=by grind [o2S]
theorem Ai0(hs:s<100)(h:meS cmp l a b c s=some (m,w)):jg prog gl 346 [.rsl 0 0 l.length,iG (a:Int),iG (b:Int),iG (c:Int),.ref 1 0,R1 fi fa fc] [(0,Bw l),(1,oN1 s)] 2 (iG (m:Int)) [(0,Bw l),(1,oN1 w)] 2:=by unfold meS at h;obtain⟨⟨u1,f,g⟩,e1,h⟩:=bS h;obtain⟨⟨i,j,k⟩,e2,h⟩:=bS h;obtain⟨⟨n,d,e⟩,e3,h⟩:=bS h;simp only[Fk,FF] at h;obtain⟨rfl,rfl⟩:=h;have k1:=(AkQ hv ra rc e1).1;have k2:=(AkQ hv ra rc e2).1;dsimp only at e2 e3 k2;refine pP func346 ?_;exact mt .ret (s0 41 gl [(12,iG (d:Int))] [(0,Bw l),(1,oN1 e)] 2 2) [iG (d:Int)] [ho2 hv ra rc 19 aa e1,ho2 hv ra rc 28 aa e2,ho2 hv ra rc 37 aa e3] [hc (ac.imm l)] (ρ:=[(0,0),(1,1)]) (kd:=[(0,.row)])
def Big(a b:Nat):Prop:=(a=0/\b=13)\/(a=0/\b=14)\/(a=1/\b=14)
abbrev AkR(d:Nat){l:Bc}{a b c m w:Nat}(h:meS cmp l a b c 0=some (m,w)):HP:=tN d [0,1] 2 [(0,Bw l),(1,oN1 0)] [.rsl 0 0 l.length,iG (a:Int),iG (b:Int),iG (c:Int),.ref 1 0,R1 fi fa fc] [(0,Bw l),(1,oN1 w)] (Ai0 hv ra rc BX h) ⟨⟨rfl,.inr ⟨rfl,ac.imm l⟩⟩,⟨rfl,.inl rfl⟩,trivial⟩ ⟨⟨rfl,.inr ⟨rfl,ac.imm l⟩⟩,⟨rfl,.inl rfl⟩,trivial⟩ (hgs:=congrArg (G.rsl 0 0 l.length::·) (rn5 hv ra rc rfl rfl rfl rfl))
theorem Ai1{l:Bc}{a b m:Nat}{f:Bool}(hB:Big a b)(h:chS cmp l a=some (m,f)):jg prog gl 270 [.rsl 0 0 l.length,iG (a:Int),iG (b:Int),R1 fi fa fc] [(0,Bw l)] 1 (.tup [iG (m:Int),iG (bif f then 1 else 0)]) [(0,Bw l)] 1:=by
 unfold chS at h;obtain⟨⟨c,w⟩,e,h⟩:=bS h;obtain⟨hw,h⟩:=Ht h;have hw:=DL hw;dsimp only at hw;simp only[Fk,FF] at h;obtain⟨rfl,rfl⟩:=h;have hn:decide ((w:Int)=12)=false:=C6 aa;refine pP func270 ?_;cases b1:decide ((w:Int)=0) with
 |true=>
  rcases hB with⟨rfl,rfl⟩|⟨rfl,rfl⟩|⟨rfl,rfl⟩
  all_goals exact mt .ret (s0 63 gl [(8,iG (c:Int)),(9,iG 1)] [(0,Bw l)] 1 1) [iG (c:Int),iG 1] [AkR hv ra rc 54 e,hr 58 b1] [hc (ac.imm l)] (ρ:=[(0,0)]) (kd:=[(0,.row)])
 |false=>
  rcases hB with⟨rfl,rfl⟩|⟨rfl,rfl⟩|⟨rfl,rfl⟩
  all_goals exact mt .ret (s0 63 gl [(8,iG (c:Int)),(9,iG 0)] [(0,Bw l)] 1 1) [iG (c:Int),iG 0] [AkR hv ra rc 54 e,hr 58 b1,hr 61 hn] [hc (ac.imm l)] (ρ:=[(0,0)]) (kd:=[(0,.row)])
omit ra rc
theorem Ai2{l:Bc}{a b:Nat}{f:Bool}(hl:l.length<=1000)(ha:a<1000)(hb:b<=1000)(g:b-a<50)(h:piS cmp l a b=some f):jg prog gl 272 [.rsl 0 0 l.length,iG (a:Int),iG (b:Int),R1 fi fa fc] [(0,Bw l)] 1 (bG f) [(0,Bw l)] 1:=by
 unfold piS at h;obtain⟨k,ek,h⟩:=bS h;obtain rfl:=Bf h;refine pP func272 ?_;refine pN (λ_:Unit=>(s0 141 gl [(0,.rsl 0 0 l.length),(1,iG (a:Int)),(2,iG (b:Int)),(3,R1 fi fa fc),(9,iG ((a+1:Nat):Int)),(10,iG 0)] [(0,Bw l)] 1 1)) 1110122 Lg [hbb 14 (Xl (q:=a) aa)] [hc (el l),hc hv.im,hc (ac.imm l)] (λB z w hz2 e c=>?_) [] [(0,0)] [(0,.row)];clear e c hz2;refine Ix 11101221020 (s0 141 gl [(0,.rsl 0 0 l.length),(1,iG (a:Int)),(2,iG (b:Int)),(3,R1 fi fa fc),(9,iG ((k+1:Nat):Int)),(10,iG 0)] [(0,Bw l)] 1 1) ?_ λkk=>?_;rotate_left
 .refine pN (λk:Nat=>(s0 141 gl [(0,.rsl 0 0 l.length),(1,iG (a:Int)),(2,iG (b:Int)),(3,R1 fi fa fc),(9,iG ((k+1:Nat):Int)),(10,iG 0)] [(0,Bw l)] 1 1)) 1110122102022 ek [] [hc (el l),hc hv.im,hc (ac.imm l)] (λi k v hz e c=>?_) [] [(0,0)] [(0,.row)];unfold scS at hz;rcases bC hz with⟨b2,hz⟩|⟨b2,hz⟩
  .obtain⟨x,ex,hz⟩:=bS hz;obtain⟨y,d,hz⟩:=bS hz;have hq:=(cr ex).1;rcases bC hz with⟨b3,hz⟩|⟨b3,hz⟩
   .obtain rfl:=Bf hz;obtain rfl:=c _ rfl;exact yl 11101221020 [hr 21 b2,AB 26 (ac.ixrZ 0 (Bg ex)),AB 27 (ac.pt0Z aW (Bg ex)),hbb 30 (dec (q:=k) aa),AB 31 (ac.ixrZ 0 (Bg d)),AB 32 (ac.pt0Z aW (Bg d)),hcp 33 1 hv x y,hr 34 b3] [hc (el l),hc hv.im,hc (ac.imm l)] kk [] [(0,0)] [(0,.row)]
   .obtain rfl:=Bf hz;exact jw [hr 21 b2,AB 26 (ac.ixrZ 0 (Bg ex)),AB 27 (ac.pt0Z aW (Bg ex)),hbb 30 (dec (q:=k) aa),AB 31 (ac.ixrZ 0 (Bg d)),AB 32 (ac.pt0Z aW (Bg d)),hcp 33 1 hv x y,hr 34 b3,hbb 38 (Xl (q:=k+1) aa)] [hc (el l),hc hv.im,hc (ac.imm l)] (e _ rfl) [] [(0,0)] [(0,.row)]
  .obtain rfl:=Bf hz;obtain rfl:=c _ rfl;exact yl 11101221020 [hr 21 b2] [hc (el l),hc hv.im,hc (ac.imm l)] kk [] [(0,0)] [(0,.row)]
 clear ek;cases b1:decide (((k+1:Nat):Int)=(b:Int)) with
 |true=>exact mt .ret (s0 141 gl [(8,bG true)] [(0,Bw l)] 1 1) [bG true] [hr 41 b1] [hc (ac.imm l)] (ρ:=[(0,0)]) (kd:=[(0,.row)])
 |false=>exact mt .ret (s0 141 gl [(8,bG false)] [(0,Bw l)] 1 1) [bG false] [hr 41 b1,hbb 44 (sb (a:=(b:Int)) (b:=(a:Int)) (z:=(b:Int)-(a:Int)) rfl aa),hr 45 (show decide ((b:Int)-(a:Int)<50)=true from CO aa)] [hc (ac.imm l)] (ρ:=[(0,0)]) (kd:=[(0,.row)])
omit hv
abbrev oXs(s:Nat):Option Ob:=some ⟨367,[uG (s:Int)],none⟩
def rnX:Nat->Nat
 |0=>13
 |1=>14069506893
 |2=>14988908846326605643
 |_=>3428281591454193221
theorem aa5(j:Nat)(h:j<3):jg prog gl 344 [.ref 0 0] [(0,oXs (rnX j))] 1 (uG (rnX (j+1):Int)) [(0,oXs (rnX (j+1)))] 1:=by
 refine pP func344 ?_;rcases(by omega:j=0\/j=1\/j=2) with rfl|rfl|rfl
 .exact mt .ret (s0 33 gl [(2,uG 14069506893)] [(0,oXs 14069506893)] 1 1) [uG 14069506893] [] []
 .exact mt .ret (s0 33 gl [(2,uG 14988908846326605643)] [(0,oXs 14988908846326605643)] 1 1) [uG 14988908846326605643] [] []
 .exact mt .ret (s0 33 gl [(2,uG 3428281591454193221)] [(0,oXs 3428281591454193221)] 1 1) [uG 3428281591454193221] [] []
theorem Ai3:ba prog gl 343 [iG 13] (uG 16):=by have h:=RC gl (n:=13) BX;refine Gh func343 ?_;exact Ar [hf 5 h] []
end
theorem dJa{fn:Func}{Q:Exit->St->Prop}{Bs:List (St->Prop)}{m:Bool}{p:Bq}(q:Bq)(J:St)(kk:Gp P fn Q Bs false q J)(h:Gp P fn Q Bs false q J->Gp P fn Q Bs m p st):Gp P fn Q Bs m p st:=h kk
def brT(s:Nat×Bc):Option ((Nat×Bc)⊕Bc):=match s.1 with
 |0=>(swZ s.2 6 1).bind λl=>some (.inl (1,l))
 |1=>(swZ s.2 7 12).bind λl=>some (.inl (2,l))
 |2=>(swZ s.2 8 6).bind λl=>some (.inl (3,l))
 |3=>some (.inr s.2)
 |_=>none
def brG(l:Bc)(a b c:Nat)(d:Bool):Option (Bc×Nat):=bif d then some (l,c)else bif Nat.beq a 1&&Nat.beq b 14 then(AA brT (0,l)).bind λr=>bif Nat.beq l.length r.length then some (r,c-1)else none else none
def agG(cmp:Ab->Ab->Int)(l:Bc)(a p:Nat):Fl:=bif Nat.blt 0 a then(l[a-1]?).bind λy=>(l[p]?).bind λx=>some (decide (cmp y x<0))else some true
def AgS(a b:Nat):Bool:=(Nat.beq a 0&&Nat.beq b 13)||((Nat.beq a 0&&Nat.beq b 14)||(Nat.beq a 1&&Nat.beq b 14))
theorem AgT(h:AgS a b=true):Big a b:=by
 unfold AgS at h;simp only[Bool.or_eq_true,bA] at h;rcases h with⟨h1,h2⟩|⟨h1,h2⟩|⟨h1,h2⟩
 .exact .inl ⟨bc h1,bc h2⟩
 .exact .inr (by grind [bc])
 .exact .inr (by grind [bc])
abbrev PdS:Type:=Bc×Nat×Nat×Nat×Bool×Bool
def pdN(cmp:Ab->Ab->Int)(a b c:Nat)(m:Nat)(f:Bool)(l:Bc):Option (PdS⊕Bc):=
 bif a<=m/\m<b then(bif (m:Int)-(a:Int)<(b:Int)-(m:Int)then(inI cmp (a:Int) (m:Int) l).bind λl3=>bif Nat.beq l.length l3.length then some (.inl (l3,m+1,b,c,decide ((1:Int)<=(m:Int)-(a:Int)),f))else none
  else(inI cmp ((m+1:Nat):Int) (b:Int) l).bind λl3=>bif Nat.beq l.length l3.length then some (.inl (l3,a,m,c,decide ((1:Int)<=(b:Int)-(m:Int)),f))else none)else none
def pdT(cmp:Ab->Ab->Int)(s:PdS):Option (PdS⊕Bc):=
 bif s.1.length<=1000/\s.2.1<=100/\s.2.2.1<=100 then
 bif (s.2.2.1:Int)-(s.2.1:Int)<=12 then(inI cmp (s.2.1:Int) (s.2.2.1:Int) s.1).bind λr=>some (.inr r)
 else bif AgS s.2.1 s.2.2.1&&(Nat.blt 0 s.2.2.2.1&&Nat.ble s.2.2.2.1 100) then
  (brG s.1 s.2.1 s.2.2.1 s.2.2.2.1 s.2.2.2.2.1).bind λq=>bif q.1.length<=1000 then(chS cmp q.1 s.2.1).bind λc=>(bif s.2.2.2.2.1&&s.2.2.2.2.2&&c.2 then piS cmp q.1 s.2.1 s.2.2.1 else some false).bind λd=>bif d then some (.inr q.1) else
  (agG cmp q.1 s.2.1 c.1).bind λok=>bif ok then(paS cmp s.2.1 s.2.2.1 c.1 q.1).bind λr=>bif Nat.beq q.1.length r.2.2.length then pdN cmp s.2.1 s.2.2.1 q.2 r.1 r.2.1 r.2.2 else none else none else none
 else none else none
section
variable {gl:CB} {fi:FuncId} {fa fc:Bn} {cmp:Ab->Ab->Int} (hv:CmV gl fi fa fc cmp)
include hv
theorem Ai5{r:Bc}(h:AA brT (0,l)=some r):jg prog gl 269 [.rsl 0 0 l.length,iG 1,iG 14,R1 fi fa fc] [(0,Bw l)] 1 (.tup []) [(0,Bw r)] 1:=by
 have hn:=Ai3 (gl:=gl);have h0:=aa5 (gl:=gl) 0 BX;have h1:=aa5 (gl:=gl) 1 BX;have h2:=aa5 (gl:=gl) 2 BX;refine pP func269 ?_;refine pN (λs:Nat×Bc=>(s0 67 gl [(0,.rsl 0 0 s.2.length),(1,iG 1),(8,iG 13),(9,.ref 1 0),(10,uG 16),(11,iG ((6+s.1:Nat):Int))] [(0,Bw s.2),(1,oXs (rnX s.1))] 2 1)) 111311122 h [hf 21 hn] [hc (el l),hc (ac.imm l)] (λB s w hs k5 a=>?_) [] [(0,0),(1,1)] [(0,.row)];obtain⟨j,l⟩:=s;unfold brT at hs;dsimp only at hs;split at hs
 .obtain⟨l1,e1,hs⟩:=bS hs;obtain rfl:=Bf hs;obtain⟨x,y,hx,hy,e⟩:=I1 e1;have hl:l.length=l1.length:=by rw[e];exact TD
  exact jw (tN 38 [1] 2 [(1,oXs (rnX 0))] [.ref 1 0] [(0,oXs (rnX 1))] h0 ⟨⟨rfl,.inl rfl⟩,trivial⟩ ⟨⟨rfl,.inl rfl⟩,trivial⟩::hsw 59 63 65 66 hx hy e) [hc hl,hc (ac.imm l1)] (k5 _ rfl) [] [(0,0),(1,1)] [(0,.row)]
 .obtain⟨l1,e1,hs⟩:=bS hs;obtain rfl:=Bf hs;obtain⟨x,y,hx,hy,e⟩:=I1 e1;have hl:l.length=l1.length:=by rw[e];exact TD
  exact jw (tN 38 [1] 2 [(1,oXs (rnX 1))] [.ref 1 0] [(0,oXs (rnX 2))] h1 ⟨⟨rfl,.inl rfl⟩,trivial⟩ ⟨⟨rfl,.inl rfl⟩,trivial⟩::hsw 59 63 65 66 hx hy e) [hc hl,hc (ac.imm l1)] (k5 _ rfl) [] [(0,0),(1,1)] [(0,.row)]
 .obtain⟨l1,e1,hs⟩:=bS hs;obtain rfl:=Bf hs;obtain⟨x,y,hx,hy,e⟩:=I1 e1;have hl:l.length=l1.length:=by rw[e];exact TD
  exact jw (tN 38 [1] 2 [(1,oXs (rnX 2))] [.ref 1 0] [(0,oXs (rnX 3))] h2 ⟨⟨rfl,.inl rfl⟩,trivial⟩ ⟨⟨rfl,.inl rfl⟩,trivial⟩::hsw 59 63 65 66 hx hy e) [hc hl,hc (ac.imm l1)] (k5 _ rfl) [] [(0,0),(1,1)] [(0,.row)]
 .obtain rfl:=Bf hs;obtain rfl:=a _ rfl;exact mt .normal (s0 67 gl [] [(0,Bw l)] 1 1) [] [] [hc (ac.imm l)] (ρ:=[(0,0)]) (kd:=[(0,.row)])
 .cases hs
variable (ra:RnF fa) (rc:RnF fc)
include ra rc
theorem rnA{κ:Nat->Fp}{x y:G}(h1:qg κ 20 x=y)(h:L.map (qg κ 20)=L):(x::(L++[R1 fi fa fc])).map (qg κ 20)=y::(L++[R1 fi fa fc]):=by rw[E7,List.map_append,h1,h];show y::(L++[.clo (.func fi) (fa.map (qg κ 19)) (fc.map (qg κ 19))])=_;rw[ra κ,rc κ]
abbrev hI(d:Nat)(L:Bn){f:FuncId}{l r:Bc}{res:G}(hM:jg prog gl f (.rsl 0 0 l.length::(L++[R1 fi fa fc])) [(0,Bw l)] 1 res [(0,Bw r)] 1)(hL:L.map (qg (vi [0]) 20)=L):HP:=tN d [0] 1 [(0,Bw l)] (.rsl 0 0 l.length::(L++[R1 fi fa fc])) [(0,Bw r)] hM ⟨⟨rfl,.inr ⟨rfl,ac.imm l⟩⟩,trivial⟩ ⟨⟨rfl,.inr ⟨rfl,ac.imm r⟩⟩,trivial⟩ (hgs:=rnA hv ra rc rfl hL)
omit hv ra rc in
theorem mcL{f:FuncId}{r:Bc}{res:G}{n:Nat}(e:n=l.length)(hM:jg prog gl f (.rsl 0 0 l.length::L) [(0,Bw l)] 1 res [(0,Bw r)] 1):jg prog gl f (.rsl 0 0 n::L) [(0,Bw l)] 1 res [(0,Bw r)] 1:=e▸hM
abbrev hI2(d:Nat)(L:Bn){f:FuncId}{l r:Bc}{res:G}{n:Nat}(e:n=l.length)(hM:jg prog gl f (.rsl 0 0 l.length::(L++[R1 fi fa fc])) [(0,Bw l)] 1 res [(0,Bw r)] 1)(hL:L.map (qg (vi [0]) 20)=L):HP:=tN d [0] 1 [(0,Bw l)] (.rsl 0 0 n::(L++[R1 fi fa fc])) [(0,Bw r)] (mcL e hM) ⟨⟨rfl,.inr ⟨rfl,ac.imm l⟩⟩,trivial⟩ ⟨⟨rfl,.inr ⟨rfl,ac.imm r⟩⟩,trivial⟩ (hgs:=rnA hv ra rc rfl hL)
theorem PP{a b:Nat}{r:Bc}(ha:a<=1000)(hb:b<=1000)(c:(b:Int)-(a:Int)<=12)(h:inI cmp (a:Int) (b:Int) l=some r)(k:Int):jg prog gl 192 [.rsl 0 0 l.length,iG (a:Int),iG (b:Int),iG k,R1 fi fa fc] [(0,Bw l)] 1 (.tup []) [(0,Bw r)] 1:=by have hs:=sb (a:=(b:Int)) (b:=(a:Int)) (z:=(b:Int)-(a:Int)) rfl aa;have hd:=CO c;refine pP func192 ?_;refine pN (λ_:Unit=>(s0 148 gl [(0,.rsl 0 0 l.length),(1,iG (a:Int)),(2,iG (b:Int)),(3,iG k),(4,R1 fi fa fc)] [(0,Bw l)] 1 1)) 11122 Lg [] [hc (el l),hc hv.im,hc (ac.imm l)] (λd z v hz2 e f=>?_) [] [(0,0)] [(0,.row)];exact mt .ret (s0 148 gl [] [(0,Bw r)] 1 1) [] [hbb 23 hs,hr 25 hd,hI hv ra rc 30 [iG (a:Int),iG (b:Int)] (Acu hv h) rfl] [hc (ac.imm r)] (ρ:=[(0,0)]) (kd:=[(0,.row)])
abbrev Amz(gl:CB)(fi:FuncId)(fa fc:Bn)(s:PdS):St:=(s0 148 gl [(0,.rsl 0 0 s.1.length),(1,iG (s.2.1:Int)),(2,iG (s.2.2.1:Int)),(3,iG (s.2.2.2.1:Int)),(4,R1 fi fa fc),(10,bG s.2.2.2.2.1),(11,bG s.2.2.2.2.2)] [(0,Bw s.1)] 1 1)
theorem Ai6{s:PdS}{r:Bc}(h:AA (pdT cmp) s=some r)(h1:s.2.2.2.2=(true,true)):jg prog gl 192 [.rsl 0 0 s.1.length,iG (s.2.1:Int),iG (s.2.2.1:Int),iG (s.2.2.2.1:Int),R1 fi fa fc] [(0,Bw s.1)] 1 (.tup []) [(0,Bw r)] 1:=by
 refine pP func192 ?_;obtain⟨l,a,b,g,j,par⟩:=s;obtain⟨rfl,rfl⟩:=Prod.mk.inj h1;clear h1;refine pN (Amz gl fi fa fc) [1,1,2,2] h [] [hc (el l),hc hv.im,hc (ac.imm l)] (λB s w hs k5 C=>?_) [] [(0,0)] [(0,.row)];clear h l a b g;obtain⟨l,a,b,g,j,par⟩:=s;unfold pdT at hs;dsimp only at hs;obtain⟨hg,hs⟩:=Ht hs;obtain⟨hl,ha,hb⟩:=DL hg;have o:=sb (a:=(b:Int)) (b:=(a:Int)) (z:=(b:Int)-(a:Int)) rfl aa;rcases bC hs with⟨b1,hs⟩|⟨b1,hs⟩
 .obtain⟨r',A,hs⟩:=bS hs;obtain rfl:=Bf hs;obtain rfl:=C _ rfl;exact mt .ret (s0 148 gl [] [(0,Bw r')] 1 1) [] [hbb 23 o,hr 25 b1,hI hv ra rc 30 [iG (a:Int),iG (b:Int)] (Acu hv A) rfl] [hc (ac.imm r')] (ρ:=[(0,0)]) (kd:=[(0,.row)])
 obtain⟨u,hs⟩:=Ht hs;simp only[bA] at u;obtain⟨hB,hl1,hl2⟩:=u;have hB:=AgT hB;have hlim:0<g:=E5 hl1;have hlim2:g<=100:=E5 hl2;clear hl1 hl2;obtain⟨⟨l1,c⟩,k,hs⟩:=bS hs;dsimp only at hs;obtain⟨v,hs⟩:=Ht hs;have hll:=DL v;obtain⟨⟨p,Xl⟩,D,hs⟩:=bS hs;dsimp only at hs;obtain⟨d,ed,hs⟩:=bS hs;refine dJa [1,1,2,2,2,1,1,1,1,0] (s0 148 gl [(0,.rsl 0 0 l1.length),(1,iG (a:Int)),(2,iG (b:Int)),(3,iG (c:Int)),(4,R1 fi fa fc),(10,bG j),(11,bG par),(12,iG ((b:Int)-(a:Int)))] [(0,Bw l1)] 1 1) ?_ λkk=>?_;rotate_left
 .have hn0:decide ((g:Int)=0)=false:=C6 aa;unfold brG at k;cases j with
  |true=>obtain⟨rfl,rfl⟩:=Prod.mk.inj (Bf k);exact pO 11122211110 _ [hbb 23 o,hr 25 b1,hr 32 hn0] [hc (el l),hc hv.im,hc (ac.imm l)] kk [] [(0,0)] [(0,.row)]
  |false=>obtain⟨t,k⟩:=Ht k;rw[bA] at t;obtain rfl:=bc t.1;obtain rfl:=bc t.2;obtain⟨r',A,k⟩:=bS k;obtain⟨hle,k⟩:=Ht k;have hle:=bc hle;obtain⟨q,rfl⟩:∃q,g=q+1:=⟨g-1,aa⟩;rw[Nat.add_sub_cancel] at k;obtain⟨rfl,rfl⟩:=Prod.mk.inj (Bf k);exact pO 11122211110 _ [hbb 23 o,hr 25 b1,hr 32 hn0,hI hv ra rc 44 [iG 1,iG 14] (Ai5 hv A) rfl,hbb 46 (dec (q:=q) aa)] [hc hle,hc hv.im,hc (ac.imm r')] kk [] [(0,0)] [(0,.row)]
 clear k b1 o hlim hlim2;have i:=Ai1 hv ra rc (b:=b) hB D;have hpi:=λe=>Ai2 hv (l:=l1) (a:=a) (b:=b) (f:=d) hll aa aa (by rcases hB with⟨rfl,rfl⟩|⟨rfl,rfl⟩|⟨rfl,rfl⟩<;>decide) e;cases d with
 |true=>
  obtain rfl:=Bf hs;obtain rfl:=C _ rfl;cases j with
  |false=>cases ed
  |true=>cases par with
   |false=>cases ed
   |true=>cases Xl with
    |false=>cases ed
    |true=>
     have hpi:=hpi ed
     exact mt .ret (s0 148 gl [] [(0,Bw l1)] 1 1) [] [hI hv ra rc 52 [iG (a:Int),iG (b:Int)] i rfl,hI hv ra rc 80 [iG (a:Int),iG (b:Int)] hpi rfl] [hc (ac.imm l1)] (ρ:=[(0,0)]) (kd:=[(0,.row)])
 |false=>
 refine dJa [1,1,2,2,2,1,1,1,1,1,1,1,0,0] (s0 148 gl [(0,.rsl 0 0 l1.length),(1,iG (a:Int)),(2,iG (b:Int)),(3,iG (c:Int)),(4,R1 fi fa fc),(12,iG ((b:Int)-(a:Int))),(13,iG (p:Int))] [(0,Bw l1)] 1 1) ?_ λkk=>?_;rotate_left
 .cases j with
  |false=>cases par<;>cases Xl<;>exact pO 111222111111100 _ [hI hv ra rc 52 [iG (a:Int),iG (b:Int)] i rfl] [hc (el l1),hc hv.im,hc (ac.imm l1)] kk [] [(0,0)] [(0,.row)]
  |true=>cases par with
   |false=>cases Xl<;>exact pO 111222111111100 _ [hI hv ra rc 52 [iG (a:Int),iG (b:Int)] i rfl] [hc (el l1),hc hv.im,hc (ac.imm l1)] kk [] [(0,0)] [(0,.row)]
   |true=>cases Xl with
    |false=>exact pO 111222111111100 _ [hI hv ra rc 52 [iG (a:Int),iG (b:Int)] i rfl] [hc (el l1),hc hv.im,hc (ac.imm l1)] kk [] [(0,0)] [(0,.row)]
    |true=>
     have hpi:=hpi ed
     exact pO 111222111111100 _ [hI hv ra rc 52 [iG (a:Int),iG (b:Int)] i rfl,hI hv ra rc 80 [iG (a:Int),iG (b:Int)] hpi rfl] [hc (el l1),hc hv.im,hc (ac.imm l1)] kk [] [(0,0)] [(0,.row)]
 clear i hpi ed D;rw[Be] at hs;obtain⟨ok,n,hs⟩:=bS hs;rcases hB with⟨rfl,rfl⟩|⟨rfl,rfl⟩|⟨rfl,rfl⟩
 .clear n;obtain⟨hok,hs⟩:=Ht hs;subst hok;obtain⟨⟨m,f,l2⟩,ep,hs⟩:=bS hs;dsimp only at hs;obtain⟨h2,hs⟩:=Ht hs;have h2:=bc h2;unfold pdN at hs;obtain⟨hm,hs⟩:=Ht hs;have hm:=DL hm;rcases bC hs with⟨b2,hs⟩|⟨b2,hs⟩
  .have b3:=DL b2;obtain⟨l3,e3,hs⟩:=bS hs;obtain⟨h3,hs⟩:=Ht hs;have h3:=h2.trans (bc h3);obtain rfl:=Bf hs;exact jw [hI hv ra rc 111 [iG ((0:Nat):Int),iG ((13:Nat):Int),iG (p:Int)] (PO hv hll aa aa aa ep) rfl,hbb 117 (sb (a:=(m:Int)) (b:=((0:Nat):Int)) (z:=(m:Int)-((0:Nat):Int)) rfl aa),hbb 120 (sb (a:=((13:Nat):Int)) (b:=(m:Int)) (z:=((13:Nat):Int)-(m:Int)) rfl aa),hr 125 b2,hI2 hv ra rc 134 [iG ((0:Nat):Int),iG (m:Int),iG (c:Int)] h2 (PP hv ra rc aa aa aa e3 (c:Int)) rfl,hbb 136 (Go.Proofs.YtghphhhpagagbaaGreatDoor.Xl (q:=m) aa)] [hc h3,hc hv.im,hc (ac.imm l3)] (k5 _ rfl) [] [(0,0)] [(0,.row)]
  .have b3:=LR b2;obtain⟨l3,e3,hs⟩:=bS hs;obtain⟨h3,hs⟩:=Ht hs;have h3:=h2.trans (bc h3);obtain rfl:=Bf hs;exact jw [hI hv ra rc 111 [iG ((0:Nat):Int),iG ((13:Nat):Int),iG (p:Int)] (PO hv hll aa aa aa ep) rfl,hbb 117 (sb (a:=(m:Int)) (b:=((0:Nat):Int)) (z:=(m:Int)-((0:Nat):Int)) rfl aa),hbb 120 (sb (a:=((13:Nat):Int)) (b:=(m:Int)) (z:=((13:Nat):Int)-(m:Int)) rfl aa),hr 125 b2,hbb 142 (Go.Proofs.YtghphhhpagagbaaGreatDoor.Xl (q:=m) aa),hI2 hv ra rc 146 [iG ((m+1:Nat):Int),iG ((13:Nat):Int),iG (c:Int)] h2 (PP hv ra rc aa aa aa e3 (c:Int)) rfl] [hc h3,hc hv.im,hc (ac.imm l3)] (k5 _ rfl) [] [(0,0)] [(0,.row)]
 .clear n;obtain⟨hok,hs⟩:=Ht hs;subst hok;obtain⟨⟨m,f,l2⟩,ep,hs⟩:=bS hs;dsimp only at hs;obtain⟨h2,hs⟩:=Ht hs;have h2:=bc h2;unfold pdN at hs;obtain⟨hm,hs⟩:=Ht hs;have hm:=DL hm;rcases bC hs with⟨b2,hs⟩|⟨b2,hs⟩
  .have b3:=DL b2;obtain⟨l3,e3,hs⟩:=bS hs;obtain⟨h3,hs⟩:=Ht hs;have h3:=h2.trans (bc h3);obtain rfl:=Bf hs;exact jw [hI hv ra rc 111 [iG ((0:Nat):Int),iG ((14:Nat):Int),iG (p:Int)] (PO hv hll aa aa aa ep) rfl,hbb 117 (sb (a:=(m:Int)) (b:=((0:Nat):Int)) (z:=(m:Int)-((0:Nat):Int)) rfl aa),hbb 120 (sb (a:=((14:Nat):Int)) (b:=(m:Int)) (z:=((14:Nat):Int)-(m:Int)) rfl aa),hr 125 b2,hI2 hv ra rc 134 [iG ((0:Nat):Int),iG (m:Int),iG (c:Int)] h2 (PP hv ra rc aa aa aa e3 (c:Int)) rfl,hbb 136 (Go.Proofs.YtghphhhpagagbaaGreatDoor.Xl (q:=m) aa)] [hc h3,hc hv.im,hc (ac.imm l3)] (k5 _ rfl) [] [(0,0)] [(0,.row)]
  .have b3:=LR b2;obtain⟨l3,e3,hs⟩:=bS hs;obtain⟨h3,hs⟩:=Ht hs;have h3:=h2.trans (bc h3);obtain rfl:=Bf hs;exact jw [hI hv ra rc 111 [iG ((0:Nat):Int),iG ((14:Nat):Int),iG (p:Int)] (PO hv hll aa aa aa ep) rfl,hbb 117 (sb (a:=(m:Int)) (b:=((0:Nat):Int)) (z:=(m:Int)-((0:Nat):Int)) rfl aa),hbb 120 (sb (a:=((14:Nat):Int)) (b:=(m:Int)) (z:=((14:Nat):Int)-(m:Int)) rfl aa),hr 125 b2,hbb 142 (Go.Proofs.YtghphhhpagagbaaGreatDoor.Xl (q:=m) aa),hI2 hv ra rc 146 [iG ((m+1:Nat):Int),iG ((14:Nat):Int),iG (c:Int)] h2 (PP hv ra rc aa aa aa e3 (c:Int)) rfl] [hc h3,hc hv.im,hc (ac.imm l3)] (k5 _ rfl) [] [(0,0)] [(0,.row)]
 .obtain⟨y,hy,n⟩:=bS (show((l1[0]?).bind λy=>(l1[p]?).bind λx=>some (decide (cmp y x<0)))=some ok from n);obtain⟨x,hx,n⟩:=bS n;have n:=Bf n;obtain⟨hok,hs⟩:=Ht hs;subst hok;obtain⟨⟨m,f,l2⟩,ep,hs⟩:=bS hs;dsimp only at hs;obtain⟨h2,hs⟩:=Ht hs;have h2:=bc h2;unfold pdN at hs;obtain⟨hm,hs⟩:=Ht hs;have hm:=DL hm;rcases bC hs with⟨b2,hs⟩|⟨b2,hs⟩
  .have b3:=DL b2;obtain⟨l3,e3,hs⟩:=bS hs;obtain⟨h3,hs⟩:=Ht hs;have h3:=h2.trans (bc h3);obtain rfl:=Bf hs;exact jw [AB 88 (ac.ixrZ 0 (Bg hy)),AB 89 (ac.pt0Z aW (Bg hy)),AB 92 (ac.ixrZ 0 (Bg hx)),AB 93 (ac.pt0Z aW (Bg hx)),hcp 94 1 hv y x,hr 95 n,hI hv ra rc 111 [iG ((1:Nat):Int),iG ((14:Nat):Int),iG (p:Int)] (PO hv hll aa aa aa ep) rfl,hbb 117 (sb (a:=(m:Int)) (b:=((1:Nat):Int)) (z:=(m:Int)-((1:Nat):Int)) rfl aa),hbb 120 (sb (a:=((14:Nat):Int)) (b:=(m:Int)) (z:=((14:Nat):Int)-(m:Int)) rfl aa),hr 125 b2,hI2 hv ra rc 134 [iG ((1:Nat):Int),iG (m:Int),iG (c:Int)] h2 (PP hv ra rc aa aa aa e3 (c:Int)) rfl,hbb 136 (Go.Proofs.YtghphhhpagagbaaGreatDoor.Xl (q:=m) aa)] [hc h3,hc hv.im,hc (ac.imm l3)] (k5 _ rfl) [] [(0,0)] [(0,.row)]
  .have b3:=LR b2;obtain⟨l3,e3,hs⟩:=bS hs;obtain⟨h3,hs⟩:=Ht hs;have h3:=h2.trans (bc h3);obtain rfl:=Bf hs;exact jw [AB 88 (ac.ixrZ 0 (Bg hy)),AB 89 (ac.pt0Z aW (Bg hy)),AB 92 (ac.ixrZ 0 (Bg hx)),AB 93 (ac.pt0Z aW (Bg hx)),hcp 94 1 hv y x,hr 95 n,hI hv ra rc 111 [iG ((1:Nat):Int),iG ((14:Nat):Int),iG (p:Int)] (PO hv hll aa aa aa ep) rfl,hbb 117 (sb (a:=(m:Int)) (b:=((1:Nat):Int)) (z:=(m:Int)-((1:Nat):Int)) rfl aa),hbb 120 (sb (a:=((14:Nat):Int)) (b:=(m:Int)) (z:=((14:Nat):Int)-(m:Int)) rfl aa),hr 125 b2,hbb 142 (Go.Proofs.YtghphhhpagagbaaGreatDoor.Xl (q:=m) aa),hI2 hv ra rc 146 [iG ((m+1:Nat):Int),iG ((14:Nat):Int),iG (c:Int)] h2 (PP hv ra rc aa aa aa e3 (c:Int)) rfl] [hc h3,hc hv.im,hc (ac.imm l3)] (k5 _ rfl) [] [(0,0)] [(0,.row)]
end
structure OrN {α:Type} (cmp:α->α->Int) (D:α->Prop):Prop where
 tr:∀x y z,cmp x y<0->cmp y z<0->cmp x z<0
 tt:∀x y,D x->D y->x≠y->cmp x y<0\/cmp y x<0
def Rg{α:Type}(a b:Nat)(l r:List α):Prop:=r.Perm l/\∀q,(q<a\/b<=q)->r[q]?=l[q]?
def SoR{α:Type}(cmp:α->α->Int)(a b:Nat)(l:List α):Prop:=∀p q x y,a<=p->p<q->q<b->l[p]?=some x->l[q]?=some y->cmp x y<0
def OrX{α:Type}(cmp:α->α->Int)(a b:Nat)(l:List α):Prop:=∀p q x y,p<q->¬(a<=p/\q<b)->l[p]?=some x->l[q]?=some y->cmp x y<0
theorem Rg.refl{α:Type}{a b:Nat}(l:List α):Rg a b l l:=⟨.refl _,λ_ _=>rfl⟩
theorem Rg.trans{α:Type}{a b:Nat}{l r s:List α}(h:Rg a b l r)(k:Rg a b r s):Rg a b l s:=⟨k.1.trans h.1,λq hq=>(k.2 q hq).trans (h.2 q hq)⟩
theorem Rg.mono{α:Type}{a b a' b':Nat}{l r:List α}(h:Rg a b l r)(ha:a'<=a)(hb:b<=b'):Rg a' b' l r:=⟨h.1,λq hq=>h.2 q aa⟩
theorem Rg.len{α:Type}{a b:Nat}{l r:List α}(h:Rg a b l r):r.length=l.length:=h.1.length_eq
theorem Md{l:List α}(h:l.Nodup){q:Nat}{x:α}(h1:l[p]?=some x)(h2:l[q]?=some x):p=q:=by grind [List.getElem?_inj]
theorem Rg.src{α:Type}{a b:Nat}{l r:List α}(h:Rg a b l r)(hn:l.Nodup){q:Nat}{y:α}(h1:a<=q)(h2:q<b)(hy:r[q]?=some y):∃c,a<=c/\c<b/\l[c]?=some y:=by
 obtain⟨c,hq⟩:=Gu (h.1.mem_iff.1 (bO hy));refine⟨c,?_⟩;rcases(by omega:(c<a\/b<=c)\/(a<=c/\c<b)) with h3|h3
 .have:=Md (h.1.nodup_iff.2 hn) hy ((h.2 c h3).trans hq);omega
 .exact⟨h3.1,h3.2,hq⟩
theorem OrX.rg{α:Type}{cmp:α->α->Int}{a b:Nat}{l r:List α}(h:OrX cmp a b l)(k:Rg a b l r)(hn:l.Nodup):OrX cmp a b r:=by
 have src:∀q y,r[q]?=some y->∃c,l[c]?=some y/\(c=q\/(a<=q/\q<b/\a<=c/\c<b)):=λq y hy=>by
  rcases(by omega:(q<a\/b<=q)\/(a<=q/\q<b)) with h3|h3
  .exact⟨q,(k.2 q h3).symm.trans hy,.inl rfl⟩
  grind [Rg.src]
 intro p q x y e hb hx hy;obtain⟨f,hx',hp⟩:=src p x hx;obtain⟨c,d,hq⟩:=src q y hy;exact h f c x y aa aa hx' d
theorem AbH{l:List α}{i j:Nat}(hi:i<l.length)(hj:j<l.length):∃r,swZ l i j=some r/\r.Perm l/\∀q,r[q]?=if q=j then l[i]? else if q=i then l[j]? else l[q]? :=by refine⟨(l.set i l[j]).set j l[i],?_,List.set_set_perm hi hj,λq=>?_⟩;all_goals grind [swZ]
theorem WA{a b i j:Nat}{l r:List α}(h:r.Perm l)(hq:∀q,r[q]?=if q=j then l[i]? else if q=i then l[j]? else l[q]?)(h1:a<=i)(h2:i<b)(h3:a<=j)(h4:j<b):Rg a b l r:=by constructor<;>grind
section
variable {α:Type} {cmp:α->α->Int} {D:α->Prop} (hO:OrN cmp D)
include hO
theorem OrN.lt{l:List α}(hn:l.Nodup)(hD:∀z∈l,D z){p q:Nat}{x y:α}(hx:l[p]?=some x)(hy:l[q]?=some y)(a:p≠q)(h:¬cmp y x<0):cmp x y<0:=by grind [OrN,Md]
theorem SoR.all{a b:Nat}{l:List α}(h:SoR cmp a b l)(k:OrX cmp a b l):SoR cmp 0 l.length l:=λp q x y _ c _ hx hy=>by
 by_cases hh:a<=p/\q<b
 .exact h p q x y hh.1 c hh.2 hx hy
 .exact k p q x y c hh hx hy
theorem aa8{a b:Nat}{l:List α}(hn:l.Nodup)(hD:∀z∈l,D z)(ha:a<=1000)(hb:b<=l.length)(hl:l.length<=1000):T (inI cmp (a:Int) (b:Int) l) λr=>Rg a b l r/\SoR cmp a b r:=by
 unfold inI;rw[show wI ((a:Int)+1)=wI ((a:Nat)+1) from rfl];rw[aq aa];refine T.loop (λs=>∃i:Nat,s.2=(i:Int)/\a+1<=i/\(i<=b\/i=a+1)/\Rg a b l s.1/\SoR cmp a i s.1) (λs=>b-s.2.toNat) ⟨a+1,rfl,DC _,.inr rfl,.refl l,λp q x y h1 h2 h3=>aa⟩ (by show b-_<_;omega) ?_;rintro⟨l1,A⟩ ⟨i,e,h1,h2,h3,h4⟩;dsimp only at e h3 h4;subst e;have f:=h3.1.nodup_iff.2 hn;have hl1:=h3.len;unfold aa1;dsimp only;refine .dec (λhlt=>?_) λhge=> .some ⟨h3,λp q x y k1 k2 k3=>h4 p q x y k1 k2 aa⟩;have hib:i<b:=aa;refine .bind ((T.loop (λs=>∃j:Nat,s.2=(j:Int)/\a<=j/\j<=i/\Rg a b l1 s.1/\∀p q x y,a<=p->p<q->q<=i->q≠j->s.1[p]?=some x->s.1[q]?=some y->cmp x y<0) (λs=>s.2.toNat) (Q:=λr=>Rg a b l1 r/\SoR cmp a (i+1) r) ⟨i,rfl,aa,DC _,.refl l1,λp q x y k1 k2 k3 d=>h4 p q x y k1 k2 aa⟩ (by show((i:Int)).toNat<_;omega) ?_).mono λr hr=> .some ⟨⟨i+1,aq aa,aa,.inl aa,h3.trans hr.1,hr.2⟩,?_⟩)
 .rintro⟨l2,B⟩ ⟨j,e,k1,k2,k3,d⟩;dsimp only at e k3 d;subst e;have g:=k3.1.nodup_iff.2 f;have hl2:=k3.len;unfold aa0;dsimp only;refine .dec (λh=>?_) λh=> .some ⟨k3,λp q x y m1 m2 m3=>d p q x y m1 m2 aa aa⟩;obtain⟨k,rfl⟩:∃k,j=k+1:=⟨j-1,aa⟩;have ew:wI (((k+1:Nat):Int)-1)=(k:Int):=by grind [bM]
  have gx:l2[k+1]?=some (l2[k+1]'aa):=DR _;have gy:l2[k]?=some (l2[k]'aa):=DR _;generalize l2[k+1]'aa=x at gx;generalize l2[k]'aa=y at gy;rw[ew,au,au,gx,gy,aL,aL];refine .dec (λhc=>?_) λhc=> .some ⟨k3,λp q u v m1 m2 m3 hu hv=>?_⟩
  .obtain⟨r,t,pr,m⟩:=AbH (l:=l2) (i:=k+1) (j:=k) aa aa;obtain⟨C,E,hx',c,n⟩:=I1 t;rw[gx] at hx';rw[gy] at c;cases hx';cases c;rw[stZ (x:=y) gx,aL,AgQ (w:=x) (x:=x) (z:=y) (i:=k+1) gy,aL,<-n];refine .some ⟨⟨k,rfl,aa,aa,k3.trans (WA pr m aa aa aa aa),λp q u v m1 m2 m3 o hu hv=>?_⟩,by simp_all⟩;rw[m p] at hu;rw[m q] at hv;rw[BA o] at hv;by_cases c1:q=k+1
   .subst c1;rw[Bx rfl,gy] at hv;cases hv;by_cases c2:p=k
    .grind
    .rw[BA c2,BA aa] at hu;grind
   .rw[BA c1] at hv;by_cases c2:p=k
    .grind
    .rw[BA c2] at hu;by_cases c3:p=k+1;all_goals grind
  .have hyx:=hO.lt g (λz hz=>hD z (h3.1.mem_iff.1 (k3.1.mem_iff.1 hz))) gy gx aa hc;by_cases c1:q=k+1
   .subst c1;rw[gx] at hv;cases hv;by_cases c2:p=k
    .grind
    .exact hO.tr _ _ _ (d p k u y m1 aa aa aa hu gy) hyx
   grind
 .show b-((wI ((i:Int)+1))).toNat<b-((i:Int)).toNat;rw[aq aa];omega
end
section
variable {cmp:Ab->Ab->Int} (hO:OrN cmp λ_=>True)
include hO
structure PI (cmp:Ab->Ab->Int) (l0:Bc) (a b:Nat) (pv:Ab) (l:Bc) (i j:Nat):Prop where
 rg:Rg a b l0 l
 gp:l[a]?=some pv
 hi:a+1<=i
 hj:j<b
 hij:i<=j+1
 lo:∀q x,a<q->q<i->l[q]?=some x->cmp x pv<0
 up:∀q x,j<q->q<b->l[q]?=some x->¬cmp x pv<0
omit hO in
theorem Afj{β:Type}{K:Nat->Nat->Option β}{Q:β->Prop}(h:PI cmp l0 a b pv l i j)(hb:b<=l.length)(hl:l.length<=1000)
  (hK:∀e d,PI cmp l0 a b pv l e d->d<=j->(d<e\/(e<d/\(∃x,l[e]?=some x/\¬cmp x pv<0)/\∃y,l[d]?=some y/\cmp y pv<0))->T (K e d) Q):
  T ((AA (scU cmp l a j) i).bind λe=>(AA (scD cmp l a e) j).bind λd=>K e d) Q:=by
 have hj:=h.hj
 refine .bind ((T.loop (λe=>PI cmp l0 a b pv l e j) (λe=>j+1-e) (Q:=λe=>PI cmp l0 a b pv l e j/\(j<e\/∃x,l[e]?=some x/\¬cmp x pv<0)) h aa λe h'=>?_).mono λe hi=>?_)
 .unfold scU
  refine .dec (λhc=>?_) λhc=> .some ⟨h',.inl aa⟩
  have gx:l[e]?=some (l[e]'aa):=DR _
  generalize l[e]'aa=x at gx
  rw[gx,h'.gp,aL,aL]
  refine .dec (λhx=> .some ⟨⟨h'.rg,h'.gp,Nat.le_succ_of_le h'.hi,h'.hj,aa,λq y k1 k2 hy=>?_,h'.up⟩,aa⟩) λhx=> .some ⟨h',.inr ⟨x,gx,hx⟩⟩
  grind [PI.lo]
 .obtain⟨hi,hx⟩:=hi
  refine .bind ((T.loop (λd=>PI cmp l0 a b pv l e d/\d<=j) (λd=>d) (Q:=λd=>(PI cmp l0 a b pv l e d/\d<=j)/\(d<e\/∃y,l[d]?=some y/\cmp y pv<0)) ⟨hi,DC _⟩ aa λd ⟨h',f⟩=>?_).mono λd hj'=>?_)
  .unfold scD
   refine .dec (λhc=>?_) λhc=> .some ⟨⟨h',f⟩,.inl aa⟩
   have:=h'.hi
   have:=h'.hj
   have gx:l[d]?=some (l[d]'aa):=DR _
   generalize l[d]'aa=y at gx
   rw[gx,h'.gp,aL,aL]
   refine .dec (λhy=> .some ⟨⟨h',f⟩,.inr ⟨y,gx,hy⟩⟩) λhy=>?_
   rw[show Nat.blt 0 d=true from Qi aa,ax]
   refine .some ⟨⟨⟨h'.rg,h'.gp,h'.hi,aa,aa,h'.lo,λq x k1 k2 hx=>?_⟩,aa⟩,aa⟩
   by_cases c:q=d
   .grind
   .exact h'.up q x aa k2 hx
  grind
omit hO in
theorem AhB(h:PI cmp l0 a b pv l i j)(hb:b<=l.length)(hij:i<j)(gx:l[i]?=some x)(hx:¬cmp x pv<0)(gy:l[j]?=some y)(hy:cmp y pv<0):∃r,swZ l i j=some r/\PI cmp l0 a b pv r (i+1) (j-1)/\0<j:=by
 have h1:=h.hi;have h2:=h.hj;obtain⟨r,e,pr,d⟩:=AbH (l:=l) (i:=i) (j:=j) aa aa;refine⟨r,e,⟨h.rg.trans (WA pr d aa aa aa aa),?_,aa,aa,aa,λq z k1 k2 hz=>?_,λq z k1 k2 hz=>?_⟩,aa⟩
 .grind [PI.gp]
 .grind [PI.lo]
 .rw[d q] at hz;by_cases c:q=j
  .grind
  .rw[BA c,BA aa] at hz;exact h.up q z aa k2 hz
def Prt(cmp:Ab->Ab->Int)(a b m:Nat)(l:Bc):Prop:=a<=m/\m<b/\∃c,l[m]?=some c/\(∀q x,a<=q->q<m->l[q]?=some x->cmp x c<0)/\∀q x,m<q->q<b->l[q]?=some x->¬cmp x c<0
omit hO in
theorem Afk(h:PI cmp l0 a b pv l i j)(hb:b<=l.length)(hij:j<i):∃r,swZ l j a=some r/\Rg a b l0 r/\Prt cmp a b j r:=by
 have h1:=h.hi;have h2:=h.hj;have h3:=h.hij;obtain⟨r,c,pr,d⟩:=AbH (l:=l) (i:=j) (j:=a) aa aa;refine⟨r,c,h.rg.trans (WA pr d aa aa aa aa),aa,aa,pv,?_,λq x k1 k2 hx=>?_,λq x k1 k2 hx=>?_⟩
 .grind [PI.gp]
 .grind [PI]
 grind [PI.up]
theorem AkV(hl:l.length<=1000)(hb:b<=l.length)(hap:a<=p)(c:p<b):T (paS cmp a b p l) λr=>Rg a b l r.2.2/\Prt cmp a b r.1 r.2.2:=by
 obtain⟨l0,e0,d,q0⟩:=AbH (l:=l) (i:=a) (j:=p) aa aa;have hl0:=d.length_eq;have g:=WA (a:=a) (b:=b) d q0 (DC _) aa hap c;unfold paS;refine .eqb e0 ?_;have gp:l0[a]?=some (l0[a]'aa):=DR _;generalize l0[a]'aa=pv at gp;have h0:PI cmp l a b pv l0 (a+1) (b-1):=by grind [PI]
 refine Afj h0 aa aa λi j h1 _ h2=>?_;refine .dec (λhc=>?_) λhc=>?_
 .grind [Afk,T.some]
 .rcases h2 with h2|⟨h2,⟨x,gx,hx⟩,y,gy,hy⟩
  .omega
  obtain⟨l1,e1,k1,k2⟩:=AhB h1 aa h2 gx hx gy hy;rw[show Nat.blt 0 j=true from Qi k2,ax];refine .eqb e1 (.bind ((T.loop (λs=>PI cmp l a b pv s.1 s.2.1 s.2.2) (λs=>s.2.2) (Q:=λs=>∃i,PI cmp l a b pv s.1 i s.2/\s.2<i) k1 (by grind) ?_).mono λs hs=>?_))
  .rintro⟨l2,h,e⟩ h3;dsimp only at h3;have hl2:=h3.rg.len;unfold paT;dsimp only;rw[CO aa,ax];refine Afj h3 aa aa λi j h4 f h5=>?_;refine .dec (λhc=> .some ⟨i,h4,by show j<i;omega⟩) λhc=>?_;rcases h5 with h5|⟨h5,⟨x,gx,hx⟩,y,gy,hy⟩
   .omega
   obtain⟨l3,e3,m1,m2⟩:=AhB h4 aa h5 gx hx gy hy;rw[show Nat.blt 0 j=true from Qi m2,ax];refine .eqb e3 (.some ⟨m1,?_⟩);show j-1<e;omega
  .obtain⟨i,h3,h4⟩:=hs;have:=h3.rg.len;grind [Afk,T.some]
omit hO in
theorem Ai7{x y:Nat}(hx:x<l.length)(hy:y<l.length):T (o2S cmp l x y s) λr=>((r.1=x/\r.2.1=y)\/(r.1=y/\r.2.1=x))/\r.2.2<=s+1:=by grind [o2S,T.some]
omit hO in
theorem AmA(hB:Big a b)(hb:b<=l.length):T (chS cmp l a) λr=>a<=r.1/\r.1<b:=by
 have h9:a+9<b:=by rcases hB with⟨rfl,rfl⟩|⟨rfl,rfl⟩|⟨rfl,rfl⟩<;>omega
 unfold chS meS;refine .bind (.bind ((Ai7 aa aa).mono λd h1=> .bind ((Ai7 aa aa).mono λe h2=> .bind ((Ai7 aa aa).mono λc h3=> .some ?_))));dsimp only at*;rw[CO (show c.2.2<=3 by omega),ax];exact .some (show a<=c.2.1/\c.2.1<b by omega)
theorem AmB(hn:l.Nodup)(hb:b<=l.length)(d:a<b)(hl:l.length<=1000):T (piS cmp l a b) λf=>f=true->SoR cmp a b l:=by
 have adj:∀k,(∀q x y,a<=q->q<k->l[q]?=some x->l[q+1]?=some y->cmp x y<0)->SoR cmp a (k+1) l:=λk h=>by
  have key:∀n p x y,a<=p->p+n+1<=k->l[p]?=some x->l[p+n+1]?=some y->cmp x y<0:=by
   intro n;induction n with
   |zero=>grind
   |succ n ih=>intro p x y h1 h2 hx hy;have hlt:=(cr hy).1;have hz:l[p+n+1]?=some (l[p+n+1]'aa):=DR _;exact hO.tr _ _ _ (ih p x _ h1 aa hx hz) (h (p+n+1) _ y aa aa hz hy)
  intro p q x y h1 h2 h3 hx hy;obtain⟨n,rfl⟩:∃n,q=p+n+1:=⟨q-p-1,aa⟩;exact key n p x y h1 aa hx hy
 unfold piS;refine .bind ((T.loop (λk=>a<=k/\k<b/\∀q x y,a<=q->q<k->l[q]?=some x->l[q+1]?=some y->cmp x y<0) (λk=>b-k) (Q:=λk=>k<b/\∀q x y,a<=q->q<k->l[q]?=some x->l[q+1]?=some y->cmp x y<0) (by grind) aa λk hk=>?_).mono λk hk=> .some λhf=>?_)
 .obtain⟨h1,h2,h3⟩:=hk;unfold scS;refine .dec (λhc=>?_) λhc=> .some ⟨h2,h3⟩;have gx:l[k+1]?=some (l[k+1]'aa):=DR _;have gy:l[k]?=some (l[k]'aa):=DR _;generalize l[k+1]'aa=x at gx;generalize l[k]'aa=y at gy;rw[gx,gy,aL,aL];refine .dec (λhx=> .some ⟨h2,h3⟩) λhx=> .some ⟨⟨aa,aa,λq u v k1 k2 hu hv=>?_⟩,aa⟩;by_cases c:q=k
  .subst c;grind [OrN.lt]
  grind
 .have hf:=DL hf;have:=adj k hk.2;grind
omit hO in
theorem AmC(hl:l.length=14):T (AA brT (0,l)) λr=>Rg 1 14 l r:=by
 refine T.loop (λs=>s.1<=3/\Rg 1 14 l s.2) (λs=>3-s.1) ⟨Nat.zero_le _,.refl l⟩ (show 3-0<4611686018427387904 by decide) ?_;rintro⟨j,r⟩ ⟨h1,h2⟩;dsimp only at h1 h2;have hr:=h2.len;unfold brT;rcases(by omega:j=0\/j=1\/j=2\/j=3) with rfl|rfl|rfl|rfl
 .obtain⟨r',e,p,q⟩:=AbH (l:=r) (i:=6) (j:=1) aa aa;exact .eqb e (.some ⟨⟨show 1<=3 by decide,h2.trans (WA p q BX BX BX BX)⟩,show 3-1<3-0 by decide⟩)
 .obtain⟨r',e,p,q⟩:=AbH (l:=r) (i:=7) (j:=12) aa aa;exact .eqb e (.some ⟨⟨show 2<=3 by decide,h2.trans (WA p q BX BX BX BX)⟩,show 3-2<3-1 by decide⟩)
 .obtain⟨r',e,p,q⟩:=AbH (l:=r) (i:=8) (j:=6) aa aa;exact .eqb e (.some ⟨⟨show 3<=3 by decide,h2.trans (WA p q BX BX BX BX)⟩,show 3-3<3-2 by decide⟩)
 .exact .some h2
structure PdI (cmp:Ab->Ab->Int) (l0:Bc) (s:PdS):Prop where
 pm:s.1.Perm l0
 ab:s.2.1<=s.2.2.1
 bn:s.2.2.1<=l0.length
 ox:OrX cmp s.2.1 s.2.2.1 s.1
 lm:12<s.2.2.1-s.2.1->4<=s.2.2.2.1+(14-(s.2.2.1-s.2.1))
 lh:s.2.2.2.1<=100
 bl:s.2.2.2.2.1=false->s.2.2.1-s.2.1<=12\/(s.2.1=1/\s.2.2.1=14)
theorem AkW(hn:l0.Nodup)(hl:l0.length<=14){s:PdS}(h0:PdI cmp l0 s):T (AA (pdT cmp) s) λr=>r.Perm l0/\SoR cmp 0 r.length r:=by
 refine T.loop (PdI cmp l0) (λs=>s.2.2.1-s.2.1) h0 (by grind [PdI]) ?_;rintro⟨l,a,b,n,A,par⟩ ⟨pm,ab,bn,ox,lm,lh,bl⟩;dsimp only at pm ab bn ox lm lh bl;have hll:=pm.length_eq;have hnl:=pm.nodup_iff.2 hn;unfold pdT;dsimp only;rw[CO (by grind),ax];refine .dec (λhc=>?_) λhc=>?_
 .refine .bind ((aa8 hO hnl (λ_ _=>trivial) aa aa aa).mono λr hr=> .some ⟨hr.1.1.trans pm,?_⟩);grind [SoR.all,OrX.rg]
 have hbig:12<b-a:=aa;have lm:=lm hbig;have hB:Big a b:=by
  rcases(by omega:(a=0/\b=13)\/(a=0/\b=14)\/(a=1/\b=14)) with⟨rfl,rfl⟩|⟨rfl,rfl⟩|⟨rfl,rfl⟩
  .exact .inl ⟨rfl,rfl⟩
  .exact .inr (.inl ⟨rfl,rfl⟩)
  .exact .inr (.inr ⟨rfl,rfl⟩)
 have hBb:AgS a b=true:=by rcases hB with⟨rfl,rfl⟩|⟨rfl,rfl⟩|⟨rfl,rfl⟩<;>rfl
 rw[hBb,show Nat.blt 0 n=true from Qi aa,show Nat.ble n 100=true from Qi lh];simp only[Bool.and_self,ax];have hbr:T (brG l a b n A) λq=>Rg a b l q.1/\n<=q.2+1/\q.2<=n:=by grind [brG,T.some,Rg.refl,T.bind,T.mono,AmC,Rg.len,Nat.beq_refl]
 refine .bind (hbr.mono ?_);rintro⟨l1,e⟩ ⟨i,m1,m2⟩;dsimp only at i m1 m2⊢;have hl1:=i.len;have z:=i.1.nodup_iff.2 hnl;have ox1:=ox.rg i hnl;rw[CO (show l1.length<=1000 by omega),ax];refine .bind ((AmA hB aa).mono ?_);rintro⟨p,B⟩ ⟨hp1,hp2⟩;dsimp only at hp1 hp2⊢;have hpi:T (bif A&&par&&B then piS cmp l1 a b else some false) λf=>f=true->SoR cmp a b l1:=by grind [AmB,T.some]
 refine .bind (hpi.mono λd hd=> .ite (λC=> .some ⟨i.1.trans pm,SoR.all hO (hd C) ox1⟩) λ_=>?_);have hag:agG cmp l1 a p=some true:=by
  unfold agG;cases hza:Nat.blt 0 a with
  |false=>rfl
  |true=>have hza:=E5 hza;have g1:l1[a-1]?=some (l1[a-1]'aa):=DR _;have g2:l1[p]?=some (l1[p]'aa):=DR _;rw[ax,g1,g2,aL,aL,CO (ox1 (a-1) p _ _ aa aa g1 g2)]
 refine .eqb hag ?_;rw[ax];refine .bind ((AkV hO aa aa hp1 hp2).mono ?_);rintro⟨m,f,l2⟩ ⟨j,F,H,w,o,lo,up⟩;dsimp only at j F H o lo up⊢;have hl2:=j.len;have g:=j.1.nodup_iff.2 z;have ox2:=ox1.rg j z;rw[show Nat.beq l1.length l2.length=true by rw[hl2];exact Nat.beq_refl _,ax];unfold pdN;rw[CO ⟨F,H⟩,ax];have pvx:∀q x,m<q->q<b->l2[q]?=some x->cmp w x<0:=λq x h1 h2 hx=>hO.lt g (λ_ _=>trivial) o hx aa (up q x h1 h2 hx);refine .dec (λE=>?_) λE=>?_
 .refine .bind ((aa8 hO g (λ_ _=>trivial) (a:=a) (b:=m) aa aa aa).mono λl3 ⟨c,so3⟩=>?_);have rg3':=c.mono (a':=a) (b':=b) (DC _) aa;have hl3:=c.len;rw[show Nat.beq l2.length l3.length=true by rw[hl3];exact Nat.beq_refl _,ax];have gp3:l3[m]?=some w:=(c.2 m (.inr (DC _))).trans o;have lo3:∀q x,a<=q->q<m->l3[q]?=some x->cmp x w<0:=λq x h1 h2 hx=>by obtain⟨I,k1,k2,k3⟩:=c.src g h1 h2 hx;exact lo I x k1 k2 k3
  have up3:∀q x,m<q->q<b->l3[q]?=some x->cmp w x<0:=λq x h1 h2 hx=>pvx q x h1 h2 ((c.2 q (.inr aa)).symm.trans hx);have ox3:=ox2.rg rg3' g;refine .some ⟨⟨c.1.trans (j.1.trans (i.1.trans pm)),by show m+1<=b;omega,bn,λu v x y k hh hx hy=>?_,λt=>by show 4<=e+_;have:12<b-(m+1):=t;show 4<=e+(14-(b-(m+1)));omega,by show e<=100;omega,λhbal=>?_⟩,by show b-(m+1)<b-a;omega⟩
  .have hh:¬(m+1<=u/\v<b):=hh;by_cases c0:a<=u/\v<b
   .rcases(by omega:v<m\/v=m\/(u=m/\m<v)\/(u<m/\m<v)) with h|rfl|⟨rfl,h⟩|⟨h1,h2⟩
    .exact so3 u v x y c0.1 k h hx hy
    .grind
    .grind
    .exact hO.tr _ _ _ (lo3 u x c0.1 h1 hx) (up3 v y h2 c0.2 hy)
   .exact ox3 u v x y k c0 hx hy
  .have hbal:decide ((1:Int)<=(m:Int)-(a:Int))=false:=hbal;have:=LR hbal;show b-(m+1)<=12\/(m+1=1/\b=14);omega
 .refine .bind ((aa8 hO g (λ_ _=>trivial) (a:=m+1) (b:=b) aa aa aa).mono λl3 ⟨c,so3⟩=>?_);have rg3':=c.mono (a':=a) (b':=b) aa (DC _);have hl3:=c.len;rw[show Nat.beq l2.length l3.length=true by rw[hl3];exact Nat.beq_refl _,ax];have gp3:l3[m]?=some w:=(c.2 m (.inl aa)).trans o;have lo3:∀q x,a<=q->q<m->l3[q]?=some x->cmp x w<0:=λq x h1 h2 hx=>lo q x h1 h2 ((c.2 q (.inl aa)).symm.trans hx);have up3:∀q x,m<q->q<b->l3[q]?=some x->cmp w x<0:=λq x h1 h2 hx=>by obtain⟨I,k1,k2,k3⟩:=c.src g aa h2 hx;grind
  have ox3:=ox2.rg rg3' g;refine .some ⟨⟨c.1.trans (j.1.trans (i.1.trans pm)),F,by show m<=l0.length;omega,λu v x y k hh hx hy=>?_,λt=>by have:12<m-a:=t;show 4<=e+(14-(m-a));omega,by show e<=100;omega,λhbal=>?_⟩,by show m-a<b-a;omega⟩
  .have hh:¬(a<=u/\v<m):=hh;by_cases c0:a<=u/\v<b
   .rcases(by omega:m+1<=u\/(u=m/\m<v)\/(u<m/\v=m)\/(u<m/\m<v)) with h|⟨rfl,h⟩|⟨h,rfl⟩|⟨h1,h2⟩
    .exact so3 u v x y h k c0.2 hx hy
    .grind
    .grind
    .exact hO.tr _ _ _ (lo3 u x c0.1 h1 hx) (up3 v y h2 c0.2 hy)
   .exact ox3 u v x y k c0 hx hy
  grind
end
def Ow(cmp:Ab->Ab->Int)(l:Bc):Option Bc:=AA (pdT cmp) (l,0,l.length,WZ l.length,true,true)
theorem PC{cmp:Ab->Ab->Int}(hO:OrN cmp λ_=>True){l:Bc}(hn:l.Nodup)(hl:l.length<=14):T (Ow cmp l) λr=>r.Perm l/\r.Pairwise λx y=>cmp x y<0:=by
 refine(AkW hO hn hl (s:=(l,0,l.length,WZ l.length,true,true)) ⟨.refl _,Nat.zero_le _,DC _,λp q x y h1 h2 hx hy=>?_,λh=>?_,?_,λh=>by cases h⟩).mono λr hr=>⟨hr.1,?_⟩
 .grind
 .have h:12<l.length-0:=h;show 4<=WZ l.length+(14-(l.length-0));rcases(by omega:l.length=13\/l.length=14) with e|e<;>rw[e]<;>decide
 .show WZ l.length<=100;generalize l.length=n at hl;rcases(by omega:n=0\/n=1\/n=2\/n=3\/n=4\/n=5\/n=6\/n=7\/n=8\/n=9\/n=10\/n=11\/n=12\/n=13\/n=14) with rfl|rfl|rfl|rfl|rfl|rfl|rfl|rfl|rfl|rfl|rfl|rfl|rfl|rfl|rfl<;>decide
 .rw[List.pairwise_iff_getElem];intro p q hp hq a;exact hr.2 p q _ _ (Nat.zero_le _) a hq (DR hp) (DR hq)
section
variable {gl:CB} {fi:FuncId} {fa fc:Bn} {cmp:Ab->Ab->Int}
theorem AaM(hv:CmV gl fi fa fc cmp)(a:RnF fa)(b:RnF fc){r:Bc}(hl:l.length<=14)(h:Ow cmp l=some r):jg prog gl 103 [.rsl 0 0 l.length,R1 fi fa fc] [(0,Bw l)] 1 (.tup []) [(0,Bw r)] 1:=by
 have e:wU (ah l)=l.length:=by unfold ah;rw[gP];omega
 have hb:ba prog gl 193 [uG (wU (ah l):Int)] (iG (WZ l.length:Int)):=by grind [RC]
 have hp:=Ai6 hv a b h rfl;dsimp only at hp;refine pP func103 ?_;exact mt .normal (s0 14 gl [] [(0,Bw r)] 1 1) [] [AB 10 (C8 (ah l)),hf 11 hb,hI hv a b 13 [iG ((0:Nat):Int),iG (l.length:Int),iG (WZ l.length:Int)] hp rfl] [hc (ac.imm r)] (ρ:=[(0,0)]) (kd:=[(0,.row)])
theorem AaN(h:Tz gg):CmV gl 87 [.agg (M4 ⟨gg⟩)] [] (Ot (PA gg)):=⟨aH,aY (aG 20 (.agg (M4 ⟨gg⟩)) aH) bf,bf,(by grind [AgL])⟩
theorem Afl(h:Tz gg)(hn:ids.length<=14)(hr:Ow (Ot (PA gg)) ids=some row)(hle:row.length=ids.length):iV prog gl 47 [.ptr (Ag gg) 0,aE aj ids] 25 row.length (row.flatMap aj):=by
 have hcl:cU ids=some ids:=by grind [cU,aT]
 rw[hle];refine OW func47 ?_;exact EI [ho 7 [aE aj ids] [] (jY gl hcl) (Zy _),hI (gl:=gl) (AaN h) (λκ=>rfl) (λκ=>rfl) 12 [] (AaM (gl:=gl) (AaN h) (λκ=>rfl) (λκ=>rfl) hn hr) rfl] (ac.imm row)
theorem WE(h:Tz gg)(hn:ids.length<=14)(hr:Ow (Ot (PA gg)) ids=some row)(hle:row.length=ids.length):ba prog gl 47 [.ptr (Ag gg) 0,aE aj ids] (aE aj row):=(Afl h hn hr hle).fn ac.sz (ac.len _) (ac.imm _)
theorem SI(a b:Ab):ba prog gl 124 [.agg (aj a),.agg (aj b)] (bG (dt a b)):=M5 gl (EW a b)
theorem AgU(a b:Ab):ba prog gl 357 [.agg (aj a),.agg (aj b)] (iG (GK a b)):=by
 have h1:=SI (gl:=gl) a b;have h2:=SI (gl:=gl) b a;unfold GK;refine Gh func357 ?_;cases c1:dt a b with
 |true=>rw[c1] at h1;exact Ar [hf 7 h1] []
 |false=>
  rw[c1] at h1;cases c2:dt b a with
  |true=>rw[c2] at h2;exact Ar [hf 7 h1,hf 10 h2] []
  |false=>rw[c2] at h2;exact Ar [hf 7 h1,hf 10 h2] []
abbrev hso(d c:Nat){l r:Bc}{fi:FuncId}{cmp:Ab->Ab->Int}(hv:CmV gl fi [] [] cmp)(hl:l.length<=14)(h:Ow cmp l=some r)(hlt:[0].all (λk=>Nat.blt k c)=true:=by kernel_rfl):HP:=tN d [0] c [(0,Bw l)] [.rsl 0 0 l.length,.clo (.func fi) [] []] [(0,Bw r)] (AaM hv (λκ=>rfl) (λκ=>rfl) hl h) ⟨⟨rfl,.inr ⟨rfl,ac.imm l⟩⟩,trivial⟩ ⟨⟨rfl,.inr ⟨rfl,ac.imm r⟩⟩,trivial⟩ hlt
theorem Ai8:CmV gl 357 [] [] GK:=⟨aH,bf,bf,(by grind [AgU])⟩
theorem Adb{r:Bc}(hl:l.length<=14)(h:Ow GK l=some r):jg prog gl 300 [.rsl 0 0 l.length] [(0,Bw l)] 1 (.rsl 0 0 l.length) [(0,Bw r)] 1:=by refine pP func300 ?_;exact mt .ret (s0 6 gl [(2,.rsl 0 0 l.length)] [(0,Bw r)] 1 1) [.rsl 0 0 l.length] [hso (gl:=gl) 4 1 Ai8 hl h] [hc (el l),hc (ac.imm r)]
def XW(d a b:Int)(x:Ab):Bool:=bif x.By=d then(bif a<=x.Seq then decide (x.Seq<=b)else false)else false
abbrev hsm(d c:Nat){l r:Bc}(hl:l.length<=14)(h:Ow GK l=some r)(hlt:[0].all (λk=>Nat.blt k c)=true:=by kernel_rfl):HP:=tN d [0] c [(0,Bw l)] [.rsl 0 0 l.length] [(0,Bw r)] (Adb (gl:=gl) hl h) ⟨⟨rfl,.inr ⟨rfl,ac.imm l⟩⟩,trivial⟩ ⟨⟨rfl,.inr ⟨rfl,ac.imm r⟩⟩,trivial⟩ hlt
theorem Ai9{r:Bc}{a b:Int}(hn:ids.length<=14)(h:Ow GK (ids.filter (XW d a b))=some r)(hle:r.length=(ids.filter (XW d a b)).length):iV prog gl 299 [aE aj ids,iG d,iG a,iG b] 25 r.length (r.flatMap aj):=by
 rw[hle];refine OW func299 ?_;refine pN (λk:Nat=>(s0 41 gl [(1,iG d),(2,iG a),(3,iG b),(9,.rsl 0 0 ((ids.take k).filter (XW d a b)).length),(12,aE aj ids),(13,iG (ah ids)),(14,iG (k:Int))] [(0,Bw ((ids.take k).filter (XW d a b)))] 1 0)) 1110122 (EO (n:=ids.length) aa) [] [hc (ac.imm [])] (λB k w hs k5 f=>?_) [25] [(0,0)] [(0,.row)];unfold Ko at hs;split at hs
 .rename_i hlt;obtain rfl:=Bf hs;obtain⟨x,hx⟩:∃x,ids[k]?=some x:=⟨_,DR hlt⟩;have c:=Bg hx;have k5:=k5 _ rfl;have hl:=Mj (XW d a b) (ids.take k);rw[Nv] at hl;have e:(ids.take (k+1)).filter (XW d a b)=(ids.take k).filter (XW d a b)++(bif XW d a b x then[x] else[]):=by grind [JJ]
  rw[e] at k5;generalize (ids.take k).filter (XW d a b)=l at k5 hl⊢;unfold XW at k5;cases b1:decide (x.By=d) with
  |false=>rw[b1,Be,Be,MG] at k5;exact jw [hr 15 (Dd hx),AB 16 (ac.ixZ c),AB 17 (ac.ptZ aW c),hr 21 b1,hbb 38 (Xl (q:=k) aa)] [hc (el l),hc (ac.imm l)] k5 [] [(0,0)] [(0,.row)]
  |true=>
   rw[b1,ax] at k5;cases b2:decide (a<=x.Seq) with
   |false=>rw[b2,Be,Be,MG] at k5;exact jw [hr 15 (Dd hx),AB 16 (ac.ixZ c),AB 17 (ac.ptZ aW c),hr 21 b1,hr 26 b2,hbb 38 (Xl (q:=k) aa)] [hc (el l),hc (ac.imm l)] k5 [] [(0,0)] [(0,.row)]
   |true=>
    rw[b2,ax] at k5;cases b3:decide (x.Seq<=b) with
    |false=>rw[b3,Be,MG] at k5;exact jw [hr 15 (Dd hx),AB 16 (ac.ixZ c),AB 17 (ac.ptZ aW c),hr 21 b1,hr 26 b2,hr 32 b3,hbb 38 (Xl (q:=k) aa)] [hc (el l),hc (ac.imm l)] k5 [] [(0,0)] [(0,.row)]
    |true=>rw[b3,ax] at k5;exact jw [hr 15 (Dd hx),AB 16 (ac.ixZ c),AB 17 (ac.ptZ aW c),hr 21 b1,hr 26 b2,hr 32 b3,Tn 37 ac 24 l x aa,hbb 38 (Xl (q:=k) aa)] [hc (el (l++[x])),hc (ac.imm (l++[x]))] k5 [] [(0,3)] [(0,.row)]
 .split at hs
  .rename_i he;subst he;rw[EQ];have hl:=Mj (XW d a b) ids;exact EI [hr 15 (DZ (s:=ids)),hsm (gl:=gl) 40 1 aa h] (ac.imm r)
  .cases hs
theorem Aja{r:Bc}{a b:Int}(hn:ids.length<=14)(h:Ow GK (ids.filter (XW d a b))=some r)(hle:r.length=(ids.filter (XW d a b)).length):ba prog gl 299 [aE aj ids,iG d,iG a,iG b] (aE aj r):=(Ai9 hn h hle).fn ac.sz (ac.len _) (ac.imm _)
end
def KS(x:Bh):List Value:=[.int .i64 x.Device,.int .i64 x.Seq]
theorem aa9(d:Nat)(i j:Bh):bt prog (Op.equalIn (d+3) 123 (.agg (KS i).toArray) (.agg (KS j).toArray))=some (decide (i=j)):=by obtain⟨a0,a1⟩:=i;obtain⟨b0,b1⟩:=j;unfold KS;rw[xV (fs:= #[⟨ "Device",3,0,false, "", "",0⟩,⟨ "Seq",3,1,false, "", "",8⟩]) aH aH];simp only[Array.toList];rw[uJ (k:= .i64) (k':= .i64) (a:=a0) (b:=b0) BX aH aH aH];rw[uJ (k:= .i64) (k':= .i64) (a:=a1) (b:=b1) BX aH aH aH];grind [Bh.mk.injEq,Op.eqFields,bz]
def D4(x:Bh):Value:= .agg (KS x).toArray
theorem N3:LV prog 123 D4:=Qw (d:= .struct #[⟨ "Device",3,0,false, "", "",0⟩,⟨ "Seq",3,1,false, "", "",8⟩]) aH (λb k=>by cases b<;>(show _=_;kernel_rfl)) (λa b=>rfl) (λa b=>aa9 9997 a b)
theorem AkX(k:Bh):Instr.sameBits 10000 (D4 k) (D4 k)=true:=by(unfold D4 KS;simp[Instr.sameBits])
abbrev tMk:Bo:=189
abbrev oMk(m:FM Bh Int):Option Ob:=some (MZ tMk D4 iG m)
abbrev tMy:Bo:=190
abbrev oMy(m:FM Int Int):Option Ob:=some (MZ tMy JN iG m)
abbrev YZ(l:List Bh):Option Ob:=some ⟨123,l.flatMap Bt,none⟩
def Uw(a b:Bh):Int:=Wx a.Device b.Device
section
variable {gl:CB}
theorem AgY(a b:Bh):ba prog gl 136 [.agg (Bt a),.agg (Bt b)] (iG (Uw a b)):=UO gl (by unfold TH;rw[Acq];rfl)
abbrev cmK:G:= .clo (.func 136) [] []
abbrev hcF(d:Nat)(x y:Bh):HP:=hf d (AgY (gl:=gl) x y)
theorem AkY{l c d:List Bh}{i j:Int}{a b:Bh}(h1:ji l i b=some c)(h2:ji c j a=some d):fh prog 121 (.rsl 0 0 l.length) j=some (.ref 0 (0+j.toNat*2)):=by rw[hZ h1];exact Bi.ixsZ 0 h2
theorem AgZ{a b:Int}{l:List Bh}(h:inI Uw a b l=some r):jg prog gl 285 [.rsl 0 0 l.length,iG a,iG b,cmK] [(0,YZ l)] 1 (.tup []) [(0,YZ r)] 1:=by
 unfold inI at h;refine pP func285 ?_;refine pN (λs:List Bh×Int=>(s0 53 gl [(0,.rsl 0 0 s.1.length),(1,iG a),(2,iG b),(3,cmK),(8,iG s.2)] [(0,YZ s.1)] 1 1)) 1122 h [] [hc (el l),hc (aG 20 cmK aH),hc (Bi.imm l)] (λB s w hs k5 f=>?_) [] [(0,0)] [(0,.row)];obtain⟨l1,i⟩:=s;unfold aa1 at hs;dsimp only at hs;rcases bC hs with⟨b1,hs⟩|⟨b1,hs⟩
 .obtain⟨l2,e2,hs⟩:=bS hs;obtain rfl:=Bf hs;refine Ix 11221021 (s0 53 gl [(0,.rsl 0 0 l2.length),(1,iG a),(2,iG b),(3,cmK),(8,iG i)] [(0,YZ l2)] 1 1) ?_ λkk=>?_
  .exact jw [] [hc (el l2),hc (aG 20 cmK aH),hc (Bi.imm l2)] (k5 _ rfl) [] [(0,0)] [(0,.row)]
  refine pN (λs:List Bh×Int=>(s0 53 gl [(0,.rsl 0 0 s.1.length),(1,iG a),(2,iG b),(3,cmK),(8,iG i),(9,iG s.2)] [(0,YZ s.1)] 1 1)) 1122102122 e2 [hr 14 b1] [hc (el l1),hc (aG 20 cmK aH),hc (Bi.imm l1)] (λm z v hz g d=>?_) [] [(0,0)] [(0,.row)];obtain⟨l3,j⟩:=z;unfold aa0 at hz;dsimp only at hz;rcases bC hz with⟨b2,hz⟩|⟨b2,hz⟩
  .obtain⟨x,ex,hz⟩:=bS hz;obtain⟨y,c,hz⟩:=bS hz;rcases bC hz with⟨b3,hz⟩|⟨b3,hz⟩
   .obtain⟨k,e1,hz⟩:=bS hz;obtain⟨e,e3,hz⟩:=bS hz;obtain rfl:=Bf hz;exact jw [hr 20 b2,AB 25 (Bi.ixrZ 0 ex),AB 26 (Bi.pt0Z Hm ex),AB 30 (Bi.ixrZ 0 c),AB 31 (Bi.pt0Z Hm c),hcF (gl:=gl) 32 x y,hr 33 b3,AB 45 (Bi.ixrZ 0 c),AB 46 (Bi.pt0Z Hm c),AB 49 (Bi.ixrZ 0 ex),AB 50 (Bi.pt0Z Hm ex),AB 51 (Bi.ixsZ 0 e1),hw 51 (k.flatMap Bt) (Bi.putZ e1),AB 52 (AkY e1 e3),hw 52 (e.flatMap Bt) (Bi.putZ e3)] [hc ((hZ e1).trans (hZ e3)),hc (aG 20 cmK aH),hc (Bi.imm e)] (g _ rfl) [] [(0,0)] [(0,.row)]
   .obtain rfl:=Bf hz;obtain rfl:=d _ rfl;exact yl 11221021 [hr 20 b2,AB 25 (Bi.ixrZ 0 ex),AB 26 (Bi.pt0Z Hm ex),AB 30 (Bi.ixrZ 0 c),AB 31 (Bi.pt0Z Hm c),hcF (gl:=gl) 32 x y,hr 33 b3] [hc (el l3),hc (aG 20 cmK aH),hc (Bi.imm l3)] kk [] [(0,0)] [(0,.row)]
  .obtain rfl:=Bf hz;obtain rfl:=d _ rfl;exact yl 11221021 [hr 20 b2] [hc (el l3),hc (aG 20 cmK aH),hc (Bi.imm l3)] kk [] [(0,0)] [(0,.row)]
 .obtain rfl:=Bf hs;obtain rfl:=f _ rfl;exact mt .normal (s0 53 gl [] [(0,YZ l1)] 1 1) [] [hr 14 b1] [hc (Bi.imm l1)] (ρ:=[(0,0)]) (kd:=[(0,.row)])
theorem Ag0{l:List Bh}(hl:l.length<=12)(h:inI Uw ((0:Nat):Int) (l.length:Int) l=some r)(k:Int):jg prog gl 218 [.rsl 0 0 l.length,iG 0,iG (l.length:Int),iG k,cmK] [(0,YZ l)] 1 (.tup []) [(0,YZ r)] 1:=by have hs:=sb (a:=(l.length:Int)) (b:=((0:Nat):Int)) (z:=(l.length:Int)-((0:Nat):Int)) rfl aa;have hd:decide ((l.length:Int)-((0:Nat):Int)<=12)=true:=CO aa;refine pP func218 ?_;refine pN (λ_:Unit=>(s0 148 gl [(0,.rsl 0 0 l.length),(1,iG ((0:Nat):Int)),(2,iG (l.length:Int)),(3,iG k),(4,cmK)] [(0,YZ l)] 1 1)) 11122 Lg [] [hc (el l),hc (aG 20 cmK aH),hc (Bi.imm l)] (λc z v hz2 d e=>?_) [] [(0,0)] [(0,.row)];exact mt .ret (s0 148 gl [] [(0,YZ r)] 1 1) [] [hbb 23 hs,hr 25 hd,tN 30 [0] 1 [(0,YZ l)] [.rsl 0 0 l.length,iG ((0:Nat):Int),iG (l.length:Int),cmK] [(0,YZ r)] (AgZ (gl:=gl) h) ⟨⟨rfl,.inr ⟨rfl,Bi.imm l⟩⟩,trivial⟩ ⟨⟨rfl,.inr ⟨rfl,Bi.imm r⟩⟩,trivial⟩] [hc (Bi.imm r)] (ρ:=[(0,0)]) (kd:=[(0,.row)])
theorem Afm{l:List Bh}(hl:l.length<=12)(h:inI Uw ((0:Nat):Int) (l.length:Int) l=some r):jg prog gl 135 [.rsl 0 0 l.length,cmK] [(0,YZ l)] 1 (.tup []) [(0,YZ r)] 1:=by
 have e:wU (ah l)=l.length:=by unfold ah;rw[gP];omega
 have hb:ba prog gl 193 [uG (wU (ah l):Int)] (iG (WZ l.length:Int)):=by grind [RC]
 refine pP func135 ?_;exact mt .normal (s0 14 gl [] [(0,YZ r)] 1 1) [] [AB 10 (C8 (ah l)),hf 11 hb,tN 13 [0] 1 [(0,YZ l)] [.rsl 0 0 l.length,iG 0,iG (l.length:Int),iG (WZ l.length:Int),cmK] [(0,YZ r)] (Ag0 (gl:=gl) hl h (WZ l.length:Int)) ⟨⟨rfl,.inr ⟨rfl,Bi.imm l⟩⟩,trivial⟩ ⟨⟨rfl,.inr ⟨rfl,Bi.imm r⟩⟩,trivial⟩] [hc (Bi.imm r)] (ρ:=[(0,0)]) (kd:=[(0,.row)])
end
end Go.Proofs.YtghphhhpagagbaaGreatDoor
