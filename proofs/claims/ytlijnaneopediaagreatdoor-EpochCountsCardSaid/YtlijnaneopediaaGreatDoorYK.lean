/- Texts. -/
import Derived.Test.YtlijnaneopediaaGreatDoorP4
namespace Go.Proofs.YtlijnaneopediaaGreatDoor
set_option linter.unusedSectionVars false
set_option linter.unusedVariables false
set_option linter.unusedSimpArgs false
open Go.RowKit Tryz
variable (gl:Cd)
variable {K V α:Type}{l:A3}{r srt:Bk}{m:FM K V}{e:K×V×Nat}{seen:Bq}{R:Ad}{i x:Ab}{k n:Nat}{P:Br}{fn:Func}{t:Bn}{g:Aj}
section
attribute [local irreducible] Tr dz Gp
abbrev JG(l:Bk):Option Ob:=some ⟨3,l.flatMap cZ,none⟩
def Aaq(s:Bk×Int):Option ((Bk×Int)⊕Bk):=
 bif 0<s.2 then(aS s.1 s.2).bind λa=>(aS s.1 (wI (s.2-1))).bind λb=>bif a<b then(ji s.1 s.2 b).bind λw1=>(ji w1 (wI (s.2-1)) a).bind λw2=>some (.inl (w2,wI (s.2-1)))else some (.inr s.1)else some (.inr s.1)
def Acz(n:Int)(s:Bk×Int):Option ((Bk×Int)⊕Bk):=
 bif s.2<n then(AH Aaq (s.1,s.2)).bind λl=>some (.inl (l,wI (s.2+1)))else some (.inr s.1)
def inZ(l:Bk):Option Bk:=AH (Acz (ah l)) (l,wI (0+1))
theorem AhH(a b:Int):ba prog gl 299 [iG a,iG b] (bG (decide (a<b))):=VA gl (by unfold Uq Fw;simp)
theorem Ann{l w1 w2:Bk}{i j a b:Int}(h1:ji l i b=some w1)(h2:ji w1 j a=some w2):fh prog 22 (.rsl 0 0 l.length) j=some (.ref 0 (0+j.toNat*1)):=by rw[hZ h1];exact rZ.ixsZ 0 h2
theorem AhI{l:Bk}(h:inZ l=some r):jg prog gl 293 [.rsl 0 0 l.length,iG 0,iG (ah l)] [(0,JG l)] 1 (.tup []) [(0,JG r)] 1:=by
 unfold inZ at h;refine pP func293 ?_;refine pN (λs:Bk×Int=>(s0 49 gl [(0,.rsl 0 0 s.1.length),(1,iG 0),(2,iG (ah l)),(6,iG s.2)] [(0,JG s.1)] 1 1)) 1122 h [] [hc (el l),hc (rZ.imm l)] (λB s w hs k5 f=>?_);obtain⟨l1,i⟩:=s;unfold Acz at hs;dsimp only at hs;rcases bC hs with⟨b1,hs⟩|⟨b1,hs⟩
 .obtain⟨l2,e2,hs⟩:=bS hs;obtain rfl:=Bo hs;refine Ix 11221021 (s0 49 gl [(0,.rsl 0 0 l2.length),(1,iG 0),(2,iG (ah l)),(6,iG i)] [(0,JG l2)] 1 1) ?_ λkk=>?_
  .exact jw [] [hc (el l2),hc (rZ.imm l2)] (k5 _ rfl)
  refine pN (λs:Bk×Int=>(s0 49 gl [(0,.rsl 0 0 s.1.length),(1,iG 0),(2,iG (ah l)),(6,iG i),(7,iG s.2)] [(0,JG s.1)] 1 1)) 1122102122 e2 [hr 12 b1] [hc (el l1),hc (rZ.imm l1)] (λk z v hz g e=>?_);obtain⟨l3,j⟩:=z;unfold Aaq at hz;dsimp only at hz;rcases bC hz with⟨b2,hz⟩|⟨b2,hz⟩
  .obtain⟨a,d,hz⟩:=bS hz;obtain⟨b,eb,hz⟩:=bS hz;have c:=AhH gl a b;rcases bC hz with⟨b3,hz⟩|⟨b3,hz⟩
   .obtain⟨w1,e1,hz⟩:=bS hz;obtain⟨w2,e3,hz⟩:=bS hz;obtain rfl:=Bo hz;rw[b3] at c;exact jw [hr 18 b2,Az 22 (rZ.ixrZ 0 d),Az 23 (rZ.p10Z tZ d),Az 27 (rZ.ixrZ 0 eb),Az 28 (rZ.p10Z tZ eb),hf 29 c,Az 41 (rZ.ixrZ 0 eb),Az 42 (rZ.p10Z tZ eb),Az 45 (rZ.ixrZ 0 d),Az 46 (rZ.p10Z tZ d),Az 47 (rZ.ixsZ 0 e1),hw 47 (w1.flatMap cZ) (rZ.putZ e1),Az 48 (Ann e1 e3),hw 48 (w2.flatMap cZ) (rZ.putZ e3)] [hc ((hZ e1).trans (hZ e3)),hc (rZ.imm w2)] (g _ rfl)
   .obtain rfl:=Bo hz;obtain rfl:=e _ rfl;rw[b3] at c;exact yl 11221021 [hr 18 b2,Az 22 (rZ.ixrZ 0 d),Az 23 (rZ.p10Z tZ d),Az 27 (rZ.ixrZ 0 eb),Az 28 (rZ.p10Z tZ eb),hf 29 c] [hc (el l3),hc (rZ.imm l3)] kk
  .obtain rfl:=Bo hz;obtain rfl:=e _ rfl;exact yl 11221021 [hr 18 b2] [hc (el l3),hc (rZ.imm l3)] kk
 .obtain rfl:=Bo hs;obtain rfl:=f _ rfl;exact mt .normal (s0 49 gl [] [(0,JG l1)] 1 1) [] [hr 12 b1] [hc (rZ.imm l1)] (kd:=[(0,.row)])
theorem AhJ{l:Bk}(hl:l.length<=12)(h:inZ l=some r)(k:Int):jg prog gl 194 [.rsl 0 0 l.length,iG 0,iG (ah l),iG k] [(0,JG l)] 1 (.tup []) [(0,JG r)] 1:=by
 have e:wI (ah l-0)=ah l:=by grind [bM,ah]
 have hd:decide (wI (ah l-0)<=12)=true:=by grind [ah]
 refine pP func194 ?_;refine pN (λ_:Unit=>(s0 134 gl [(0,.rsl 0 0 l.length),(1,iG 0),(2,iG (ah l)),(3,iG k)] [(0,JG l)] 1 1)) 11122 Lg [] [hc (el l),hc (rZ.imm l)] (λa z v hz2 b c=>?_);exact mt .ret (s0 134 gl [] [(0,JG r)] 1 1) [] [hr 23 hd,tN 27 [0] 1 [(0,JG l)] [.rsl 0 0 l.length,iG 0,iG (ah l)] [(0,JG r)] (AhI gl h) ⟨⟨rfl,.inr ⟨rfl,rZ.imm l⟩⟩,trivial⟩ ⟨⟨rfl,.inr ⟨rfl,rZ.imm r⟩⟩,trivial⟩] [hc (rZ.imm r)] (kd:=[(0,.row)])
theorem NN{l:Bk}(hl:l.length<=12)(h:inZ l=some r):jg prog gl 106 [.rsl 0 0 l.length] [(0,JG l)] 1 (.tup []) [(0,JG r)] 1:=by
 have e:wU (ah l)=l.length:=by unfold ah;rw[gP];omega
 have hb:ba prog gl 186 [uG (wU (ah l):Int)] (iG (WZ l.length:Int)):=by rw[e];exact RC gl aa
 refine pP func106 ?_;exact mt .normal (s0 11 gl [] [(0,JG r)] 1 1) [] [Az 8 (C8 (ah l)),hf 9 hb,tN 10 [0] 1 [(0,JG l)] [.rsl 0 0 l.length,iG 0,iG (ah l),iG (WZ l.length:Int)] [(0,JG r)] (AhJ gl hl h (WZ l.length:Int)) ⟨⟨rfl,.inr ⟨rfl,rZ.imm l⟩⟩,trivial⟩ ⟨⟨rfl,.inr ⟨rfl,rZ.imm r⟩⟩,trivial⟩] [hc (rZ.imm r)] (kd:=[(0,.row)])
end
theorem AfZ{A B:List α}{x:α}:(A++x::B)[A.length]?=some x:=aC
def PN(l:Bk):Prop:=l.Pairwise λa b=>a<=b
theorem Af0{S R:Bk}{x:Int}(hn:(S++x::R).length<=1000)(hs:PN S):T (AH Aaq (S++x::R,(S.length:Int))) λr=>∃S',r=S'++R/\S'.length=S.length+1/\PN S'/\S'.Perm (x::S):=by
 have hl:S.length+R.length+1<=1000:=by simp at hn;omega
 refine T.loop (λs=>∃b a,s.1=b++x::(a++R)/\s.2=(b.length:Int)/\S=b++a/\∀y∈a,x<=y) (λs=>s.2.toNat) ⟨S,[],rfl,rfl,aC,aC⟩ (by show((S.length:Int)).toNat<_;omega) ?_;rintro⟨l,j⟩ ⟨b,a,e1,e2,e3,e4⟩;dsimp only at e1 e2;subst e1 e2 e3;have fin:(∀y∈b,y<=x)->∃S',b++x::(a++R)=S'++R/\S'.length=(b++a).length+1/\PN S'/\S'.Perm (x::(b++a)):=λh=>by refine⟨b++x::a,aC,by simp;omega,?_,List.perm_middle⟩;grind [PN,List.pairwise_cons]
 unfold Aaq;dsimp only;rcases List.eq_nil_or_concat b with rfl|⟨A,y,rfl⟩
 .rw[C5 aC,AQ];exact .some (fin aC)
 .have hA:((A++[y]).length:Int)=((A.length+1:Nat):Int):=aC;have hAl:A.length<=1000:=by simp at hl;omega
  have ew:wI (((A.length+1:Nat):Int)-1)=(A.length:Int):=by grind [bM]
  rw[List.concat_eq_append] at*;rw[hA,CM aa,ax,au,ew,au];have eq1:A++[y]++x::(a++R)=A++y::x::(a++R):=aC;have g1:(A++[y]++x::(a++R))[A.length+1]?=some x:=by simp
  have g2:(A++[y]++x::(a++R))[A.length]?=some y:=by rw[eq1];exact AfZ
  rw[g1,g2];simp only[aL];refine .dec (λc=>?_) λh=> .some (fin λz hz=>?_)
  .have s1:ji (A++[y]++x::(a++R)) ((A.length+1:Nat):Int) y=some (A++[y]++y::(a++R)):=by unfold ji;rw[Bz ⟨aa,aC⟩,E0];simp_all
   have s2:ji (A++[y]++y::(a++R)) (A.length:Int) x=some (A++x::(y::a++R)):=by unfold ji;simp_all
   rw[s1,aL,s2,aL];refine .some ⟨⟨A,y::a,rfl,rfl,aC,λz hz=>?_⟩,?_⟩
   .grind
   simp_all
  .have hyx:y<=x:=aa;rcases Jo.1 hz with hz|hz
   .have hs':=hs;unfold PN at hs';rw[List.append_assoc,List.pairwise_append] at hs';exact Int.le_trans (hs'.2.2 z hz y aC) hyx
   grind
theorem AbC{l:Bk}(hn:l.length<=1000):T (inZ l) λr=>r.Perm l/\PN r:=by
 unfold inZ;refine T.loop (λs=>∃S R,s.1=S++R/\PN S/\(S++R).Perm l/\((S.length:Int)=s.2\/(l=[]/\S=[]/\R=[]/\s.2=1))) (λs=>1002-s.2.toNat) ?_ (by show 1002-_<_;omega) ?_
 .cases l with
  |nil=>exact⟨[],[],rfl,.nil,.refl _,.inr ⟨rfl,rfl,rfl,rfl⟩⟩
  |cons a r=>exact⟨[a],r,rfl,List.pairwise_singleton _ _,.refl _,.inl rfl⟩
 rintro⟨l1,i⟩ ⟨S,R,e1,e2,e3,e4⟩;dsimp only at e1 e4;subst e1;have hlen:=e3.length_eq;unfold Acz;dsimp only;refine .dec (λhlt=>?_) λhge=> .some ⟨e3,?_⟩
 .unfold ah at hlt;rcases e4 with rfl|⟨rfl,rfl,rfl,rfl⟩
  rotate_left
  .simp at hlt
  cases R with
  |nil=>simp at hlen;omega
  |cons x R=>refine .bind ((Af0 (by rw[hlen];exact hn) e2).mono λr ⟨S',b,d,c,r4⟩=> .some ⟨⟨S',R,b,c,?_,.inl ?_⟩,?_⟩);all_goals grind [bM]
 .unfold ah at hge;rcases e4 with rfl|⟨rfl,rfl,rfl,rfl⟩
  .have:R=[]:=List.eq_nil_of_length_eq_zero (by simp at hlen;omega);subst this;simpa using e2
  .exact .nil
theorem Adr{ks:Bk}(hs:PN srt)(hp:ks.Perm srt)(hn:srt.length<=1000):inZ ks=some srt:=by obtain⟨r,e,p,s⟩:=AbC (l:=ks) (by rw[hp.length_eq];exact hn);rw[e];refine congrArg some ?_;refine List.Perm.eq_of_pairwise (le:=λa b=>a<=b) (λa b _ _ h1 h2=>?_) s hs (p.trans hp);exact Int.le_antisymm h1 h2
section
attribute [local irreducible] Tr dz Gp
def ksQ{K V:Type}(m:FM K V)(seen:Bq):List K:=seen.filterMap λn=>(m.es.find? λe=>Nat.beq e.2.2 n).map (·.1)
theorem Ads(hm:FxOk m){seen:Bq}(he:e∈m.es):ksQ m (seen++[e.2.2])=ksQ m seen++[e.1]:=by
 unfold ksQ;rw[List.filterMap_append];have:∀{es:List (K×V×Nat)},(es.map (·.2.2)).Nodup->e∈es->es.find? (λx=>Nat.beq x.2.2 e.2.2)=some e:=by
  intro es;induction es with
  |nil=>intro _ h;cases h
  |cons x r ih=>
   intro hd h;rw[Fa,LE] at hd;rcases EH.1 h with rfl|h
   .simp
   grind [bc]
 simp[this hm.nd he]
def KsQ{K V:Type}(m:FM K V)(seen:Bq):Prop:=seen.Nodup/\∀n∈seen,n∈m.es.map (·.2.2)
theorem Q2{l m:Bq}(hd:l.Nodup)(hs:∀x∈l,x∈m):l.length<=m.length:=by
 induction l generalizing m with
 |nil=>exact Nat.zero_le _
 |cons a r ih=>rw[LE] at hd;have ha:=hs a aC;have:=ih (m:=m.erase a) hd.2 λx hx=>(List.mem_erase_of_ne (λe:x=a=>hd.1 (by rw[<-e];exact hx))).2 (hs x (by simp[hx]));grind
theorem Adt{seen:Bq}(h:KsQ m seen):(ksQ m seen).length<=m.es.length:=by have h1:=Q2 h.1 h.2;grind [ksQ]
theorem Aas:KsQ m []:=⟨.nil,aC⟩
theorem Aat{seen:Bq}(h:KsQ m seen)(he:e∈m.es)(hn:e.2.2∉seen):KsQ m (seen++[e.2.2]):=by
 refine⟨?_,λn hx=>?_⟩
 .rw[List.nodup_append];exact⟨h.1,aC,(by grind)⟩
 .rcases Jo.1 hx with hx|hx
  .exact h.2 n hx
  grind
theorem Af3(hm:FxOk m)(h:KsQ m seen)(ha:∀e∈m.es,e.2.2∈seen):(ksQ m seen).Perm (m.es.map (·.1)):=by
 have hp:seen.Perm (m.es.map (·.2.2)):=(List.perm_ext_iff_of_nodup h.1 hm.nd).2 λn=>⟨h.2 n,(by grind)⟩;have h1:(ksQ m seen).Perm (ksQ m (m.es.map (·.2.2))):=hp.filterMap _;have h2:∀es:List (K×V×Nat),(∀e∈es,e∈m.es)->ksQ m (es.map (·.2.2))=es.map (·.1):=by
  intro es;induction es with
  |nil=>intro _;rfl
  |cons e r ih=>intro hh;have:=Ads hm (seen:=[]) (hh e aC);grind [ksQ]
 grind
abbrev X3:Bn:=115
abbrev Ua(m:FM Int Bool):Option Ob:=some (Nh X3 JM bG m)
abbrev O5(i:Nat):G:= .clo (.func 143) [] [.ref i 0]
abbrev Y6:Option Ob:=some ⟨X3,[.mref 1],none⟩
abbrev X5(g:G):Option Ob:=some ⟨22,[g],none⟩
abbrev KSZ(m:FM Int Bool):Type:={ks:Bk//ks.Perm (m.es.map (·.1))}
noncomputable abbrev cAZ:Code:=bq 11012 (ai Tryz.f193)
noncomputable abbrev Af4(st:LoopState):Option Ob:=some ⟨0,[],some (.loop st none 13 [(2,.ref 2 0)] (Dy cAZ) (Dz cAZ) (DA cAZ))⟩
abbrev AjR(clock:Nat)(seen:Bq):Option Ob:=some ⟨X3,[],some (.iter (some 1) clock seen clock)⟩
theorem X7(m:FM Int Bool):∀e∈XI JM bG m,bB e.2.1:=QO λv=>mN _
abbrev Af5:Fr:=[(0,.yld 3),(5,.ref 4 0)]
noncomputable abbrev σKZ(m:FM Int Bool)(seen:Bq)(l:Bk):aQ:=[(0,Y6),(1,Ua m),(2,X5 (.rsl 5 0 l.length)),(3,Af4 .ready),(4,AjR m.clk seen),(5,JG l)]
noncomputable abbrev σKY(m:FM Int Bool)(seen:Bq)(a:Bk):aQ:=[(0,Y6),(1,Ua m),(2,X5 (.rsl 6 0 a.length)),(3,Af4 .busy),(4,AjR m.clk seen),(6,JG a)]
theorem AcB{m:FM Int Bool}(hm:FxOk m)(hn:m.es.length<=1000):Xx prog gl 193 [.lit (.slice none 0 0),O5 0] [(0,Y6),(1,Ua m)] 2 (ι:=KSZ m) (λx=> .rsl 2 0 x.1.length) (λx=>[(0,Y6),(1,Ua m),(2,JG x.1)]) (λ_=>3):=by
 refine dMF func193 ?_;refine YR [1,0,1,2] (s0 13 gl [(2,.ref 2 0),(6,O5 0)] [(2,X5 (.lit (.slice none 0 0))),(0,Y6),(1,Ua m)] 3 2) [] ?_;refine Xt (fst:=[]) (cap:=[.ref 0 0]) Tryz.f143 func143 ?_;refine pO [0] (s0 14 gl [(0,.yld 3),(1,.ref 0 0)] [(0,Y6),(1,Ua m),(2,X5 (.lit (.slice none 0 0))),(3,Af4 .ready)] 4 4) [] [hc (X7 m)] ?_ [] [(0,0),(1,1),(2,2),(3,3)];refine yl (Bs':=[]) [0] (J:=(s0 14 gl Af5 (σKZ m [] []) 6 4)) [] [hc (X7 m),hc (rZ.imm [])] ?_ (vs:=[3]) (ρ:=rI 6) (kd:=[(5,.row)]);refine dNx [1] ?_;refine dMw 5 6 7 0 (iti:=4) (mi:=1) (clock:=m.clk) (since:=m.clk) (T:=X3) (ty:=X3) (es:=XI JM bG m) (λseen=>(s0 14 gl Af5 (σKZ m seen (ksQ m seen)) 6 4)) (KsQ m) Aas (by grind [FxOk]) rfl (Le.refl _) (λseen=>rfl) (λseen=>rfl) (by grind) (λB seen k g n hI hme hns c=>?_) (λseen hI hs=>?_)
 .obtain⟨e,he,d⟩:=Fl.1 hme;simp only[Fu] at d;obtain⟨rfl,rfl,rfl⟩:=d;have hl:=Adt hI;have c:=c (Aat hI he hns);rw[Ads hm he] at c;generalize ksQ m seen=l at hl c⊢;have hge:jr ((4,AjR m.clk (seen++[e.2.2]))::σKZ m seen l) (.ref 4 0)=some (.tup [db (JM e.1),bG e.2.1]):=yo (iti:=4) (mi:=1) (since:=m.clk) (clock:=m.clk) (T:=X3) (ty:=X3) (seen:=seen) rfl rfl (by rw[It];exact hm.nd) hme;refine pO 112211210 (s0 14 gl ((3,iG e.1)::Af5) (σKZ m (seen++[e.2.2]) l) 6 4) [YT 8 hge] [hc (X7 m),hc (rfl:l.length=l.length),hc (rZ.imm l)] ?_ [] [(0,0),(1,1),(2,2),(3,3),(4,4),(5,5)] [(5,.row)];refine Xw (i:=3) (j:=2) (n:=13) (t:=0) (t2:=0) (pe:=none) (fr:=[(2,.ref 2 0)]) (ps:=Dy cAZ) (a:=Dz cAZ) (b:=DA cAZ) (s1:=(s0 14 gl ([(11,iG e.1),(10,.yld 3),(3,iG e.1)]++Af5) (σKZ m (seen++[e.2.2]) l) 6 4))
   (s3:=(s0 14 gl ([(13,bG false),(12,bG true),(11,iG e.1),(10,.yld 3),(3,iG e.1)]++Af5) ((3,Af4 .ready)::σKY m (seen++[e.2.2]) (l++[e.1])) 7 4))
   (σKY m (seen++[e.2.2]) (l++[e.1])) 7 (.loop .ready none 13 [(2,.ref 2 0)] (Dy cAZ) (Dz cAZ) (DA cAZ)) [] [] ?_ ?_
  .refine C9 .normal ⟨13,gl,[(2,.ref 2 0),(5,iG e.1)],σKZ m (seen++[e.2.2]) l,6,6,true⟩ [] [hc (X7 m),hc (rfl:l.length=l.length),hc (rZ.imm l)] (Xv Tryz.f193 ?_ rfl);exact C9 .normal ⟨13,gl,[],σKY m (seen++[e.2.2]) (l++[e.1]),7,6,true⟩ [Tn 11 rZ 8 l e.1 aa] [hc (X7 m),hc (el (l++[e.1])),hc (rZ.imm (l++[e.1]))] (by grind [jy]) (ρ:=rI 6++[(6,7)]) (kd:=[(6,.row)])
  .exact jw [] [hc (X7 m),hc (el (l++[e.1])),hc (rZ.imm (l++[e.1]))] c (ρ:=rI 5++[(5,6)]) (kd:=[(5,.row)])
 .have hp:=Af3 hm hI λe he=>hs _ (Fl.2 ⟨e,he,rfl⟩);generalize ksQ m seen=l at hp⊢;refine C9 .normal (s0 14 gl [] [(0,Y6),(1,Ua m),(2,X5 (.rsl 5 0 l.length)),(3,Af4 .ready),(5,JG l)] 6 4) [] [hc (X7 m),hc (rfl:l.length=l.length),hc (rZ.imm l)] (Xu ?_ rfl) (kd:=[(5,.row)]);exact C9 .ret (s0 13 gl [(4,.rsl 2 0 l.length)] [(0,Y6),(1,Ua m),(2,JG l)] 3 2) [] [hc (rfl:l.length=l.length),hc (X7 m),hc (rZ.imm l)] (YY ⟨l,hp⟩ (Wo (gs:=[.rsl 2 0 l.length]) rfl aH rfl rfl rfl rfl))
theorem AbE{m:FM Int Bool}(hm:FxOk m)(hn:m.es.length<=1000):Xx prog gl 105 [O5 0] [(0,Y6),(1,Ua m)] 2 (ι:=KSZ m) (λx=> .rsl 2 0 x.1.length) (λx=>[(0,Y6),(1,Ua m),(2,JG x.1)]) (λ_=>3):=by refine dMF func105 ?_;refine pO [1,0] (s0 5 gl [(0,O5 0)] [(0,Y6),(1,Ua m)] 2 2) [] [hc (X7 m)] ?_ [] [(0,0),(1,1)] [(999999,.clo)];refine dCl 3 4 2 (fst:=[]) (cap:=[]) (gs:=[.lit (.slice none 0 0),O5 0]) (U6 (g:=λx:KSZ m=> .rsl 2 0 x.1.length) (c:=2) (c':=λ_=>3) (σR:=[(0,Y6),(1,Ua m)]) [0,1] (λx:KSZ m=>[(0,Y6),(1,Ua m),(2,JG x.1)]) (AcB gl hm hn) ⟨⟨rfl,.inl rfl⟩,⟨rfl,rfl,rfl,rfl,.inr ⟨rfl,X7 m⟩⟩,trivial⟩ (λx=>⟨⟨rfl,.inl rfl⟩,⟨rfl,rfl,rfl,rfl,.inr ⟨rfl,X7 m⟩⟩,⟨rfl,.inr ⟨rfl,rZ.imm x.1⟩⟩,trivial⟩) (hcov:=λ_=>rfl) (hg:=λ_=>rfl) (hc:=λ_=>rfl)) λx=>?_;exact C9 .ret (s0 5 gl [(2,.rsl 2 0 x.1.length)] [(0,Y6),(1,Ua m),(2,JG x.1)] 3 2) [] [hc (rfl:x.1.length=x.1.length),hc (X7 m),hc (rZ.imm x.1)] (YY x (Wo (gs:=[.rsl 2 0 x.1.length]) rfl aH rfl rfl rfl rfl))
theorem AcC{m:FM Int Bool}(hm:FxOk m)(hn:m.es.length<=12)(hs:∀a:Bk,a.Perm (m.es.map (·.1))->inZ a=some srt)(hsl:srt.length=m.es.length):jg prog gl 47 [O5 0] [(0,Y6),(1,Ua m)] 2 (.rsl 2 0 srt.length) [(0,Y6),(1,Ua m),(2,JG srt)] 3:=by
 refine pP func47 ?_;refine pO [1,0] (s0 9 gl [(0,O5 0)] [(0,Y6),(1,Ua m)] 2 2) [] [hc (X7 m)] ?_ [] [(0,0),(1,1)] [(999999,.clo)];refine dCl 4 5 3 (fst:=[]) (cap:=[]) (gs:=[O5 0]) (U6 (g:=λx:KSZ m=> .rsl 2 0 x.1.length) (c:=2) (c':=λ_=>3) (σR:=[(0,Y6),(1,Ua m)]) [0,1] (λx:KSZ m=>[(0,Y6),(1,Ua m),(2,JG x.1)]) (AbE gl hm aa) ⟨⟨rfl,.inl rfl⟩,⟨rfl,rfl,rfl,rfl,.inr ⟨rfl,X7 m⟩⟩,trivial⟩ (λx=>⟨⟨rfl,.inl rfl⟩,⟨rfl,rfl,rfl,rfl,.inr ⟨rfl,X7 m⟩⟩,⟨rfl,.inr ⟨rfl,rZ.imm x.1⟩⟩,trivial⟩) (hcov:=λ_=>rfl) (hg:=λ_=>rfl) (hc:=λ_=>rfl)) λx=>?_;have hx:=hs x.1 x.2;have hxl:x.1.length<=12:=by rw[x.2.length_eq,Hq];exact hn
 have hsl:srt.length=x.1.length:=by rw[hsl,x.2.length_eq,Hq]
 rw[show(G.rsl 2 0 srt.length)= .rsl 2 0 x.1.length by rw[hsl]];exact mt .ret (s0 9 gl [(2,.rsl 2 0 x.1.length)] [(0,Y6),(1,Ua m),(2,JG srt)] 3 2) [.rsl 2 0 x.1.length] [tN 7 [2] 3 [(2,JG x.1)] [.rsl 2 0 x.1.length] [(0,JG srt)] (NN gl hxl hx) ⟨⟨rfl,.inr ⟨rfl,rZ.imm x.1⟩⟩,trivial⟩ ⟨⟨rfl,.inr ⟨rfl,rZ.imm srt⟩⟩,trivial⟩] [hc (rfl:x.1.length=x.1.length),hc (X7 m),hc (rZ.imm srt)]
theorem Af6(m:FM Int Bool):jg prog gl 70 [.mref 0] [(0,Ua m)] 1 (O5 1) [(0,Ua m),(1,some ⟨X3,[.mref 0],none⟩)] 2:=by refine pP func70 ?_;exact mt .ret (s0 4 gl [(2,O5 1)] [(0,Ua m),(1,some ⟨X3,[.mref 0],none⟩)] 2 1) [O5 1] [] [hc (X7 m)] (kd:=[(999999,.clo)])
def GR(R:Ad):Bk:=(inZ (R.in_.es.map (·.1))).getD []
theorem le6{l:Bk}(hd:l.Nodup)(h:∀x∈l,1<=x/\x<=6):l.length<=6:=by
 have hs:∀x∈l.map Int.toNat,x∈List.range' 1 6:=by grind
 have hn:(l.map Int.toNat).Nodup:=by clear hs;induction l<;>grind
 have:=Q2 hn hs;grind
theorem Bh.len{R:Ad}(hR:Bh R):R.in_.es.length<=6:=by
 have:=le6 hR.ci.kd λx hx=>by obtain⟨e,he,rfl⟩:=Fl.1 hx;exact hR.i6 e he
 rwa [Hq] at this
theorem LT(hR:Bh R):PN (GR R)/\(GR R).Perm (R.in_.es.map (·.1))/\∀a:Bk,a.Perm (R.in_.es.map (·.1))->inZ a=some (GR R):=by have hl:=hR.len;obtain⟨r,e,p,s⟩:=AbC (l:=R.in_.es.map (·.1)) (by rw[Hq];omega);grind [GR,Adr,List.Perm.length_eq,Hq]
section
abbrev bx2:Option Ob:=some ⟨X3,[.mref 2],none⟩
theorem OI(hR:Bh R):SE prog gl 25 [.ref 0 0] (BG f0 R) 14 14 (aE cZ (GR R)) (BG f0 R):=by
 obtain⟨h1,h2,h3⟩:=LT hR;have hl:=hR.len;have hsl:(GR R).length=R.in_.es.length:=by rw[h2.length_eq,Hq]
 generalize GR R=srt at h1 h2 h3 hsl⊢;refine dFP func25 ?_;exact ZT [tN 7 [2] 14 [(2,Ua R.in_)] [.mref 2] [(0,Ua R.in_),(1,bx2)] (Af6 gl R.in_) ⟨⟨rfl,rfl,rfl,rfl,.inr ⟨rfl,X7 R.in_⟩⟩,trivial⟩ ⟨⟨rfl,rfl,rfl,rfl,.inr ⟨rfl,X7 R.in_⟩⟩,⟨rfl,.inl rfl⟩,trivial⟩,tN 8 [14,2] 15 [(14,bx2),(2,Ua R.in_)] [O5 14] [(0,bx2),(1,Ua R.in_),(2,JG srt)] (AcC gl hR.ci.1 aa h3 hsl) ⟨⟨rfl,.inl rfl⟩,⟨rfl,rfl,rfl,rfl,.inr ⟨rfl,X7 R.in_⟩⟩,trivial⟩ ⟨⟨rfl,.inl rfl⟩,⟨rfl,rfl,rfl,rfl,.inr ⟨rfl,X7 R.in_⟩⟩,⟨rfl,.inr ⟨rfl,rZ.imm srt⟩⟩,trivial⟩] (hc (⟨rZ.len srt,rZ.imm srt,rfl⟩:(srt.flatMap cZ).length=srt.length*1/\(∀g∈srt.flatMap cZ,bB g)/\srt.length=srt.length)::rlA hR) (Gf f0) N3
def Aed(n k:Nat):Option (Nat⊕Unit):=if k<n then some (.inl (k+1))else if k=n then some (.inr ())else none
theorem Aau{n:Nat}(h:n<=1000000):AH (Aed n) 0=some ():=T.eq (T.loop (λk=>k<=n) (λk=>n-k) aa aa λk hk=>by
 unfold Aed;split
 .exact .some ⟨aa,aa⟩
 .rw[Bz aa];exact .some rfl)
section
variable {P:Br} [M:Mix P] {fn:Func} {Q:Exit->St->Prop} {Bs:List (St->Prop)} {m:Bool} {p:Bq} {st:St}
theorem Za{l:List α}(hn:l.length<=1000000)(S:Nat->St)(b:Bq)(A O:List HP)(h:∀(B:St->Prop) (k:Nat) (x:α),l[k]?=some x->aS l (k:Int)=some x->B (S (k+1))->Gp P fn Q (Bs++[B]) false b (S k))(he:∀B:St->Prop,Gp P fn Q (Bs++[B]) false b (S l.length))(vs:List Bn:=[])(ρ:DD:=[])(kd:List (Nat×Rk):=[])
  (hk:TF A (Xr P (bK A) (Lv m p (ai fn)) (bE p (ai fn) Bs []) vs ρ kd (S 0) st) (pR O,S 0,bq b (ai fn),Oj fn Bs b):=by exact⟨aH,aH⟩)
  (e2:∀B,bE b (ai fn) (Bs++[B]) []= .lp B::Oj fn Bs b:=by intro B;kernel_rfl):Gp P fn Q Bs m p st:=
 pN S b (Aau hn) A O (λB k w hs k5 _=>by
  unfold Aed at hs;split at hs
  .rename_i hlt;obtain rfl:=Bo hs;have hx:l[k]?=some l[k]:=Ef hlt;exact h B k _ hx (Bp hx) (k5 _ rfl)
  .split at hs
   .rename_i he';exact he'▸he B
   .cases hs) vs ρ kd hk e2
end
def S8(m:Int)(Q:Ad)(d:Int):Ad:=bif Dl Q d=m then G9 Q d else Q
def Af7(R:Ad)(o:Bi):Ad:=(GR R).foldl (S8 o.Member) R
theorem Adu{Q:Ad}(hQ:Bh Q)(m d:Int):Bh (S8 m Q d):=by grind [S8,KE]
theorem UU{m:Int}:∀{l:Bk} {Q:Ad},Bh Q->Bh (l.foldl (S8 m) Q)
 |[],Q,h=>h
 |d::r,Q,h=>UU (l:=r) (Adu h m d)
abbrev ρW:DD:=[(0,0),(1,1),(2,2),(3,3),(4,4),(5,16),(6,17),(7,18),(8,19),(9,20),(10,21),(11,22),(12,23),(13,24),(14,14),(15,15)]
theorem AcD(hR:Bh R){o:Bi}(hk:o.Kind=3)(hd:o.Device=0):UD gl R o i (Af7 R o):=by
 have a1:decide (o.Kind=1)=false:=by rw[hk];rfl
 have a2:decide (o.Kind=2)=false:=by rw[hk];rfl
 have a3:decide (o.Kind=3)=true:=by rw[hk];rfl
 have ad:decide (o.Device≠0)=false:=C5 (by rw[hd];simp);have hdv:=OI gl hR;have hn:(GR R).length<=6:=by have:=(LT hR).2.1.length_eq;rw[Hq] at this;rw[this];exact hR.len
 refine PM gl hR ?_;unfold Af7;generalize GR R=l at hdv hn⊢;have hQ:∀k,Bh ((l.take k).foldl (S8 o.Member) R):=λk=>UU hR;refine pN (λk:Nat=>(s0 259 gl [(0,.ref 0 0),(4,.ref 14 0),(69,aE cZ l),(70,iG (ah l)),(71,iG (k:Int))] (AfK ((l.take k).foldl (S8 o.Member) R) o i) 16 5)) 111121414131122 (Aau (n:=l.length) aa) [hr 29 a1,hr 52 a2,hr 60 a3,hr 63 ad,hrr 69 f0 16 [] hR hdv] (rlB ρD f0 hR) (λB k v hs k5 a=>?_) [] ρD N3;unfold Aed at hs;split at hs
 .rename_i hlt;obtain rfl:=Bo hs;obtain⟨x,hx⟩:∃x,l[k]?=some x:=⟨_,Ef hlt⟩;have hz:=Bp hx;have k5:=k5 _ rfl;have hq:=hQ k;rw[Hr,hx,Option.toList_some,LX,List.foldl_cons,List.foldl_nil] at k5;generalize (l.take k).foldl (S8 o.Member) R=Q at hq k5⊢;unfold S8 at k5;cases hm:decide (Dl Q x=o.Member) with
  |false=>rw[hm] at k5;exact jw [hr 72 (C3 hx),Az 73 (rZ.ixZ hz),Az 74 (rZ.p1Z tZ hz),hof gl 77 hq x 16,hr 80 hm,hbb 84 (Xl (q:=k) aa)] (rlB ρD f0 hq) k5 [] ρD N3
  |true=>rw[hm] at k5;exact jw [hr 72 (C3 hx),Az 73 (rZ.ixZ hz),Az 74 (rZ.p1Z tZ hz),hof gl 77 hq x 16,hr 80 hm,hrw 83 f0 16 [iG x] hq (KE hq x) (Aal gl hq x),hbb 84 (Xl (q:=k) aa)] (rlB ρW f16 (KE hq x)) k5 [] ρW N3
 .split at hs
  .rename_i he;subst he;rw[DZ];exact Hp f0 _ (UU hR) [hr 72 (D4 (s:=l))] (rlX (f:=f0) (R:=l.foldl (S8 o.Member) R))
  .cases hs
end
def U0(R:Ad)(o:Bi)(i:Ab):Ad:=
 if o.Kind=1 then AbA R o else if o.Kind=2 then Jd R o.Device o.Role else if o.Kind=3 then(if o.Device=0 then Af7 R o else G9 R o.Device)else if o.Kind=5 then Uv R o else if o.Kind=9 then Aao R o i else if o.Kind=11 then XX R o else if o.Kind=12 then Wx R o else if o.Kind=13 then Aap R o else R
structure UE (o:Bi) (i:Ab):Prop where
 i:i.By=o.By
 g:o.Guards.length<=1000000
 n:o.Kind=9->1<=o.Need/\o.Need<=1000000
 b:1<=o.By/\o.By<=6
theorem R4(hR:Bh R){o:Bi}(ho:UE o i):Bh (U0 R o i):=by
 unfold U0;split
 .exact AfX hR o
 split
 .exact I4 hR _ _
 split
 .split
  .exact UU hR
  .exact KE hR _
 grind [Adp,AfU,UE.i,UE.g,UE.n,AfS,UE.b,AfR,AfY]
theorem Af8(hR:Bh R){o:Bi}(ho:UE o i):UD gl R o i (U0 R o i):=by
 unfold U0;split
 .exact Aea gl hR (by assumption)
 split
 .exact AjJ gl hR (by assumption)
 split
 .split
  .grind [AcD]
  grind [Ad6]
 split
 .exact Acv gl hR (by assumption)
 split
 .grind [AfV,UE.i,UE.g,UE.n]
 split
 .exact AfT gl hR (by assumption) ho.b
 split
 .exact Ad8 gl hR (by assumption)
 split
 .exact Acy gl hR (by assumption)
 grind [AhC]
def AjS(l:Mj):FM Int DP:=l.foldl (λm c=>C6 m c.Device c) ⟨[],0⟩
def Hl(l:Mj):Ad:=⟨AjS l,⟨[],0⟩,⟨[],0⟩,⟨[],0⟩,0⟩
structure Aee (l:Mj):Prop where
 n:l.length<=1000
 r:∀c∈l,1<=c.Device/\c.Device<=6/\1<=c.Member/\c.Member<=3
theorem AbF{d:Int}{c:DP}:∀{l:Mj} {m:FM Int DP},(l.foldl (λm c=>C6 m c.Device c) m).get d=some c->(c∈l/\c.Device=d)\/m.get d=some c
 |[],m,h=> .inr h
 |x::r,m,h=>by
  rcases AbF (l:=r) h with⟨h1,h2⟩|h
  all_goals grind [BA]
theorem Lw{l:Mj}(h:∀c∈l,1<=c.Device/\c.Device<=6/\1<=c.Member/\c.Member<=3):Bh (Hl l):=by
 have e:∀{K V:Type},RT (⟨[],0⟩:FM K V):=by grind [RT,FxOk]
 have hc:∀d,(DV ((Hl l).cards.get d)).Member=0\/∃c∈l,c.Device=d/\DV ((Hl l).cards.get d)=c:=λd=>by
  cases hg:(Hl l).cards.get d with
  |none=>exact .inl rfl
  |some c=>
   rcases AbF (l:=l) hg with⟨h1,h2⟩|h1
   .exact .inr ⟨c,h1,h2,rfl⟩
   .cases h1
 refine⟨e,e,e,λe he=>(by cases he),λd=>?_,λk x g h1=>(by cases h1),λk x g h1=>(by cases h1),λk x g h1=>(by cases h1),λk x g h1=>(by cases h1),λe he=>(by cases he),λd hd=>?_,λk x g h1=>(by cases h1)⟩;all_goals grind
abbrev ρN:DD:=[(0,4),(1,0),(2,1),(3,2),(4,3),(5,5),(6,6),(7,7),(8,8),(9,9),(10,10),(11,11),(12,12),(13,13)]
def fN0(k:Nat):Nat:=match k with
 |0=>4
 |1=>0
 |2=>1
 |3=>2
 |4=>3
 |k=>k
theorem Af9{l:Mj}(hl:Aee l):SE prog gl 66 [aE bv l] [] 0 0 (.ref 0 0) (BG f0 (Hl l)):=by
 have hQ:∀k,Bh (Hl (l.take k)):=λk=>Lw λc hc=>hl.r c (List.mem_of_mem_take hc);refine dFP func66 ?_;refine Za (l:=l) (by have:=hl.n;omega) (λk:Nat=>(s0 27 gl [(3,.ref 0 0),(12,aE bv l),(13,iG (ah l)),(14,iG (k:Int))] (BG f0 (Hl (l.take k))) 14 0)) 1110122 [] (rlB ρN fN0 (hQ 0)) (λB k x hx hz k5=>?_) (λB=>?_) [] ρN N3
 .have hlt:=(cr hx).1;have e:Hl (l.take (k+1))={Hl (l.take k) with cards:=C6 (Hl (l.take k)).cards x.Device x}:=by unfold Hl AjS;rw[Hr,hx,Option.toList_some,LX];rfl
  have hq:=hQ k;have a:=hQ (k+1);rw[e] at k5 a;have hn:=hl.n;have hp:=Af1 (P:=prog) (σ:=[(1,some (Nh tMc JM cdG (Hl (l.take k)).cards))]) (i:=1) (t:=tMc) (t':=tMc) (vg:=cdG) (et:=127) PC Adn aH (k:=x.Device) (gk:=iG x.Device) rfl (m:=(Hl (l.take k)).cards) rfl x;generalize Hl (l.take k)=Q at hq a hp k5⊢;exact jw [hr 15 (C3 hx),Az 16 (bT.ixZ hz),Az 17 (bT.ptZ E2 hz),hmr 15 hp,hbb 25 (Xl (q:=k) aa)] (rlB (Gf f0) f0 a) k5 [] (Gf f0) N3
 .rw[DZ];exact ZT [hr 15 (D4 (s:=l))] (rlB (Gf f0) f0 (Lw hl.r)) (Gf f0) N3
def Je(R:Ad)(m:Int):Bool:=decide (MI R m=3)
def Aga(R:Ad)(o:Bi)(m:Int):Int:=bif D3 R o.Device then(bif Je R m then 0 else bif Dl R o.Device≠m then 14 else 0)else 17
def Aef(R:Ad)(o:Bi)(m:Int):Int:=bif o.Device≠0 then(bif O4 R o.Device then(bif Je R m then 0 else bif Dl R o.Device≠m then 14 else 0)else 17)else match R.members.get o.Member with
 |none=>16
 |some _=>bif Je R m then 0 else bif o.Member≠m then 14 else 0
def Agb(R:Ad)(o:Bi)(m:Int):Int:=bif Je R m then(match R.members.get o.Member with
 |none=>16
 |some _=>0)else 14
def Agc(R:Ad)(m:Int):Int:=bif MI R m<2 then 14 else 0
def Agd(R:Ad)(o:Bi)(m:Int):Int:=bif Je R m then 0 else bif Dl R o.Of.By≠m then 14 else 0
def AbG(R:Ad)(o:Bi)(m:Int):Int:=match R.members.get m with
 |none=>25
 |some x=>match x.guard with
  |none=>25
  |some g=>bif g.id=o.Of then 0 else 25
theorem S9(R:Ad)(m:Int):ba prog gl 412 [.ptr (CB R) 0,iG m] (bG (Je R m)):=Gh func412 (Ar [hf 7 (US gl R m)] [])
theorem Anq(R:Ad)(d:Int):∀σ,bL prog σ Y3 false (FM.g JM bG R.in_) (iG d)=some (bG (O4 R d)):=Sx R.in_ d
theorem AhL(R:Ad)(o:Bi)(m:Int):ba prog gl 411 [.ptr (CB R) 0,.agg (aJ o),iG m] (iG (Aga R o m)):=by
 have h1:=Abw gl R o.Device;have h2:=S9 gl R m;have h3:=Abv gl R o.Device;unfold Aga;refine Gh func411 ?_;cases b1:D3 R o.Device with
 |false=>rw[b1] at h1;exact Ar [hf 11 h1] []
 |true=>
  rw[b1] at h1;cases b2:Je R m with
  |true=>rw[b2] at h2;exact Ar [hf 11 h1,hf 16 h2] []
  |false=>
   rw[b2] at h2;cases b3:decide (Dl R o.Device≠m) with
   |true=>exact Ar [hf 11 h1,hf 16 h2,hf 22 h3,hr 24 b3] []
   |false=>exact Ar [hf 11 h1,hf 16 h2,hf 22 h3,hr 24 b3] []
theorem AhM(R:Ad)(o:Bi)(m:Int):ba prog gl 413 [.ptr (CB R) 0,.agg (aJ o),iG m] (iG (Aef R o m)):=by
 have h2:=S9 gl R m;have h3:=Abv gl R o.Device;have h4:=Anq R o.Device;have h5:=AhE R o.Member;unfold Aef;refine Gh func413 ?_;cases b1:decide (o.Device≠0) with
 |true=>
  cases b4:O4 R o.Device with
  |false=>rw[b4] at h4;exact Ar [hr 12 b1,hm 19 h4] []
  |true=>
   rw[b4] at h4;cases b2:Je R m with
   |true=>rw[b2] at h2;exact Ar [hr 12 b1,hm 19 h4,hf 24 h3,hf 35 h2] []
   |false=>
    rw[b2] at h2;cases b3:decide (Dl R o.Device≠m) with
    |true=>exact Ar [hr 12 b1,hm 19 h4,hf 24 h3,hf 35 h2,hr 40 b3] []
    |false=>exact Ar [hr 12 b1,hm 19 h4,hf 24 h3,hf 35 h2,hr 40 b3] []
 |false=>
  cases b5:R.members.get o.Member with
  |none=>rw[b5] at h5;exact Ar [hr 12 b1,hm 31 h5] []
  |some x=>
   rw[b5] at h5;cases b2:Je R m with
   |true=>rw[b2] at h2;exact Ar [hr 12 b1,hm 31 h5,hf 35 h2] []
   |false=>
    rw[b2] at h2;cases b3:decide (o.Member≠m) with
    |true=>exact Ar [hr 12 b1,hm 31 h5,hf 35 h2,hr 40 b3] []
    |false=>exact Ar [hr 12 b1,hm 31 h5,hf 35 h2,hr 40 b3] []
theorem AhN(R:Ad)(o:Bi)(m:Int):ba prog gl 414 [.ptr (CB R) 0,.agg (aJ o),iG m] (iG (Agb R o m)):=by
 have h2:=S9 gl R m;have h5:=AhE R o.Member;unfold Agb;refine Gh func414 ?_;cases b2:Je R m with
 |false=>rw[b2] at h2;exact Ar [hf 10 h2] []
 |true=>
  rw[b2] at h2;cases b5:R.members.get o.Member with
  |none=>rw[b5] at h5;exact Ar [hf 10 h2,hm 19 h5] []
  |some x=>rw[b5] at h5;exact Ar [hf 10 h2,hm 19 h5] []
theorem AhO(R:Ad)(o:Bi)(m:Int):ba prog gl 415 [.ptr (CB R) 0,.agg (aJ o),iG m] (iG (Agc R m)):=by
 unfold Agc;refine Gh func415 ?_;cases b:decide (MI R m<2) with
 |true=>exact Ar [hf 9 (US gl R m),hr 10 b] []
 |false=>exact Ar [hf 9 (US gl R m),hr 10 b] []
theorem AhP(R:Ad)(o:Bi)(m:Int):ba prog gl 416 [.ptr (CB R) 0,.agg (aJ o),iG m] (iG (Agd R o m)):=by
 have h2:=S9 gl R m;have h3:=Abv gl R o.Of.By;unfold Agd;refine Gh func416 ?_;cases b2:Je R m with
 |true=>rw[b2] at h2;exact Ar [hf 9 h2] []
 |false=>
  rw[b2] at h2;cases b3:decide (Dl R o.Of.By≠m) with
  |true=>exact Ar [hf 9 h2,hf 16 h3,hr 18 b3] []
  |false=>exact Ar [hf 9 h2,hf 16 h3,hr 18 b3] []
theorem Adv(R:Ad)(o:Bi)(m:Int):ba prog gl 419 [.ptr (CB R) 0,.agg (aJ o),iG m] (iG (AbG R o m)):=by
 have h5:=AhE R m;unfold AbG;refine Gh func419 ?_;cases b5:R.members.get m with
 |none=>rw[b5] at h5;exact Ar [hm 13 h5] []
 |some x=>
  rw[b5] at h5;obtain⟨role,gd⟩:=x;cases gd with
  |none=>exact Ar [hm 13 h5] []
  |some g=>
   dsimp only;cases b:decide (g.id=o.Of) with
   |true=>exact Ar [hm 13 h5,hV 33 (dy g.id o.Of (r:=false) (by rw[b];rfl))] []
   |false=>exact Ar [hm 13 h5,hV 33 (dy g.id o.Of (r:=true) (by rw[b];rfl))] []
def eQ{K V:Type}(m:FM K V)(seen:Bq):List (K×V×Nat):=seen.filterMap λn=>m.es.find? λe=>Nat.beq e.2.2 n
theorem Sm{K V:Type}:∀{es:List (K×V×Nat)} {e:K×V×Nat},(es.map (·.2.2)).Nodup->e∈es->es.find? (λx=>Nat.beq x.2.2 e.2.2)=some e
 |[],e,_,h=>by cases h
 |x::r,e,hd,h=>by
  rw[Fa,LE] at hd;rcases EH.1 h with rfl|h
  .simp
  .have hb:Nat.beq x.2.2 e.2.2=false:=by grind [bc]
   rw[List.find?_cons,hb];exact Sm hd.2 h
theorem Age(hm:FxOk m)(he:e∈m.es):eQ m (seen++[e.2.2])=eQ m seen++[e]:=by unfold eQ;rw[List.filterMap_append];simp[Sm hm.nd he]
theorem AiH{K V:Type}{m:FM K V}(hm:FxOk m):∀es:List (K×V×Nat),(∀e∈es,e∈m.es)->eQ m (es.map (·.2.2))=es
 |[],_=>rfl
 |e::r,h=>by have ih:=AiH hm r (by grind);unfold eQ at ih⊢;rw[Fa,List.filterMap_cons,Sm hm.nd (h e aC),ih]
theorem Adw(hm:FxOk m)(h:KsQ m seen)(ha:∀e∈m.es,e.2.2∈seen):(eQ m seen).Perm m.es:=by have hp:seen.Perm (m.es.map (·.2.2)):=(List.perm_ext_iff_of_nodup h.1 hm.nd).2 λn=>⟨h.2 n,(by grind)⟩;have h1:(eQ m seen).Perm (eQ m (m.es.map (·.2.2))):=hp.filterMap _;rwa [AiH hm m.es λe h=>h] at h1
theorem AjT(h:e∈eQ m seen):e∈m.es:=by grind [eQ]
theorem AlO:∀{seen:Bq},KsQ m seen->(eQ m seen).Nodup
 |[],_=> .nil
 |n::r,h=>by grind [KsQ,eQ,bc]
abbrev dvE(d:Int)(l:List (C4×Int×Nat)):Bk:=(l.filter λe=>decide (e.1.device=d)).map (·.2.1)
theorem Aav{m:FM C4 Int}(hk:(m.es.map (·.1)).Nodup)(hb:∀e∈m.es,1<=e.1.by_/\e.1.by_<=6){l:List (C4×Int×Nat)}(hn:l.Nodup)(hs:∀e∈l,e∈m.es)(d:Int):(dvE d l).length<=6:=by
 unfold dvE;rw[Hq];have key:∀l:List (C4×Int×Nat),l.Nodup->(∀e∈l,e∈m.es/\e.1.device=d)->(l.map (·.1.by_)).Nodup:=by
  intro l;induction l with
  |nil=>intro _ _;exact .nil
  |cons a r ih=>
   intro hn hs;rw[LE] at hn;rw[Fa,LE];refine⟨λhm=>?_,(by grind)⟩;obtain⟨b,hb,e⟩:=Fl.1 hm;obtain⟨a1,a2⟩:=hs a aC;obtain⟨b1,b2⟩:=hs b (by simp[hb]);have:a.1=b.1:=by cases h1:a.1;cases h2:b.1;grind
   grind [Nz]
 have h2:=le6 (key _ (hn.sublist List.filter_sublist) λe he=>⟨hs e (GV.1 he).1,DS (GV.1 he).2⟩) λx hx=>by obtain⟨e,he,rfl⟩:=Fl.1 hx;exact hb e (hs e (GV.1 he).1)
 rwa [Hq] at h2
def AcF(g:CA)(d:Int):Bk:=(inZ (dvE d g.vouches.es)).getD []
def X8(R:Ad)(m d:Int):Int×Int:=match R.members.get m with
 |none=>(0,4)
 |some x=>match x.guard with
  |none=>(0,4)
  |some g=>bif ah (AcF g d)<g.need then(0,26)else bif g.objected&&decide ((AcF g d).getD 0 0<=g.last)then(0,28)else(wI ((AcF g d).getD (g.need.toNat-1) 0+g.wait),0)
abbrev frV(a:Nat){R:Ad}{k:Int}{x:AA}(_:R.members.get k=some x):Fr:=[(a,.ref (3+nM k) 0)]
abbrev miV{R:Ad}{k:Int}{x:AA}(_:R.members.get k=some x):Nat:=6+nM k
abbrev AhQ(ρ:DD){R:Ad}(hR:Bh R){l:List (Nat×Ob)}(hl:∀q∈l,Bv f0 R q.1=some q.2)(h:okR ρ f0=true:=by kernel_rfl):List HP:=L0.map λk=>hc (show XU (I1 ρ) (tg R l k) (tg R l k) from(Y5 hl k).symm▸PL (κ:=I1 ρ) (f:=f0) (f':=f0) (λk ⟨ob,hk⟩=>Aai h (DY hk)) hR k)
abbrev ρV:DD:=Gf f0++[(14,14),(15,18)]
abbrev kdV:List (Nat×Rk):=N3++[(15,.row)]
abbrev frD{R:Ad}{k:Int}{x:AA}(hx:R.members.get k=some x)(d:Int)(a:Bk):Fr:=frV 9 hx++[(2,iG d),(10,.rsl 15 0 a.length),(36,.ref 14 0)]
abbrev stD{R:Ad}{k:Int}{x:AA}(hx:R.members.get k=some x){l:List (Nat×Ob)}(hl:∀q∈l,Bv f0 R q.1=some q.2)(g:CA)(seen:Bq)(a:Bk):aQ:=stT hl++[(14,Aak tMv (miV hx) g.vouches.clk seen),(15,JG a)]
theorem AjU(hR:Bh R)(m d:Int):SE prog gl 422 [.ref 0 0,iG m,iG d] (BG f0 R) 14 14 (.tup [iG (X8 R m d).1,iG (X8 R m d).2]) (BG f0 R):=by
 have hr2:∀a b:Int,bB (.tup [iG a,iG b]):=λa b=>L7 λg hg=>by simp only[EH,Lu,or_false] at hg;rcases hg with rfl|rfl<;>exact mN _
 refine dFP func422 ?_;unfold X8;cases hx:R.members.get m with
 |none=>have hr:=hr2 0 4;exact Hp f0 _ hR [KJ 18 (Wg hx)] (HC R hr)
 |some x=>
  have hlk:=Sg hx;obtain⟨j,hj,o⟩:∃j:Nat,m=(j:Int)/\(j=1\/j=2\/j=3):=by grind [Ahz]
  subst hj;obtain⟨role,gd⟩:=x;cases gd with
  |none=>
   have hl:=hl1 o hx;have hr:=hr2 0 4;rcases o with rfl|rfl|rfl
   all_goals
    refine pO 11100 (s0 88 gl (frP 8 hx++[(2,iG d)]) (stT hl) 14 14) [KJ 18 hlk] (rlT (Gf f0) f0 hR hl) ?_ (ρ:=Gf f0) (kd:=N3)
    exact Hp f0 _ hR [] (Ww hl hr)
  |some g=>
   have hl:=hl3 o hx;have hv:=hR.cv _ _ g hx rfl;obtain⟨u,v⟩:=hR.gN _ _ g hx rfl;have hb:=hR.vb _ _ g hx rfl;have h6:=Aav hv.kd hb (List.Pairwise.of_map (λx=>x.1) (λa b h e=>h (by rw[e])) hv.kd) (λe he=>he) d;obtain⟨srt,e1,p,s1⟩:=AbC (l:=dvE d g.vouches.es) aa;have hsr:∀q:Bk,q.Perm (dvE d g.vouches.es)->inZ q=some srt:=λq hk=>Adr s1 (hk.trans p.symm) (by rw[p.length_eq];omega);have hda:AcF g d=srt:=by unfold AcF;rw[e1];rfl
   dsimp only;rw[hda];have hadd:∀seen (e:C4×Int×Nat),e∈g.vouches.es->dvE d (eQ g.vouches (seen++[e.2.2]))=dvE d (eQ g.vouches seen)++(if e.1.device=d then[e.2.1] else[]):=λseen e he=>by grind [Age,RT.toFxOk]
   rcases o with rfl|rfl|rfl
   all_goals
    refine pO 11100 (s0 88 gl (frP 8 hx++[(2,iG d)]) (stT hl) 14 14) [KJ 18 hlk] (rlT (Gf f0) f0 hR hl) ?_ (ρ:=Gf f0) (kd:=N3)
    refine pO 11111100 (s0 88 gl (frV 9 hx++[(2,iG d),(10,Iy)]) (stT hl) 14 14) [] (AhQ (Gf f0) hR hl) ?_ (ρ:=Gf f0) (kd:=N3)
    refine yl (Bs':=[]) [1,1,1,1,1,0,0] (J:=(s0 88 gl (frD hx d []) (stD hx hl g [] []) 16 14)) [] (AhQ ρD hR hl++[hc (rZ.imm [])]) ?_ (vs:=[3]) (kd:=kdV)
    refine dNx 11111101 ?_
    refine dMw 36 37 38 0 (iti:=14) (mi:=miV hx) (clock:=g.vouches.clk) (since:=g.vouches.clk) (T:=tMv) (ty:=tMv) (es:=XI BX iG g.vouches) (λseen=>(s0 88 gl (frD hx d (dvE d (eQ g.vouches seen))) (stD hx hl g seen (dvE d (eQ g.vouches seen))) 16 14)) (KsQ g.vouches) Aas (λe he=>by obtain⟨x,hx,rfl⟩:=Fl.1 he;exact hv.1.lt x hx) rfl (Le.refl _) (λseen=>aH) (λseen=>aH) (λseen=>⟨show 37<88 by decide,show 38<88 by decide⟩) (λB seen k w n hI hme hns c=>?_) (λseen hI hs=>?_)
    .obtain⟨e,he,s⟩:=Fl.1 hme
     simp only[Fu] at s
     obtain⟨rfl,rfl,rfl⟩:=s
     have hla:=Aav hv.kd hb (AlO hI) (λe he=>AjT he) d
     have c:=c (Aat hI he hns)
     rw[hadd seen e he] at c
     generalize dvE d (eQ g.vouches seen)=a at hla c⊢
     have hge:jr ((14,Aak tMv (miV hx) g.vouches.clk (seen++[e.2.2]))::stD hx hl g seen a) (.ref 14 0)=some (.tup [db (BX e.1),iG e.2.1]):=yo (iti:=14) (mi:=miV hx) (since:=g.vouches.clk) (clock:=g.vouches.clk) (T:=tMv) (ty:=tMv) (seen:=seen) aH aH (by rw[It];exact hv.1.nd) hme
     cases hdv:decide (e.1.device=d) with
     |false=>
      rw[BU (Lq hdv),Md] at c
      exact jw [YT 39 hge,hr 45 hdv] (hc (rfl:a.length=a.length)::AhQ ρD hR hl++[hc (rZ.imm a)]) c [] ρD kdV
     |true=>
      rw[Bz (DS hdv)] at c
      exact jw [YT 39 hge,hr 45 hdv,Tn 49 rZ 8 a e.2.1 aa] (hc (el (a++[e.2.1]))::AhQ ρV hR hl++[hc (rZ.imm (a++[e.2.1]))]) c [] ρV kdV
    .have hp:=Adw hv.1 hI λe he=>hs (BX e.1,iG e.2.1,e.2.2) (Fl.2 ⟨e,he,rfl⟩)
     have hpa:(dvE d (eQ g.vouches seen)).Perm (dvE d g.vouches.es):=(hp.filter _).map _
     generalize dvE d (eQ g.vouches seen)=a at hpa⊢
     have hi:=hsr a hpa
     have hsl:srt.length=a.length:=by rw[p.length_eq,hpa.length_eq]
     have hal:a.length<=6:=by rw[hpa.length_eq];exact h6
     have hlz:decide ((a.length:Int)<g.need)=decide (ah srt<g.need):=by unfold ah;rw[hsl]
     cases c1:decide (ah srt<g.need) with
     |true=>
      have hr:=hr2 0 26
      exact Hp f0 _ hR [tN 51 [15] 16 [(15,JG a)] [.rsl 15 0 a.length] [(0,JG srt)] (NN gl aa hi) ⟨⟨rfl,.inr ⟨rfl,rZ.imm a⟩⟩,trivial⟩ ⟨⟨rfl,.inr ⟨rfl,rZ.imm srt⟩⟩,trivial⟩,Go.Proofs.YtlijnaneopediaaGreatDoor.hr 59 (hlz.trans c1)] (Ww hl hr)
     |false=>
      have hge:g.need<=ah srt:=by have:=Lq c1;omega
      have hz0:aS srt 0=some (srt.getD 0 0):=by grind [au]
      have h71:fh prog 22 (.rsl 15 0 a.length) 0=some (.ref 15 (0+(0:Int).toNat*1)):=by rw[<-hsl];exact rZ.ixrZ 15 hz0
      have f:=rZ.p10Z tZ hz0
      have hw1:wI (g.need-1)=((g.need.toNat-1:Nat):Int):=by grind [bM]
      have hz1:aS srt (wI (g.need-1))=some (srt.getD (g.need.toNat-1) 0):=by grind [au]
      have h81:fh prog 22 (.rsl 15 0 a.length) (wI (g.need-1))=some (.ref 15 (0+(wI (g.need-1)).toNat*1)):=by rw[<-hsl];exact rZ.ixrZ 15 hz1
      have i:=rZ.p10Z tZ hz1
      obtain⟨y,gg,gn,t,z,go,r⟩:=g
      dsimp only at*
      cases go with
      |false=>
       have hr:=hr2 (wI (srt.getD (gn.toNat-1) 0+t)) 0
       exact Hp f0 _ hR [tN 51 [15] 16 [(15,JG a)] [.rsl 15 0 a.length] [(0,JG srt)] (NN gl aa hi) ⟨⟨rfl,.inr ⟨rfl,rZ.imm a⟩⟩,trivial⟩ ⟨⟨rfl,.inr ⟨rfl,rZ.imm srt⟩⟩,trivial⟩,Go.Proofs.YtlijnaneopediaaGreatDoor.hr 59 (hlz.trans c1),Az 81 h81,Az 82 i] (Ww hl hr)
      |true=>
       cases c2:decide (srt.getD 0 0<=r) with
       |true=>
        have hr:=hr2 0 28
        exact Hp f0 _ hR [tN 51 [15] 16 [(15,JG a)] [.rsl 15 0 a.length] [(0,JG srt)] (NN gl aa hi) ⟨⟨rfl,.inr ⟨rfl,rZ.imm a⟩⟩,trivial⟩ ⟨⟨rfl,.inr ⟨rfl,rZ.imm srt⟩⟩,trivial⟩,Go.Proofs.YtlijnaneopediaaGreatDoor.hr 59 (hlz.trans c1),Az 71 h71,Az 72 f,Go.Proofs.YtlijnaneopediaaGreatDoor.hr 73 c2] (Ww hl hr)
       |false=>
        have hr:=hr2 (wI (srt.getD (gn.toNat-1) 0+t)) 0
        exact Hp f0 _ hR [tN 51 [15] 16 [(15,JG a)] [.rsl 15 0 a.length] [(0,JG srt)] (NN gl aa hi) ⟨⟨rfl,.inr ⟨rfl,rZ.imm a⟩⟩,trivial⟩ ⟨⟨rfl,.inr ⟨rfl,rZ.imm srt⟩⟩,trivial⟩,Go.Proofs.YtlijnaneopediaaGreatDoor.hr 59 (hlz.trans c1),Az 71 h71,Az 72 f,Go.Proofs.YtlijnaneopediaaGreatDoor.hr 73 c2,Az 81 h81,Az 82 i] (Ww hl hr)
def Agf(R:Ad)(o:Bi):Int:=bif o.Guards.any λd=> !O4 R d then 17 else 0
def Aeg(R:Ad)(o:Bi):Int:=bif (Dd R o).2≠0 then(Dd R o).2 else bif Dl R o.Device≠(Dd R o).1 then 16 else bif D3 R o.Device then 0 else 17
def AjV(R:Ad)(o:Bi)(w:Int):Bool:=bif O4 R o.Old then(bif Dl R o.Old≠w then true else bif D3 R o.Device then decide (Dl R o.Device≠w)else true)else true
def Aeh(R:Ad)(o:Bi):Int:=bif (Dd R o).2≠0 then(Dd R o).2 else bif AjV R o (Dd R o).1 then 17 else bif (X8 R (Dd R o).1 o.Device).2=0 then(bif o.At<(X8 R (Dd R o).1 o.Device).1 then 27 else 0)else(X8 R (Dd R o).1 o.Device).2
theorem AhR(R:Ad){o:Bi}(hg:o.Guards.length<=1000000)(m:Int):ba prog gl 417 [.ptr (CB R) 0,.agg (aJ o),iG m] (iG (Agf R o)):=XT gl (by grind [VC,AbB,Oh,O4,Agf])
theorem AhS(hR:Bh R)(o:Bi)(m:Int):SE prog gl 420 [.ref 0 0,.agg (aJ o),iG m] (BG f0 R) 14 14 (iG (Aeg R o)) (BG f0 R):=by
 refine dFP func420 ?_;have hg:=T9 gl hR o;unfold Aeg;generalize Dd R o=we at hg⊢;obtain⟨w,e⟩:=we;dsimp only at hg⊢;have hre:bB (iG e):=mN _;have hr16:bB (iG 16):=mN _;have hr17:bB (iG 17):=mN _;have hr0:bB (iG 0):=mN _;cases c1:decide (e≠0) with
 |true=>exact Hp f0 _ hR [hrr 12 f0 15 [.agg (aJ o)] hR hg,hr 17 c1] (HC R hre)
 |false=>
  cases c2:decide (Dl R o.Device≠w) with
  |true=>exact Hp f0 _ hR [hrr 12 f0 15 [.agg (aJ o)] hR hg,hr 17 c1,hof gl 23 hR o.Device 15,hr 25 c2] (HC R hr16)
  |false=>
   cases c3:D3 R o.Device with
   |true=>exact Hp f0 _ hR [hrr 12 f0 15 [.agg (aJ o)] hR hg,hr 17 c1,hof gl 23 hR o.Device 15,hr 25 c2,hfr gl 30 hR c3 15] (HC R hr0)
   |false=>exact Hp f0 _ hR [hrr 12 f0 15 [.agg (aJ o)] hR hg,hr 17 c1,hof gl 23 hR o.Device 15,hr 25 c2,hfr gl 30 hR c3 15] (HC R hr17)
theorem AhT(hR:Bh R)(o:Bi)(m:Int):SE prog gl 421 [.ref 0 0,.agg (aJ o),iG m] (BG f0 R) 14 14 (iG (Aeh R o)) (BG f0 R):=by
 refine dFP func421 ?_;have hg:=T9 gl hR o;have hin:=AhB R o.Old;unfold Aeh;generalize Dd R o=we at hg⊢;obtain⟨w,e⟩:=we;dsimp only at hg⊢;have hre:bB (iG e):=mN _;have hr17:bB (iG 17):=mN _;have hr27:bB (iG 27):=mN _;have hr0:bB (iG 0):=mN _;cases c1:decide (e≠0) with
 |true=>exact Hp f0 _ hR [hrr 13 f0 15 [.agg (aJ o)] hR hg,hr 18 c1] (HC R hre)
 |false=>
  unfold AjV;cases c2:O4 R o.Old with
  |false=>rw[c2] at hin;exact Hp f0 _ hR [hrr 13 f0 15 [.agg (aJ o)] hR hg,hr 18 c1,KJ 27 hin] (HC R hr17)
  |true=>
   rw[c2] at hin;cases c3:decide (Dl R o.Old≠w) with
   |true=>exact Hp f0 _ hR [hrr 13 f0 15 [.agg (aJ o)] hR hg,hr 18 c1,KJ 27 hin,hof gl 33 hR o.Old 15,hr 35 c3] (HC R hr17)
   |false=>
    cases c4:D3 R o.Device with
    |false=>exact Hp f0 _ hR [hrr 13 f0 15 [.agg (aJ o)] hR hg,hr 18 c1,KJ 27 hin,hof gl 33 hR o.Old 15,hr 35 c3,hfr gl 40 hR c4 15] (HC R hr17)
    |true=>
     cases c5:decide (Dl R o.Device≠w) with
     |true=>exact Hp f0 _ hR [hrr 13 f0 15 [.agg (aJ o)] hR hg,hr 18 c1,KJ 27 hin,hof gl 33 hR o.Old 15,hr 35 c3,hfr gl 40 hR c4 15,hof gl 46 hR o.Device 15,hr 48 c5] (HC R hr17)
     |false=>
      have hd:=AjU gl hR w o.Device;generalize X8 R w o.Device=de at hd⊢;obtain⟨a,e2⟩:=de;dsimp only[AQ,ax] at hd⊢;have hre2:bB (iG e2):=mN _;cases c6:decide (e2=0) with
      |false=>exact Hp f0 _ hR [hrr 13 f0 15 [.agg (aJ o)] hR hg,hr 18 c1,KJ 27 hin,hof gl 33 hR o.Old 15,hr 35 c3,hfr gl 40 hR c4 15,hof gl 46 hR o.Device 15,hr 48 c5,hrr 55 f0 15 [iG w,iG o.Device] hR hd,hr 59 c6] (HC R hre2)
      |true=>
       cases c7:decide (o.At<a) with
       |true=>exact Hp f0 _ hR [hrr 13 f0 15 [.agg (aJ o)] hR hg,hr 18 c1,KJ 27 hin,hof gl 33 hR o.Old 15,hr 35 c3,hfr gl 40 hR c4 15,hof gl 46 hR o.Device 15,hr 48 c5,hrr 55 f0 15 [iG w,iG o.Device] hR hd,hr 59 c6,hr 64 c7] (HC R hr27)
       |false=>have:e2=0:=DS c6;subst this;exact Hp f0 _ hR [hrr 13 f0 15 [.agg (aJ o)] hR hg,hr 18 c1,KJ 27 hin,hof gl 33 hR o.Old 15,hr 35 c3,hfr gl 40 hR c4 15,hof gl 46 hR o.Device 15,hr 48 c5,hrr 55 f0 15 [iG w,iG o.Device] hR hd,hr 59 c6,hr 64 c7] (HC R hr0)
def AcG(R:Ad)(o:Bi)(m:Int):Int:=if o.Kind=2 then Aga R o m else if o.Kind=3 then Aef R o m else if o.Kind=5 then Agb R o m else if o.Kind=6 then Agc R m else if o.Kind=8 then Agd R o m else if o.Kind=9 then Agf R o else if o.Kind=10 then AbG R o m else if o.Kind=11 then Aeg R o else if o.Kind=12 then AbG R o m else if o.Kind=13 then Aeh R o else 0
def K4(R:Ad)(o:Bi):Int:=if o.Kind=1 then(bif Dl R o.By=0 then 17 else bif 0<(R.was.es.length:Int)then 5 else 0)else bif O4 R o.By then AcG R o (Dl R o.By)else 15
abbrev tAs:Bn:=269
theorem Ant{z:Int}(hz:z=(k:Int))(hk:k<14):fh prog tAs (.ptr IU 0) z=some (.ptr IU k):=by
 subst hz;rcases(by omega:k=0\/k=1\/k=2\/k=3\/k=4\/k=5\/k=6\/k=7\/k=8\/k=9\/k=10\/k=11\/k=12\/k=13) with rfl|rfl|rfl|rfl|rfl|rfl|rfl|rfl|rfl|rfl|rfl|rfl|rfl|rfl
 all_goals kernel_rfl
abbrev AlP(R:Ad)(o:Bi)(i:Ab)(r:Int):Prop:=SE prog fI 118 [.ref 0 0,.agg (aJ o),.agg (aj i)] (BG f0 R) 14 14 (iG r) (BG f0 R)
theorem Anu{o:Bi}{m:Int}:∀x∈[G.agg (aJ o),iG m],bB x:=λx hx=>by
 simp only[EH,Lu,or_false] at hx;rcases hx with rfl|rfl
 .exact aG 20 _ aH
 .exact mN _
abbrev hla(d:Nat){R:Ad}(hR:Bh R){f:FuncId}{o:Bi}{m r:Int}(h:ba prog fI f [.ptr (CB R) 0,.agg (aJ o),iG m] (iG r))(hc:aK prog f=true:=by kernel_rfl):HP:=hrl d f0 16 hR h Anu (lR _) (hc:=hc)
theorem AcH(hR:Bh R){o:Bi}{i:Ab}(hg:o.Guards.length<=1000000):AlP R o i (K4 R o):=by
 refine dFP func118 ?_;have hi0:∀r:Int,bB (iG r):=λr=>mN _;have hin:=AhB R o.By;unfold K4;split
 .rename_i hk;have a1:decide (o.Kind=1)=true:=CM hk;have hle:decide (0<((XI JM bG R.was).length:Int))=decide (0<(R.was.es.length:Int)):=by rw[Hq]
  have c:=hi0 17;have h5:=hi0 5;have h0:=hi0 0;cases c1:decide (Dl R o.By=0) with
  |true=>exact Hp f0 _ hR [hr 9 a1,hof fI 14 hR o.By 16,hr 15 c1] (HC R c)
  |false=>
   cases c2:decide (0<(R.was.es.length:Int)) with
   |true=>exact Hp f0 _ hR [hr 9 a1,hof fI 14 hR o.By 16,hr 15 c1,hr 22 (hle.trans c2)] (HC R h5)
   |false=>exact Hp f0 _ hR [hr 9 a1,hof fI 14 hR o.By 16,hr 15 c1,hr 22 (hle.trans c2)] (HC R h0)
 .rename_i hk1;have a1:decide (o.Kind=1)=false:=C5 hk1;cases hb:O4 R o.By with
  |false=>rw[hb] at hin;have d:=hi0 15;exact Hp f0 _ hR [hr 9 a1,KJ 29 hin] (HC R d)
  |true=>
   rw[hb] at hin;rw[ax];have h0:=hi0 0;by_cases hlo:o.Kind<0
   .have:AcG R o (Dl R o.By)=0:=by unfold AcG;repeat rw[BU aa]
    rw[this];exact Hp f0 _ hR [hr 9 a1,KJ 29 hin,hr 33 (CM hlo)] (HC R h0)
   by_cases hhi:14<=o.Kind
   .have:AcG R o (Dl R o.By)=0:=by unfold AcG;repeat rw[BU aa]
    rw[this];exact Hp f0 _ hR [hr 9 a1,KJ 29 hin,hr 33 (C5 hlo),hr 37 (show decide (14<=o.Kind)=true from CM hhi)] (HC R h0)
   have a33:decide (o.Kind<0)=false:=C5 hlo;have a37:decide (14<=o.Kind)=false:=C5 hhi;unfold AcG;obtain⟨k,hk,b⟩:∃k:Nat,o.Kind=(k:Int)/\k<14:=⟨o.Kind.toNat,aa,aa⟩;have a:=Ant hk b;rcases(by omega:k=0\/k=1\/k=2\/k=3\/k=4\/k=5\/k=6\/k=7\/k=8\/k=9\/k=10\/k=11\/k=12\/k=13) with rfl|rfl|rfl|rfl|rfl|rfl|rfl|rfl|rfl|rfl|rfl|rfl|rfl|rfl
   .repeat rw[BU aa]
    exact Hp f0 _ hR [hr 9 a1,KJ 29 hin,hr 33 a33,hr 37 a37,Az 42 a] (HC R h0)
   .exact absurd hk hk1
   .rw[Bz aa];have hr0:=hi0 (Aga R o (Dl R o.By));exact Hp f0 _ hR [hr 9 a1,KJ 29 hin,hr 33 a33,hr 37 a37,Az 42 a,Az 48 a,hof fI 55 hR o.By 16,hla 56 hR (AhL fI R o (Dl R o.By))] (HC R hr0)
   .repeat rw[BU aa]
    rw[Bz aa];have hr0:=hi0 (Aef R o (Dl R o.By));exact Hp f0 _ hR [hr 9 a1,KJ 29 hin,hr 33 a33,hr 37 a37,Az 42 a,Az 48 a,hof fI 55 hR o.By 16,hla 56 hR (AhM fI R o (Dl R o.By))] (HC R hr0)
   .repeat rw[BU aa]
    exact Hp f0 _ hR [hr 9 a1,KJ 29 hin,hr 33 a33,hr 37 a37,Az 42 a] (HC R h0)
   .repeat rw[BU aa]
    rw[Bz aa];have hr0:=hi0 (Agb R o (Dl R o.By));exact Hp f0 _ hR [hr 9 a1,KJ 29 hin,hr 33 a33,hr 37 a37,Az 42 a,Az 48 a,hof fI 55 hR o.By 16,hla 56 hR (AhN fI R o (Dl R o.By))] (HC R hr0)
   .repeat rw[BU aa]
    rw[Bz aa];have hr0:=hi0 (Agc R (Dl R o.By));exact Hp f0 _ hR [hr 9 a1,KJ 29 hin,hr 33 a33,hr 37 a37,Az 42 a,Az 48 a,hof fI 55 hR o.By 16,hla 56 hR (AhO fI R o (Dl R o.By))] (HC R hr0)
   .repeat rw[BU aa]
    exact Hp f0 _ hR [hr 9 a1,KJ 29 hin,hr 33 a33,hr 37 a37,Az 42 a] (HC R h0)
   .repeat rw[BU aa]
    rw[Bz aa];have hr0:=hi0 (Agd R o (Dl R o.By));exact Hp f0 _ hR [hr 9 a1,KJ 29 hin,hr 33 a33,hr 37 a37,Az 42 a,Az 48 a,hof fI 55 hR o.By 16,hla 56 hR (AhP fI R o (Dl R o.By))] (HC R hr0)
   .repeat rw[BU aa]
    rw[Bz aa];have hr0:=hi0 (Agf R o);exact Hp f0 _ hR [hr 9 a1,KJ 29 hin,hr 33 a33,hr 37 a37,Az 42 a,Az 48 a,hof fI 55 hR o.By 16,hla 56 hR (AhR fI R hg (Dl R o.By))] (HC R hr0)
   .repeat rw[BU aa]
    rw[Bz aa];have hr0:=hi0 (AbG R o (Dl R o.By));exact Hp f0 _ hR [hr 9 a1,KJ 29 hin,hr 33 a33,hr 37 a37,Az 42 a,Az 48 a,hof fI 55 hR o.By 16,hla 56 hR (Adv fI R o (Dl R o.By))] (HC R hr0)
   .repeat rw[BU aa]
    rw[Bz aa];have hr0:=hi0 (Aeg R o);exact Hp f0 _ hR [hr 9 a1,KJ 29 hin,hr 33 a33,hr 37 a37,Az 42 a,Az 48 a,hof fI 55 hR o.By 16,hrr 56 f0 16 [.agg (aJ o),iG (Dl R o.By)] hR (AhS fI hR o (Dl R o.By))] (HC R hr0)
   .repeat rw[BU aa]
    rw[Bz aa];have hr0:=hi0 (AbG R o (Dl R o.By));exact Hp f0 _ hR [hr 9 a1,KJ 29 hin,hr 33 a33,hr 37 a37,Az 42 a,Az 48 a,hof fI 55 hR o.By 16,hla 56 hR (Adv fI R o (Dl R o.By))] (HC R hr0)
   .repeat rw[BU aa]
    rw[Bz aa];have hr0:=hi0 (Aeh R o);exact Hp f0 _ hR [hr 9 a1,KJ 29 hin,hr 33 a33,hr 37 a37,Az 42 a,Az 48 a,hof fI 55 hR o.By 16,hrr 56 f0 16 [.agg (aJ o),iG (Dl R o.By)] hR (AhT fI hR o (Dl R o.By))] (HC R hr0)
structure Gi where
 op:Ab->Option Bi
 bef:Ab->Ab->Bool
 lev:Ab->Int
 cards:Mj
 card:Int->Option DP
def Gi.o(I:Gi)(x:Ab):Bi:=(I.op x).getD ip
def WA:DP:=⟨0,0,0,0,0⟩
structure O8 (gl:Cd) (gg:Aj) (I:Gi):Prop where
 op:∀x,ba prog gl 57 [.ptr (Ag gg) 0,.agg (aj x)] (.tup [.agg (aJ (I.o x)),bG (I.op x).isSome])
 bef:∀x y,ba prog gl 23 [.ptr (Ag gg) 0,.agg (aj x),.agg (aj y)] (bG (I.bef x y))
 lev:∀x,ba prog gl 211 [.ptr (Ag gg) 0,.agg (aj x)] (iG (I.lev x))
 cards:ba prog gl 67 [.ptr (Ag gg) 0] (aE bv I.cards)
 card:∀d,ba prog gl 80 [.ptr (Ag gg) 0,iG d] (.tup [.agg (bv ((I.card d).getD WA)),bG (I.card d).isSome])
def Zb(I:Gi)(x:Bi)(d:Int):Bool:=bif x.Kind=13 then decide (d=x.Old)else bif x.Device≠0 then decide (d=x.Device)else bif(I.card d).isSome then decide (((I.card d).getD WA).Member=x.Member)else false
def AhU(I:Gi)(a b:Bi):Bool:=bif a.Kind=3 then Zb I a b.By else bif a.Kind=13 then(bif decide (b.Kind=12)&&decide (a.Of=b.Of)then false else Zb I a b.By)else bif a.Kind=12 then(decide (b.Kind=13)&&decide (b.Of=a.Of)&&decide (a.At<=b.At))else false
def DG(I:Gi)(x y:Ab):Bool:=(I.op x).isSome&&(I.op y).isSome&& !decide (x=y)&& !I.bef y x&& !I.bef x y&&AhU I (I.o x) (I.o y)
section
variable {gl:Cd} {gg:Aj} {I:Gi} (h:O8 gl gg I)
include h
theorem Agg(x:Bi)(d:Int):ba prog gl 275 [.ptr (Ag gg) 0,.agg (aJ x),iG d] (bG (Zb I x d)):=by
 have hc:=h.card d;unfold Zb;refine Gh func275 ?_;cases b1:decide (x.Kind=13) with
 |true=>exact Ar [hr 11 b1] []
 |false=>
  cases b2:decide (x.Device≠0) with
  |true=>exact Ar [hr 11 b1,hr 18 b2] []
  |false=>
   cases b3:(I.card d).isSome with
   |false=>rw[b3] at hc;exact Ar [hr 11 b1,hr 18 b2,hf 26 hc] []
   |true=>rw[b3] at hc;exact Ar [hr 11 b1,hr 18 b2,hf 26 hc] []
theorem Ub(x y:Ab):ba prog gl 179 [.ptr (Ag gg) 0,.agg (aj x),.agg (aj y)] (bG (DG I x y)):=by
 have h1:=h.op x;have h2:=h.op y;have h3:=h.bef y x;have h4:=h.bef x y;have hg:=Agg h (I.o x) (I.o y).By;unfold DG;generalize I.o x=a at h1 hg⊢;generalize I.o y=b at h2 hg⊢;refine Gh func179 ?_;cases c1:(I.op x).isSome with
 |false=>rw[c1] at h1;exact Ar [hf 15 h1,hf 21 h2] []
 |true=>
  rw[c1] at h1;cases c2:(I.op y).isSome with
  |false=>rw[c2] at h2;exact Ar [hf 15 h1,hf 21 h2] []
  |true=>
   rw[c2] at h2;cases c3:decide (x=y) with
   |true=>exact Ar [hf 15 h1,hf 21 h2,hV 33 (dU x y c3)] []
   |false=>
    cases c4:I.bef y x with
    |true=>rw[c4] at h3;exact Ar [hf 15 h1,hf 21 h2,hV 33 (dU x y c3),hf 39 h3] []
    |false=>
     rw[c4] at h3;cases c5:I.bef x y with
     |true=>rw[c5] at h4;exact Ar [hf 15 h1,hf 21 h2,hV 33 (dU x y c3),hf 39 h3,hf 45 h4] []
     |false=>
      rw[c5] at h4;unfold AhU;cases k3:decide (a.Kind=3) with
      |true=>
       have k13:decide (a.Kind=13)=false:=by rw[DS k3];rfl
       exact Ar [hf 15 h1,hf 21 h2,hV 33 (dU x y c3),hf 39 h3,hf 45 h4,hr 50 k3,hr 54 k13,hf 74 hg] []
      |false=>
       cases k13:decide (a.Kind=13) with
       |true=>
        cases j12:decide (b.Kind=12) with
        |false=>exact Ar [hf 15 h1,hf 21 h2,hV 33 (dU x y c3),hf 39 h3,hf 45 h4,hr 50 k3,hr 51 k13,hr 54 k13,hr 58 j12,hf 74 hg] []
        |true=>
         cases jo:decide (a.Of=b.Of) with
         |true=>exact Ar [hf 15 h1,hf 21 h2,hV 33 (dU x y c3),hf 39 h3,hf 45 h4,hr 50 k3,hr 51 k13,hr 54 k13,hr 58 j12,hV 65 (dU a.Of b.Of jo)] []
         |false=>exact Ar [hf 15 h1,hf 21 h2,hV 33 (dU x y c3),hf 39 h3,hf 45 h4,hr 50 k3,hr 51 k13,hr 54 k13,hr 58 j12,hV 65 (dU a.Of b.Of jo),hf 74 hg] []
       |false=>
        cases k12:decide (a.Kind=12) with
        |false=>exact Ar [hf 15 h1,hf 21 h2,hV 33 (dU x y c3),hf 39 h3,hf 45 h4,hr 50 k3,hr 51 k13,hr 77 k12] []
        |true=>
         cases j13:decide (b.Kind=13) with
         |false=>exact Ar [hf 15 h1,hf 21 h2,hV 33 (dU x y c3),hf 39 h3,hf 45 h4,hr 50 k3,hr 51 k13,hr 77 k12,hr 80 j13] []
         |true=>
          cases jo:decide (b.Of=a.Of) with
          |false=>exact Ar [hf 15 h1,hf 21 h2,hV 33 (dU x y c3),hf 39 h3,hf 45 h4,hr 50 k3,hr 51 k13,hr 77 k12,hr 80 j13,hV 86 (dU b.Of a.Of jo)] []
          |true=>exact Ar [hf 15 h1,hf 21 h2,hV 33 (dU x y c3),hf 39 h3,hf 45 h4,hr 50 k3,hr 51 k13,hr 77 k12,hr 80 j13,hV 86 (dU b.Of a.Of jo)] []
end
def O6(c k:Nat):Nat:=c+k
theorem AhV(hR:Bh R)(c:Nat):Abi (kO [] [] 0 14 c) (BG f0 R) (BG (O6 c) R):=λi o h0=>by
 rw[Hw] at h0;obtain⟨k,hk,e,h⟩:=LB h0;subst e;have hκ:∀k,(∃ob,Bv f0 R k=some ob)->kO [] [] 0 14 c (f0 k)=some (O6 c k):=λk ⟨ob,h⟩=>by have:=DY h;show(bif Nat.blt k 0 then _ else bif Nat.blt k (0+14)then some (c+(k-0))else none)=_;rw[show Nat.blt k 0=false from by cases hb:Nat.blt k 0 with|false=>rfl|true=>simp_all,show Nat.blt k (0+14)=true from Re aa];rfl
 obtain⟨a,h1,h2⟩:=PL hκ hR k o h;grind [JX]
theorem AcI{κ:Nat->Fs}:InP κ [] [] []:=λk o0 h=>by cases h
def hrn(d c:Nat)(args:Bj){P:Br}{gl:Cd}{fid:FuncId}{args0:Bj}{R:Ad}(hR:Bh R)(hM:SE P gl fid args0 [] 0 0 (.ref 0 0) (BG f0 R))(hc:aK P fid=true:=by kernel_rfl)(hgs:args.map (qg (vi []) 20)=args0:=by kernel_rfl):HP:=
 hfm d [] 0 14 c [] args (BG (O6 c) R) hM AcI (AhV hR c) hc rfl rfl hgs
def RU(I:Gi)(id:Ab)(R:Ad)(x:Ab):Ad:=bif I.bef x id then U0 R (I.o x) x else R
def NQ(I:Gi)(l:A3)(id:Ab):Ad:=l.foldl (RU I id) (Hl I.cards)
structure AbH (gl:Cd) (l:Bb) (I:Gi):Prop where
 g:O8 gl l.g I
 c:Aee I.cards
 o:∀x∈l.row,UE (I.o x) x
 n:l.row.length<=1000
theorem AhW{I:Gi}{id:Ab}(hR:Bh R)(hx:UE (I.o x) x):Bh (RU I id R x):=by grind [RU,R4]
theorem Adx{I:Gi}{id:Ab}:∀{l:A3} {R:Ad},Bh R->(∀x∈l,UE (I.o x) x)->Bh (l.foldl (RU I id) R)
 |[],R,h,_=>h
 |x::r,R,h,hx=>Adx (l:=r) (AhW h (hx x aC)) (by grind)
theorem Aaw{I:Gi}(hc:Aee I.cards){l:A3}(h:∀x∈l,UE (I.o x) x)(id:Ab):Bh (NQ I l id):=Adx (Lw hc.r) h
section
variable {gl:Cd}
end
abbrev Bt(l:A3):Option Ob:=some ⟨36,l.flatMap aj,none⟩
def AlQ(ρ:DD)(f f':Nat->Nat):Bool:=L0.all λk=>match I1 ρ (f k) with|some j=>Nat.beq j (f' k)|none=>false
theorem AhX{ρ:DD}{f f':Nat->Nat}(h:AlQ ρ f f'=true)(hk:k<14):I1 ρ (f k)=some (f' k):=by have:=Hd.1 h k (by have:k∈List.range 14:=List.mem_range.2 hk;exact this);grind [bc]
abbrev rlC(ρ:DD)(f f':Nat->Nat){R:Ad}(hR:Bh R)(h:AlQ ρ f f'=true:=by kernel_rfl):List HP:=L0.map λk=>hc (PL (κ:=I1 ρ) (f:=f) (f':=f') (λk ⟨ob,hk⟩=>AhX h (DY hk)) hR k)
abbrev kd1:List (Nat×Rk):=(0,.row)::L0.map λk=>(k+1,.any)
abbrev stO(l:A3)(c:Nat)(R:Ad):aQ:=(0,Bt l)::BG (O6 c) R
abbrev ρe0:DD:=[(0,0),(1,2),(2,3),(3,4),(4,5),(5,6),(6,7),(7,8),(8,9),(9,10),(10,11),(11,12),(12,13),(13,14),(14,15),(15,1)]
abbrev ρe1:DD:=[(0,0),(1,1),(2,2),(3,3),(4,4),(5,5),(6,6),(7,7),(8,8),(9,9),(10,10),(11,11),(12,12),(13,13),(14,14),(15,15)]
abbrev ρe2:DD:=[(0,0),(1,1),(2,2),(3,3),(4,4),(5,5),(6,18),(7,19),(8,20),(9,21),(10,22),(11,23),(12,24),(13,25),(14,26),(15,15)]
abbrev ρe3:DD:=[(0,0),(1,1),(2,2),(3,3),(4,4),(5,5),(6,6),(7,7),(8,8),(9,9),(10,10),(11,11),(12,12),(13,13),(14,14)]
section
variable {gl:Cd}
theorem Ady{gg:Aj}{I:Gi}(h:O8 gl gg I)(hc:Aee I.cards){al:Bb}(hal:al.g=gg)(hl:∀x∈l,UE (I.o x) x)(hn:l.length<=1000)(id:Ab):SE prog gl 182 [.ptr (BB al) 0,.rsl 0 0 l.length,.agg (aj id)] [(0,Bt l)] 1 1 (.ref 1 0) (stO l 1 (NQ I l id)):=by
 subst hal;have hQ:∀k,Bh (NQ I (l.take k) id):=λk=>Aaw hc (λx hx=>hl x (List.mem_of_mem_take hx)) id;refine dFP func182 ?_;refine Za (l:=l) aa (λk:Nat=>(s0 46 gl [(0,.ptr (BB al) 0),(5,.ref 15 0),(7,.ref 1 0),(18,.rsl 0 0 l.length),(19,iG (ah l)),(20,iG (k:Int))] (stO l 1 (NQ I (l.take k) id)++[(15,Xj id)]) 16 1)) 1110122 [hf 16 h.cards,hrn 17 2 [aE bv I.cards] (Lw hc.r) (Af9 gl hc)] (Go.Proofs.YtlijnaneopediaaGreatDoor.hc (el l)::Go.Proofs.YtlijnaneopediaaGreatDoor.hc (ac.imm l)::rlC ρe0 (O6 2) (O6 1) (hQ 0)) (λB k x hx hz k5=>?_) (λB=>?_) [] ρe0 kd1
 .have hlt:=(cr hx).1;have hq:=hQ k;have a:=hl x (bO hx);have hb:=h.bef x id;unfold NQ at k5 hq⊢;rw[Hr,hx,Option.toList_some,LX,List.foldl_cons,List.foldl_nil] at k5;generalize (l.take k).foldl (RU I id) (Hl I.cards)=Q at hq k5⊢;unfold RU at k5;cases c1:I.bef x id with
  |false=>rw[c1] at hb k5;exact jw [hr 21 (C3 hx),Az 22 (ac.ixrZ 0 hz),Az 23 (ac.pt0Z aW hz),hf 30 hb,hbb 44 (Xl (q:=k) aa)] (Go.Proofs.YtlijnaneopediaaGreatDoor.hc (el l)::Go.Proofs.YtlijnaneopediaaGreatDoor.hc (ac.imm l)::rlC ρe1 (O6 1) (O6 1) hq) k5 [] ρe1 kd1
  |true=>rw[c1] at hb k5;have b:=R4 hq a;exact jw [hr 21 (C3 hx),Az 22 (ac.ixrZ 0 hz),Az 23 (ac.pt0Z aW hz),hf 30 hb,hf 37 (h.op x),hrw 43 (O6 1) 18 [.agg (aJ (I.o x)),.agg (aj x)] hq b (Af8 gl hq a),hbb 44 (Xl (q:=k) aa)] (Go.Proofs.YtlijnaneopediaaGreatDoor.hc (el l)::Go.Proofs.YtlijnaneopediaaGreatDoor.hc (ac.imm l)::rlC ρe2 (fW (O6 1) 18) (O6 1) b) k5 [] ρe2 kd1
 .rw[DZ];exact ZT [hr 21 (D4 (s:=l))] (Go.Proofs.YtlijnaneopediaaGreatDoor.hc (ac.imm l)::rlC ρe3 (O6 1) (O6 1) (Aaw hc hl id)) ρe3 kd1
def Ha(I:Gi)(vd:FM Ab Bool)(out:A3)(x:Ab):A3:=bif AB (vd.get x)then out else bif K4 (NQ I out x) (I.o x)=0 then out++[x]else out
def EA(I:Gi)(al:Bb):A3:=al.row.foldl (Ha I al.void) []
theorem Aei{I:Gi}{vd:FM Ab Bool}{out:A3}{y:Ab}(h:y∈Ha I vd out x):y∈out\/y=x:=by grind [Ha]
theorem Aej{I:Gi}{vd:FM Ab Bool}{out:A3}:(Ha I vd out x).length<=out.length+1:=by grind [Ha]
theorem Td{I:Gi}{vd:FM Ab Bool}:∀{l out:A3},(∀y∈l.foldl (Ha I vd) out,y∈out\/y∈l)/\(l.foldl (Ha I vd) out).length<=out.length+l.length
 |[],out=>(by grind)
 |x::r,out=>by obtain⟨h1,h2⟩:=Td (I:=I) (vd:=vd) (l:=r) (out:=Ha I vd out x);grind [Aei,Aej]
end
theorem AcJ{κ:Nat->Fs}(l:A3):InP κ [0] [(0,Bt l)] [(0,Bt l)]:=λk o0 h=>by
 rw[Bc] at h;split at h
 .rename_i e;subst e;exact⟨0,o0,rfl,by rw[Bc,Bz rfl];exact h,by cases h;exact⟨rfl,.inr ⟨rfl,ac.imm l⟩⟩⟩
 .cases h
theorem AhY{c a b:Nat}(h:O6 c a=O6 c b):a=b:=Nat.add_left_cancel h
theorem Aax(hR:Bh R)(l:A3)(c:Nat):Abi (kO [(0,Bt l)] [0] 1 14 c) (stO l 1 R) ((0,Bt l)::BG (O6 c) R):=λi o h0=>by
 rw[Bc] at h0;split at h0
 .rename_i e;subst e;exact⟨0,o,rfl,by grind,by cases h0;exact⟨rfl,.inr ⟨rfl,ac.imm l⟩⟩⟩
 .rw[Hw] at h0;obtain⟨k,hk,e,h⟩:=LB h0;subst e;have hκ:∀k,(∃ob,Bv (O6 1) R k=some ob)->kO [(0,Bt l)] [0] 1 14 c (O6 1 k)=some (O6 c k):=λk ⟨ob,h⟩=>by have:=DY h;unfold kO O6;rw[show Nat.blt (1+k) 1=false from by cases hb:Nat.blt (1+k) 1 with|false=>rfl|true=>simp_all,show Nat.blt (1+k) (1+14)=true from Re aa,Nat.add_sub_cancel_left];rfl
  obtain⟨d,h1,h2⟩:=PL hκ hR k o h;refine⟨O6 1 k,d,hκ k ⟨d,h1⟩,?_,h2⟩;show ag ((0,Bt l)::BG (O6 1) R) (O6 1 k)=_;rw[Bc,BU (by unfold O6;omega),Hw,LA (λa _ b _ e=>AhY e) hk];exact h1
abbrev oGd(al:Bb)(I:Gi)(k:Nat):A3:=(al.row.take k).foldl (Ha I al.void) []
abbrev AlR(al:Bb)(l:A3)(k:Nat):St:=(s0 49 fI [(0,.ptr (BB al) 0),(3,.rsl 0 0 l.length),(11,aE aj al.row),(12,iG (ah al.row)),(13,iG (k:Int))] [(0,Bt l)] 1 0)
theorem Aay{al:Bb}{I:Gi}(h:AbH fI al I):iV prog fI 134 [.ptr (BB al) 0] 36 (EA I al).length ((EA I al).flatMap aj):=by
 have hn:=h.n;refine OW func134 ?_;refine Za (l:=al.row) aa (λk:Nat=>AlR al (oGd al I k) k) [1,1,0,1,2,2] [] [hc (ac.imm [])] (λB k x hx hz k5=>?_) (λB=>?_)
 .have hlt:=(cr hx).1;have hsub:=Td (I:=I) (vd:=al.void) (l:=al.row.take k) (out:=[]);have a:=h.o x (bO hx);have hle:(oGd al I k).length<=1000:=LV hsub.2 (by rw[LW];simp;omega);have hO:∀y∈oGd al I k,UE (I.o y) y:=λy hy=>by
   rcases hsub.1 y hy with h1|h1
   .cases h1
   .exact h.o y (List.mem_of_mem_take h1)
  unfold oGd at k5 hle hO⊢;rw[Hr,hx,Option.toList_some,LX,List.foldl_cons,List.foldl_nil] at k5;generalize (al.row.take k).foldl (Ha I al.void) []=l at k5 hle hO⊢;have hd:=Ady h.g h.c (al:=al) rfl hO hle x;have hq:=Aaw h.c hO x;unfold Ha at k5;have hw:=N9 al.void x;cases c1:AB (al.void.get x) with
  |true=>rw[c1] at k5 hw;exact jw [hr 14 (C3 hx),Az 15 (ac.ixZ hz),Az 16 (ac.ptZ aW hz),hf 23 (h.g.op x),hm 31 hw,hbb 47 (Xl (q:=k) aa)] [hc (el l),hc (ac.imm l)] k5
  |false=>
   rw[c1,AQ] at k5;rw[c1] at hw;have hm:=AcH (i:=x) hq a.g;generalize NQ I l x=R at hd hq hm k5;cases c2:decide (K4 R (I.o x)=0) with
   |false=>rw[c2] at k5;exact jw [hr 14 (C3 hx),Az 15 (ac.ixZ hz),Az 16 (ac.ptZ aW hz),hf 23 (h.g.op x),Go.Proofs.YtlijnaneopediaaGreatDoor.hm 31 hw,hfm 37 [0] 1 14 3 [(0,Bt l)] [.ptr (BB al) 0,.rsl 0 0 l.length,.agg (aj x)] ((0,Bt l)::BG (O6 3) R) hd (AcJ l) (Aax hq l 3),hrr 40 (O6 3) 17 [.agg (aJ (I.o x)),.agg (aj x)] hq hm,hr 41 c2,hbb 47 (Xl (q:=k) aa)] [hc (el l),hc (ac.imm l)] k5
   |true=>rw[c2] at k5;exact jw [hr 14 (C3 hx),Az 15 (ac.ixZ hz),Az 16 (ac.ptZ aW hz),hf 23 (h.g.op x),Go.Proofs.YtlijnaneopediaaGreatDoor.hm 31 hw,hfm 37 [0] 1 14 3 [(0,Bt l)] [.ptr (BB al) 0,.rsl 0 0 l.length,.agg (aj x)] ((0,Bt l)::BG (O6 3) R) hd (AcJ l) (Aax hq l 3),hrr 40 (O6 3) 17 [.agg (aJ (I.o x)),.agg (aj x)] hq hm,hr 41 c2,Tn 46 ac 24 l x aa,hbb 47 (Xl (q:=k) aa)] [hc (el (l++[x])),hc (ac.imm (l++[x]))] k5
 .unfold EA;show Gp _ _ _ _ _ _ (AlR al ((al.row.take al.row.length).foldl (Ha I al.void) []) _);rw[DZ];generalize al.row.foldl (Ha I al.void) []=l;exact EI [hr 14 (D4 (s:=al.row))] (ac.imm l)
def Ux(I:Gi)(x y z:Ab):Bool:=bif decide (z=x)||I.bef z x then DG I y z else false
def DQ(I:Gi)(row:A3)(x y:Ab):Bool:= !decide (x=y)&&row.any (Ux I x y)
section
variable {gl:Cd} {al:Bb} {I:Gi} (h:O8 gl al.g I)
include h
theorem Agh(x y z:Ab):ba prog gl 323 [.agg (aj z),.ptr (aj x) 0,.ptr [.ptr (BB al) 0] 0,.ptr (aj y) 0] (bG (Ux I x y z)):=by
 have hb:=h.bef z x;have hk:=Ub h y z;unfold Ux;refine Gh func323 ?_;cases c1:decide (z=x) with
 |true=>exact Ar [hV 8 (dU z x c1),hf 25 hk] []
 |false=>
  cases c2:I.bef z x with
  |true=>rw[c2] at hb;exact Ar [hV 8 (dU z x c1),hf 16 hb,hf 25 hk] []
  |false=>rw[c2] at hb;exact Ar [hV 8 (dU z x c1),hf 16 hb] []
theorem AbI(hn:al.row.length<=1000)(x y:Ab):ba prog gl 233 [.ptr (BB al) 0,.agg (aj x),.agg (aj y)] (bG (DQ I al.row x y)):=by
 have hv:R1 prog gl 323 [] [.ptr (aj x) 0,.ptr [.ptr (BB al) 0] 0,.ptr (aj y) 0] (λz:Ab=>[.agg (aj z)]) (λb:Bool=>bG b) (λz=>some (Ux I x y z)):=⟨aH,bf,eB aH,λz r e=>by cases e;exact Agh h x y z⟩;have hc:=kP gl hv (AbB (s:=al.row) (p:=Ux I x y) aa λ_ _=>rfl);unfold DQ;refine Gh func233 ?_;refine pO [1,0] (s0 18 gl [(3,.ptr [.ptr (BB al) 0] 0),(4,.ptr (aj x) 0),(5,.ptr (aj y) 0)] [] 0 0) [] [Go.Proofs.YtlijnaneopediaaGreatDoor.hc (eB (gs:=[.ptr (BB al) 0]) aH),Go.Proofs.YtlijnaneopediaaGreatDoor.hc (eB (gs:=aj x) aH),Go.Proofs.YtlijnaneopediaaGreatDoor.hc (eB (gs:=aj y) aH)] ?_ [] [];cases c1:decide (x=y) with
 |true=>exact Ar [hV 9 (dy x y (r:=false) (by rw[c1];rfl))] []
 |false=>exact Ar [hV 9 (dy x y (r:=true) (by rw[c1];rfl)),hf 16 hc] []
end
end
def unS(fn:Func):Func:={fn with body:=some (match ai fn with| .seq a (.scope c)=> .seq a c|c=>c)}
def Aiz:Code->Bool
 | .seq _ (.scope _)=>true
 |_=>false
theorem Aff{Q Q':Exit->St->Prop}{J:St}(hi:Aiz (ai fn)=true)(hQ:∀l s,¬Q (.goto l) s)(b:Q=Q')(h:Gp P (unS fn) Q' [] false [1] J):Gp P fn Q [] false [1] J:=by
 subst b;obtain⟨a,c,hc⟩:∃a c,ai fn= .seq a (.scope c):=by unfold Aiz at hi;grind
 have e:ai (unS fn)= .seq a c:=by grind [unS,ai]
 unfold Gp at h⊢;rw[e] at h;rw[hc];exact Pn (Tr.mono h λe s hx=>by
  cases e with
  |goto l=>obtain⟨s',_,h2⟩:Z1 P Q (.goto l) s:=hx;exact(hQ l s' h2).elim
  |_=>exact⟨rfl,hx⟩)
theorem AdT{r:G}:tH P fn r=tH P (unS fn) r:=by funext e s;unfold tH unS;rfl
section
attribute [local irreducible] Tr dz Gp
def AjW(p:Ab->Bool)(l:A3)(j:Nat):Option (Nat⊕Bool):=match l[j]? with
 |none=>some (.inr false)
 |some y=>bif p y then some (.inr true)else some (.inl (j+1))
theorem AjX{p:Ab->Bool}(hn:l.length<=1000):AH (AjW p l) 0=some (l.any p):=T.eq (T.loop (λj=>j<=l.length/\∀y∈l.take j,p y=false) (λj=>l.length-j) ⟨aa,aC⟩ aa λj ⟨hj,hI⟩=>by
 unfold AjW;cases hx:l[j]? with
 |none=>have:l.length<=j:=List.getElem?_eq_none_iff.1 hx;refine .some ?_;show false=l.any p;grind
 |some y=>
  have hlt:=(cr hx).1;dsimp only;cases hp:p y with
  |true=>exact .some (show true=l.any p from(by grind))
  |false=>refine .some ⟨⟨aa,λz hz=>?_⟩,aa⟩;grind [Hr])
def Sr(sen:FM Int Int)(d:Int):Int:=(sen.get d).getD 0
def upB(sen:FM Int Int)(l:A3)(b:Int)(k:Nat)(x:Ab):JI:=bif b<0 then some (k:Int)else(aS l b).bind λy=>bif Sr sen x.By<Sr sen y.By then some (k:Int)else some b
def X9(I:Gi)(row l:A3)(sen:FM Int Int)(s:Nat×Int):Option ((Nat×Int)⊕Int):=match l[s.1]? with
 |none=>bif Nat.beq s.1 l.length then some (.inr s.2)else none
 |some x=>bif l.any (DQ I row x)then(upB sen l s.2 s.1 x).bind λb=>some (.inl (s.1+1,b))else some (.inr (s.1:Int))
section
variable {gl:Cd} {al:Bb} {I:Gi} (h:O8 gl al.g I)
theorem Aaz(m:FM Int Int)(k:Int):∀σ,bL prog σ 265 false (FM.g JM iG m) (iG k)=some (iG (Sr m k)):=FM.look1 (et:=3) PC aH aH m k rfl
abbrev AiI(al:Bb)(l:A3)(sen:FM Int Int)(k:Nat)(b:Int):Fr:=[(0,.ptr (BB al) 0),(1,aE aj l),(2,FM.g JM iG sen),(7,iG b),(12,aE aj l),(13,iG (ah l)),(14,iG (k:Int))]
include h
theorem Agi(hn:al.row.length<=1000)(hl:l.length<=1000){sen:FM Int Int}{r:Int}(hr0:AH (X9 I al.row l sen) (0,-1)=some r):ba prog gl 231 [.ptr (BB al) 0,aE aj l,FM.g JM iG sen] (iG r):=by
 refine Gh func231 ?_;refine pO [1] (s0 50 gl [(0,.ptr (BB al) 0),(1,aE aj l),(2,FM.g JM iG sen)] [] 0 0) [] [] ?_ [] [];refine Aff (Q':=tH prog (unS Tryz.f231) (iG r)) aH (λl s hx=>by unfold tH at hx;rcases hx.1 with e|e<;>cases e) AdT ?_;refine pN (λs:Nat×Int=>(s0 50 gl (AiI al l sen s.1 s.2) [] 0 0)) 11110122 hr0 [] [] (λB s v hs k5 f=>?_) [] [];obtain⟨k,b⟩:=s;unfold X9 at hs;dsimp only at hs;split at hs
 .rename_i hx;cases c0:Nat.beq k l.length with
  |false=>rw[c0] at hs;cases hs
  |true=>rw[c0] at hs;obtain rfl:=Bo hs;obtain rfl:=bc c0;obtain rfl:=f _ rfl;exact Ar [hr 15 (D4 (s:=l))] []
 .rename_i x hx;have hz:=Bp hx;have hw:=λy=>AbI h hn x y;refine pN (λj:Nat=>(s0 50 gl ([(8,iG (k:Int)),(9,.ref 0 0),(19,aE aj l),(20,iG (ah l)),(21,iG (j:Int))]++AiI al l sen k b) [(0,Xj x)] 1 0)) 11110122110210122 (AjX (p:=DQ I al.row x) hl) [hr 15 (C3 hx),Az 17 (ac.ixZ hz),Az 18 (ac.ptZ aW hz)] [] (λn j o c m i=>?_) [] [(0,0)];unfold AjW at c;split at c
  .rename_i hy;obtain rfl:=Bo c;have ha:=i _ rfl;rw[<-ha] at hs;obtain rfl:=Bo hs;obtain rfl:=f _ rfl;have hle:l.length<=j:=List.getElem?_eq_none_iff.1 hy;exact Ar [hr 22 (show decide ((j:Int)<ah l)=false from C5 (by unfold ah;omega))] []
  .rename_i y hy;have a:=Bp hy;have hw:=hw y;cases c1:DQ I al.row x y with
   |false=>rw[c1] at c hw;obtain rfl:=Bo c;exact jw [hr 22 (C3 hy),Az 23 (ac.ixZ a),Az 24 (ac.ptZ aW a),hf 28 hw,hbb 46 (Xl (q:=j) (by have:=(cr hy).1;omega))] [] (m _ rfl) [] [(0,0)]
   |true=>
    rw[c1] at c hw;obtain rfl:=Bo c;have ha:=i _ rfl;rw[<-ha,ax] at hs;obtain⟨b',hb',hs⟩:=bS hs;obtain rfl:=Bo hs;have k5:=k5 _ rfl;have hkk:k<1000:=by have:=(cr hx).1;omega
    unfold upB at hb';cases c2:decide (b<0) with
    |true=>rw[c2] at hb';obtain rfl:=Bo hb';exact jw [hr 22 (C3 hy),Az 23 (ac.ixZ a),Az 24 (ac.ptZ aW a),hf 28 hw,hr 30 c2,hbb 48 (Xl (q:=k) aa)] [] k5 [] []
    |false=>
     rw[c2,AQ] at hb';obtain⟨z,d,hb'⟩:=bS hb';cases c3:decide (Sr sen x.By<Sr sen z.By) with
     |true=>rw[c3] at hb';obtain rfl:=Bo hb';exact jw [hr 22 (C3 hy),Az 23 (ac.ixZ a),Az 24 (ac.ptZ aW a),hf 28 hw,hr 30 c2,hm 35 (Aaz sen x.By),Az 39 (ac.ixZ d),Az 41 (ac.fdZ tZ 0 d),hm 42 (Aaz sen z.By),hr 43 c3,hbb 48 (Xl (q:=k) aa)] [] k5 [] []
     |false=>rw[c3] at hb';obtain rfl:=Bo hb';exact jw [hr 22 (C3 hy),Az 23 (ac.ixZ a),Az 24 (ac.ptZ aW a),hf 28 hw,hr 30 c2,hm 35 (Aaz sen x.By),Az 39 (ac.ixZ d),Az 41 (ac.fdZ tZ 0 d),hm 42 (Aaz sen z.By),hr 43 c3,hbb 48 (Xl (q:=k) aa)] [] k5 [] []
end
abbrev oA(s:OR):Option Ob:=some ⟨107,FSq s,none⟩
def Rf(s t:OR):OR:=⟨gM s.a0 t.a0,gM s.a1 t.a1,gM s.a2 t.a2,gM s.a3 t.a3⟩
def wiA(s t:OR):Nat->OR
 |0=>s
 |1=>⟨gM s.a0 t.a0,s.a1,s.a2,s.a3⟩
 |2=>⟨gM s.a0 t.a0,gM s.a1 t.a1,s.a2,s.a3⟩
 |3=>⟨gM s.a0 t.a0,gM s.a1 t.a1,gM s.a2 t.a2,s.a3⟩
 |_=>Rf s t
def Zx(k:Nat):Option (Nat⊕Unit):=if k<4 then some (.inl (k+1))else some (.inr ())
theorem Li:AH Zx 0=some ():=T.eq (T.loop (λ_=>True) (λk=>4-k) trivial B5 λk _=>by
 unfold Zx;split
 .exact .some ⟨trivial,aa⟩
 .exact .some rfl)
theorem TX(s t:OR):jg prog gl 84 [.ref 0 0,.agg (FSq t)] [(0,oA s)] 1 (.tup []) [(0,oA (Rf s t))] 1:=by
 refine pP func84 ?_;refine pN (λk:Nat=>(s0 20 gl [(0,.ref 0 0),(3,.ptr (FSq t) 0),(5,iG (k:Int))] [(0,oA (wiA s t k))] 1 1)) 11122 Li [] [hc (eB (gs:=FSq t) aH)] (λB k v hs k5 a=>?_) [] [(0,0)] [];rcases k with _|_|_|_|k
 .cases hs;exact jw [hV 16 (jc (P:=prog) (t:=34) s.a0 t.a0)] [] (k5 _ rfl) [] [(0,0)] []
 .cases hs;exact jw [hV 16 (jc (P:=prog) (t:=34) s.a1 t.a1)] [] (k5 _ rfl) [] [(0,0)] []
 .cases hs;exact jw [hV 16 (jc (P:=prog) (t:=34) s.a2 t.a2)] [] (k5 _ rfl) [] [(0,0)] []
 .cases hs;exact jw [hV 16 (jc (P:=prog) (t:=34) s.a3 t.a3)] [] (k5 _ rfl) [] [(0,0)] []
 .exact mt .normal (s0 20 gl [] [(0,oA (Rf s t))] 1 1) [] [hr 6 (show decide (((k+1+1+1+1:Nat):Int)<4)=false from C5 aa)] []
abbrev OG(x:CY):Option Ob:=some ⟨109,d7 x,none⟩
theorem RE(x:CY)(t:OR):jg prog gl 84 [.ref 0 30,.agg (FSq t)] [(0,OG x)] 1 (.tup []) [(0,OG {x with past:=Rf x.past t})] 1:=by
 refine pP func84 ?_;refine pN (λk:Nat=>(s0 20 gl [(0,.ref 0 30),(3,.ptr (FSq t) 0),(5,iG (k:Int))] [(0,OG {x with past:=wiA x.past t k})] 1 1)) 11122 Li [] [hc (eB (gs:=FSq t) aH)] (λB k v hs k5 a=>?_) [] [(0,0)] [];rcases k with _|_|_|_|k
 .cases hs;exact jw [hV 16 (jc (P:=prog) (t:=34) x.past.a0 t.a0)] [] (k5 _ rfl) [] [(0,0)] []
 .cases hs;exact jw [hV 16 (jc (P:=prog) (t:=34) x.past.a1 t.a1)] [] (k5 _ rfl) [] [(0,0)] []
 .cases hs;exact jw [hV 16 (jc (P:=prog) (t:=34) x.past.a2 t.a2)] [] (k5 _ rfl) [] [(0,0)] []
 .cases hs;exact jw [hV 16 (jc (P:=prog) (t:=34) x.past.a3 t.a3)] [] (k5 _ rfl) [] [(0,0)] []
 .exact mt .normal (s0 20 gl [] [(0,OG {x with past:=Rf x.past t})] 1 1) [] [hr 6 (show decide (((k+1+1+1+1:Nat):Int)<4)=false from C5 aa)] []
def yt(s:OR)(n:Nat):OR:=match n/64 with
 |0=>{s with a0:=gM s.a0 (IK 1 (n%64))}
 |1=>{s with a1:=gM s.a1 (IK 1 (n%64))}
 |2=>{s with a2:=gM s.a2 (IK 1 (n%64))}
 |_=>{s with a3:=gM s.a3 (IK 1 (n%64))}
theorem W0(s:OR)(h:n<256):jg prog gl 83 [.ref 0 0,iG (n:Int)] [(0,oA s)] 1 (.tup []) [(0,oA (yt s n))] 1:=by
 have hm:u9 (n:Int) 64=some ((n%64:Nat):Int):=by grind [u9]
 have hcn:wJ ((n%64:Nat):Int)=some (n%64):=by grind [wJ]
 have hq:∀q:Nat,n/64=q->Gg (n:Int) 64=some (q:Int):=by grind [Gg,Mx]
 refine pP func83 ?_;have h4:n/64=0\/n/64=1\/n/64=2\/n/64=3:=aa;rcases h4 with e|e|e|e
 .rw[show yt s n={s with a0:=gM s.a0 (IK 1 (n%64))} by grind [yt]];exact mt .normal (s0 16 gl [] [(0,oA {s with a0:=gM s.a0 (IK 1 (n%64))})] 1 1) [] [hbb 6 (Tt (hq 0 e)),hbb 11 (KO hm),hV 12 (sM (P:=prog) (t:=34) 1 hcn),hV 13 (jc (P:=prog) (t:=34) s.a0 (IK 1 (n%64)))] []
 .rw[show yt s n={s with a1:=gM s.a1 (IK 1 (n%64))} by grind [yt]];exact mt .normal (s0 16 gl [] [(0,oA {s with a1:=gM s.a1 (IK 1 (n%64))})] 1 1) [] [hbb 6 (Tt (hq 1 e)),hbb 11 (KO hm),hV 12 (sM (P:=prog) (t:=34) 1 hcn),hV 13 (jc (P:=prog) (t:=34) s.a1 (IK 1 (n%64)))] []
 .rw[show yt s n={s with a2:=gM s.a2 (IK 1 (n%64))} by grind [yt]];exact mt .normal (s0 16 gl [] [(0,oA {s with a2:=gM s.a2 (IK 1 (n%64))})] 1 1) [] [hbb 6 (Tt (hq 2 e)),hbb 11 (KO hm),hV 12 (sM (P:=prog) (t:=34) 1 hcn),hV 13 (jc (P:=prog) (t:=34) s.a2 (IK 1 (n%64)))] []
 .rw[show yt s n={s with a3:=gM s.a3 (IK 1 (n%64))} by grind [yt]];exact mt .normal (s0 16 gl [] [(0,oA {s with a3:=gM s.a3 (IK 1 (n%64))})] 1 1) [] [hbb 6 (Tt (hq 3 e)),hbb 11 (KO hm),hV 12 (sM (P:=prog) (t:=34) 1 hcn),hV 13 (jc (P:=prog) (t:=34) s.a3 (IK 1 (n%64)))] []
theorem OH{σ ρ:Type}{step:σ->Option (σ⊕ρ)}{s:σ}{r:ρ}(h:step s=some (.inr r)):AH step s=some r:=by grind [AH,FU,KN]
theorem RF{st:St}{j:Nat}{l:Bj}(h:ag st.σ j=some ⟨t,l,none⟩)(k:Nat):Le P st {st with σ:=(j,some ⟨t,l.take k,none⟩)::st.σ}:=by
 rintro cx a w ⟨β,r⟩;have hs:∀i o,ag ((j,some ⟨t,l.take k,none⟩)::st.σ) i=some o->∃c,ag st.σ i=some c/\((i=j/\o=⟨t,l.take k,none⟩/\c=⟨t,l,none⟩)\/o=c):=by grind
 have hs':∀i o,ag st.σ i=some o->∃c,ag ((j,some ⟨t,l.take k,none⟩)::st.σ) i=some c:=by grind
 have hA:Av cx.S0 β ((j,some ⟨t,l.take k,none⟩)::st.σ)=Av cx.S0 β st.σ:=by grind
 refine⟨β,{size:=r.size,defers:=r.defers,loose:=r.loose,rnd:=r.rnd,fr:=λi=>?_,ob:=λi o hi=>?_,inj:=λi d o c b C D h1 h2 h3 h4=>?_,own:=λi o b C h1 h2=>?_,sep:=λi o b C h1 h2=>?_,fresh:=r.fresh,glob:=λg m hl=>?_,keep:=r.keep,old:=r.old,pin:=r.pin}⟩
 .grind
 .show RO P β (Av cx.S0 β ((j,some ⟨t,l.take k,none⟩)::st.σ)) w i o;rw[hA];obtain⟨c,h1,⟨rfl,rfl,rfl⟩|rfl⟩:=hs i o hi
  .rcases r.ob _ _ h1 with⟨e1,e2,e3⟩|⟨b,x,o,e1,_⟩|⟨b,C,cur,e1,e2,e3,e4,e5,e6,e7⟩
   .grind
   .cases e1
   .have e6:l.length<=cur.size:=e6;have e7:∀(j:Nat) (g:G),l[j]?=some g->∃u,cur[j]?=some u/\u.oneCell'=true/\RV β (Av cx.S0 β st.σ) w g u:=e7;refine .inr (.inr ⟨b,C,cur,e1,e2,e3,e4,e5,?_,λx g hg=>e7 x g ?_⟩);all_goals grind
  .exact r.ob _ _ h1
 .obtain⟨e,h1',_⟩:=hs i o h1;obtain⟨f,h2',_⟩:=hs d c h2;grind
 .grind
 all_goals grind
def hcl(c:Nat){P:Br}{σ:aQ}{t:Bn}{g:G}{i:Nat}{ob:Ob}(h:rF P σ t g=some (i,ob)):HP:=⟨some (.e 999999998 (.tup []) i ob),rF P (Uz σ (fR g)) t g=some (i,ob),(Afc Ho).symm.trans h⟩
section
variable {P:Br} [M:Mix P] {st:St} {Q:Exit->St->Prop} {fn:Func} {Bs:List (St->Prop)} {m:Bool} {p:Bq}
theorem dSh(j:Nat){l:Bj}(k:Nat)(h:Gp P fn Q Bs m p {st with σ:=(j,some ⟨t,l.take k,none⟩)::st.σ})(hj:ag st.σ j=some ⟨t,l,none⟩:=by rfl):Gp P fn Q Bs m p st:=by
 unfold Gp Lv at h⊢;cases m with
 |true=>exact pQ (RF hj k) _ _ h
 |false=>exact Tr.le h (RF hj k)
end
abbrev Lj(g:Aj):G:= .clo (.func 173) [] [.ptr [.ptr (Ag g) 0] 0]
def Ajw{α:Type}(l:List α)(i:Int):Option (Int⊕Unit):=bif i<ah l then(aS l i).bind λ_=>some (.inl (wI (i+1)))else some (.inr ())
theorem W3{l:List α}(h:l.length<1000000000):AH (Ajw l) (wI (0+1))=some ():=by refine T.eq (T.loop (λi=>∃k:Nat,i=((k+1:Nat):Int)/\k<=l.length) (λi=>l.length+2-i.toNat) ⟨0,rfl,aa⟩ (by grind) ?_);rintro i ⟨k,rfl,hk⟩;unfold Ajw;refine .dec (λhh=>?_) λhh=> .some rfl;unfold ah at hh;have ew:wI (((k+1:Nat):Int)+1)=((k+1+1:Nat):Int):=aq aa;refine .bind (.ix aa (x:=l[k+1]) (by grind) (.some ⟨⟨k+1,ew,aa⟩,?_⟩));grind
def zI:List Value:=[.int .i64 0,.int .i64 0,.int .u64 0]
abbrev W4(l:A3):Bj:=(l.flatMap aj).take 0++(bN zI (l.length*3)).map .lit++(l.flatMap aj).drop (0+l.length*3)
theorem clr{l:A3}(h:0<l.length):rF prog [ob 0 36 (l.flatMap aj)] 26 (.rsl 0 (0+(0:Int).toNat*3) (l.length-(0:Int).toNat))=some (0,⟨36,W4 l,none⟩):=by have e1:dp prog 26=some 36:=aH;have e2:jj prog 36=some zI:=aH;have e3:bw prog 36=some 3:=aH;have e4:ag [ob 0 36 (l.flatMap aj)] 0=some ⟨36,l.flatMap aj,none⟩:=rfl;show rF prog _ _ (.rsl 0 0 l.length)=_;unfold rF;rw[e1];simp only[e2,e3,e4];rw[Bz ⟨rfl,h,B5,by grind [A9.len,ac],rfl⟩]
theorem RH(l:A3):∀g∈W4 l,bB g:=by grind [A9.imm,ac,mN]
theorem W5(h:(g.at_.get x).isSome=true):ba prog gl 173 [.agg (aj x),.ptr [.ptr (Ag g) 0] 0] (bG true):=jk gl (by unfold df;rw[h])
theorem aa4(g:Aj):R1 prog gl 173 [] [.ptr [.ptr (Ag g) 0] 0] (λx:Ab=>[.agg (aj x)]) (λx:Bool=>bG x) (λx=>df x g):=⟨aH,bf,aY (aG 20 _ aH) bf,λx r h=>jk gl h⟩
theorem ixL(h:∀x∈l,(g.at_.get x).isSome=true):Vx l (λx=>df x g)=some (if l.length=0 then-1 else 0):=by
 unfold Vx;cases l with
 |nil=>rfl
 |cons a r=>
  have e:AH (Ko (a::r) (λx=>df x g)) 0=some (.inr 0):=by grind [OH,Ko,df,ah,aS]
  rw[e];rfl
theorem TY(h:∀x∈l,(g.at_.get x).isSome=true)(hl:l.length<1000000000):jg prog gl 50 [.rsl 0 0 l.length,Lj g] [ob 0 36 (l.flatMap aj)] 1 (.rsl 0 0 0) [ob 0 36 []] 1:=by
 refine pP func50 ?_;have hi:=gS gl (aa4 gl g) (ixL h);by_cases h0:l.length=0
 .rw[Bz h0] at hi;obtain rfl:=List.length_eq_zero_iff.1 h0;exact mt .ret (s0 42 gl [(4,.rsl 0 0 0)] [ob 0 36 []] 1 1) [.rsl 0 0 0] [hq 10 [aE aj [],Lj g] [hc (ac.al [])] hi] [hc (rfl:0=0),hc (ac.imm [])]
 .rw[BU h0] at hi;refine pN (λj:Int=>(s0 42 gl [(0,.rsl 0 0 l.length),(1,Lj g),(5,iG 0),(6,iG j)] [ob 0 36 (l.flatMap aj)] 1 1)) 11110122 (W3 (l:=l) hl) [hq 10 [aE aj l,Lj g] [hc (ac.al l)] hi] [hc (el l),hc (aG 20 (Lj g) aH),hc (ac.imm l)] (λB j w hs k5 b=>?_);unfold Ajw at hs;rcases bC hs with⟨b1,hs⟩|⟨b1,hs⟩
  .obtain⟨y,a,hs⟩:=bS hs;obtain rfl:=Bo hs;exact jw [hr 19 b1,Az 24 (ac.ixrZ 0 a),Az 25 (ac.pt0Z aW a),hf 28 (W5 gl (h y (bO (GK a).2)))] [hc (el l),hc (aG 20 (Lj g) aH),hc (ac.imm l)] (k5 _ rfl)
  .obtain rfl:=Bo hs;refine pO 1111110 (J:=(s0 42 gl [(0,.rsl 0 0 l.length),(5,iG 0)] [ob 0 36 (W4 l)] 1 1)) [hr 19 b1,Az 38 (ac.sufZ 0 (l:=l) (i:=0) (y:=l) rfl),hcl 1 (clr (l:=l) (Nat.pos_of_ne_zero h0))] [hc (el l),hc (RH l)] ?_;refine dSh 0 0 ?_;exact mt .ret (s0 42 gl [(4,.rsl 0 0 0)] [ob 0 36 []] 1 1) [.rsl 0 0 0] [Az 41 (ac.preZ 0 (l:=l) (i:=0) (y:=[]) rfl)] [hc (rfl:0=0),hc (ac.imm [])]
theorem Zy(l:A3):∀g∈l.flatMap aj,∃v,g= .lit v:=by grind [aj]
theorem RI{g:Aj}{o:Bi}(h:∀x∈o.Past,(g.at_.get x).isSome=true)(hl:o.Past.length<1000000000):iV prog gl 82 [.ptr (Ag g) 0,.agg (aJ o)] 36 0 []:=by
 have hcl:cU o.Past=some o.Past:=by grind [cU,aT]
 refine OW func82 ?_;refine pO [1,0] (s0 10 gl [(2,.ptr [.ptr (Ag g) 0] 0),(3,.ptr (aJ o) 0)] [] 0 0) [] [hc (eB (gs:=[.ptr (Ag g) 0]) aH),hc (eB (gs:=aJ o) aH)] ?_;exact EI [ho 7 [aE aj o.Past] [] (jY gl hcl) (Zy _),tN 9 [0] 1 [ob 0 36 (o.Past.flatMap aj)] [.rsl 0 0 o.Past.length,Lj g] [ob 0 36 []] (TY gl h hl) ⟨⟨rfl,.inr ⟨rfl,ac.imm _⟩⟩,trivial⟩ ⟨⟨rfl,.inr ⟨rfl,ac.imm []⟩⟩,trivial⟩] (ac.imm [])
def hmu(R:Bq)(c:Nat){P:Br}{σ:aQ}{t:Bn}{gm gk g:G}{i:Nat}{ob:Ob}(h:dZ P σ t gm gk g=some (i,ob)):HP:=⟨some (.e 999999998 (.lit undef) i ob),dZ P (Uz σ (fR gm)) t gm gk g=some (i,ob),(aab Ho).symm.trans h⟩
abbrev mE(m:IX):oE:=m.es.map λe=>(ga e.1,iG e.2.1,e.2.2)
abbrev gMp(m:IX):G:= .mp ((mE m).map (·.1)) ((mE m).map (·.2.1)) ((mE m).map (·.2.2)) m.clk
abbrev oM(m:IX):Option Ob:=some ⟨102,[],some (.map (mE m) m.clk)⟩
abbrev oG(cs:Mj)(n:Nat)(j:Nat):Option Ob:=some ⟨105,[aE bv cs,.mref 1,.rsl j 0 n],none⟩
abbrev zQ(N:IH):Option Ob:=some ⟨109,N.flatMap d7,none⟩
theorem RJ(m:IX):FM.g ga iG m=gMp m:=by unfold FM.g gMp mE;simp only[It];rfl
theorem lkP{m:IX}{k:Ab}{b:Bool}{v:Int}(h1:(m.get k).getD 0=v)(h2:(m.get k).isSome=b):bL prog [(1,oM m)] 102 true (.mref 1) (.agg (aj k))=some (.tup [iG v,bG b]):=by
 subst h1 h2;have hm:(mE m).map (·.1)=(m.es.map (·.1)).map ga:=by rw[It,It];rfl
 have hz:((prog.info? 3).bind (·.zero)).map db=some (iG 0):=aH;obtain⟨z,hz,hv⟩:=DF.1 hz;unfold bL;rw[show pB prog 102=some (36,3) from by kernel_rfl,show cD (.agg (aj k))=some (ga k) from rfl];dsimp only;rw[show Lo [(1,oM m)] (.mref 1)=some (1,102,mE m,m.clk) from rfl];dsimp only;rw[jt.chk,ax,hm,jt.key];grind [FM.get,fz]
theorem Zz{m:IX}{k:Ab}{v:Int}(h1:(m.get k).getD 0=v):bL prog [(1,oM m)] 102 false (.mref 1) (.agg (aj k))=some (iG v):=by
 subst h1;have hm:(mE m).map (·.1)=(m.es.map (·.1)).map ga:=by rw[It,It];rfl
 have hz:((prog.info? 3).bind (·.zero)).map db=some (iG 0):=aH;obtain⟨z,hz,hv⟩:=DF.1 hz;unfold bL;rw[show pB prog 102=some (36,3) from by kernel_rfl,show cD (.agg (aj k))=some (ga k) from rfl];dsimp only;rw[show Lo [(1,oM m)] (.mref 1)=some (1,102,mE m,m.clk) from rfl];dsimp only;rw[jt.chk,ax,hm,jt.key];grind [FM.get,fz]
def CW(m:IX)(k:Ab)(n:Int):IX:=⟨m.es++[(k,n,m.clk)],m.clk+1⟩
theorem aa6{m:IX}{k:Ab}(h:m.get k=none)(n:Int):dZ prog [(1,oM m)] 102 (.mref 1) (.agg (aj k)) (iG n)=some (1,⟨102,[],some (.map (mE (CW m k n)) (CW m k n).clk)⟩):=by
 have hm:(mE m).map (·.1)=(m.es.map (·.1)).map ga:=by rw[It,It];rfl
 unfold dZ;rw[show pB prog 102=some (36,3) from by kernel_rfl,show cD (.agg (aj k))=some (ga k) from rfl,show Lo [(1,oM m)] (.mref 1)=some (1,102,mE m,m.clk) from rfl];dsimp only;rw[jt.chk,ax,hm,jt.key];grind [fz,CW,FM.get]
def hlk(d:Nat){P:Br}{σ:aQ}{t:Bn}{ok:Bool}{i:Nat}{gk g:G}(h:bL P σ t ok (.mref i) gk=some g):HP:=⟨some (.m d g),bL P σ t ok (.mref i) gk=some g,h⟩
structure AdX (cs:Mj) (m:IX) (N:IH) (o:Bi) (i:Ab) (c:DP) (kk:Nat):Prop where
 chk:Abo o kk
 sm:Be o
 cl:pG o=some o
 id:Rs o=some i
 fresh:m.get i=none
 room:N.length<200
 card:hY ⟨cs,m,N⟩ o.By=some (c,true)
 by_:o.By=c.Device
 sig:lq c.Sign (O7 o) o.Sig=some true
 create:o.Kind=1->N=[]
 nPast:o.Past.length<1000000000
 par:∀x∈o.Past,∃n:Nat,m.get x=some (n:Int)/\n<200
abbrev z4:OR:=⟨0,0,0,0⟩
def Z6(m:IX)(N:IH)(l:A3)(s:OR×OR×Int×Int×Int):Option ((OR×OR×Int×Int×Int)⊕(OR×OR×Int×Int)):=
 bif s.2.2.2.2<ah l then(aS l s.2.2.2.2).bind λx=>(aS N ((m.get x).getD 0)).bind λy=>some (.inl (yt s.1 ((m.get x).getD 0).toNat,Rf s.2.1 y.past,EZ s.2.2.1 y.o.At,EZ s.2.2.2.1 (wI (y.level+1)),wI (s.2.2.2.2+1)))else some (.inr (s.1,s.2.1,s.2.2.1,s.2.2.2.1))
def ZA(s t:OR):Nat->OR
 |0=>s
 |1=>⟨bD s.a0 t.a0,s.a1,s.a2,s.a3⟩
 |2=>⟨bD s.a0 t.a0,bD s.a1 t.a1,s.a2,s.a3⟩
 |3=>⟨bD s.a0 t.a0,bD s.a1 t.a1,bD s.a2 t.a2,s.a3⟩
 |_=>⟨bD s.a0 t.a0,bD s.a1 t.a1,bD s.a2 t.a2,bD s.a3 t.a3⟩
def Z7(N:IH)(o:Bi)(A:OR)(s:Int×Bool×Int):Option ((Int×Bool×Int)⊕(Int×Bool)):=
 bif s.2.2<ah N then(aS N s.2.2).bind λy=>bif y.o.By=o.By then(iX A s.2.2).bind λh=>bif h then some (.inl (EZ s.1 y.o.Seq,(bif s.2.1 then true else decide (y.o.Seq=wI (o.Seq-1))),wI (s.2.2+1)))else some (.inl (s.1,s.2.1,wI (s.2.2+1)))else some (.inl (s.1,s.2.1,wI (s.2.2+1)))else some (.inr (s.1,s.2.1))
section
variable {cs:Mj} {m:IX} {N:IH} {o:Bi} {i:Ab} {c:DP} {kk:Nat}
abbrev Z8(cs:Mj)(m:IX)(N:IH):G:= .ptr [aE bv cs,gMp m,aE d7 N] 0
theorem AdX.card'(h:AdX cs m N o i c kk):ba prog fI 80 [Z8 cs m N,iG o.By] (.tup [.agg (bv c),bG true]):=by have:=uN fI h.card;grind [Ag,RJ]
theorem AdX.lacks'(h:AdX cs m N o i c kk):iV prog fI 82 [Z8 cs m N,.agg (aJ o)] 36 0 []:=by have:=RI fI (g:=⟨cs,m,N⟩) (o:=o) (λx hx=>by obtain⟨n,hn,_⟩:=h.par x hx;show(m.get x).isSome=true;rw[hn];rfl) h.nPast;grind [Ag,RJ]
theorem cf(m:IX):∀e∈mE m,bB e.2.1:=by grind [mN]
abbrev aa7(o:Bi)(a k:Int):Fr:=[(0,.ref 0 0),(3,.ptr (aJ o) 0),(6,.ref 3 0),(11,.ref 4 0),(12,.ref 5 0),(13,iG a),(80,aE aj o.Past),(81,iG (ah o.Past)),(82,iG k)]
abbrev Z9(cs:Mj)(m:IX)(N:IH)(x:CY)(p b:OR):aQ:=[(0,oG cs N.length 2),(1,oM m),(2,zQ N),(3,OG x),(4,oA p),(5,oA b)]
theorem TZ(x:CY){n:Nat}(hn:n<256){r:Bool}(h:iX x.past (n:Int)=some r):ba prog fI 65 [.ptr (d7 x) 30,iG (n:Int)] (bG r):=by
 have hm:u9 (n:Int) 64=some ((n%64:Nat):Int):=by grind [u9]
 have hcn:wJ ((n%64:Nat):Int)=some (n%64):=by grind [wJ]
 have hq:∀q:Nat,n/64=q->Gg (n:Int) 64=some (q:Int):=by grind [Gg,Mx]
 have hd:wI (Int.tdiv (n:Int) 64)=((n/64:Nat):Int):=by grind [bM]
 have ht:Int.tmod (n:Int) 64=((n%64:Nat):Int):=by rw[Int.tmod_eq_emod_of_nonneg aa];rfl
 unfold iX at h;rw[hd,ht,hcn] at h;refine Gh func65 ?_;have h4:n/64=0\/n/64=1\/n/64=2\/n/64=3:=aa;rcases h4 with e|e|e|e
 .rw[e] at h;obtain rfl:=Bo h;exact Ar [hbb 7 (Tt (hq 0 e)),hbb 12 (KO hm),hV 13 (Am (P:=prog) (t:=34) x.past.a0 hcn),hV 14 (ju (P:=prog) (t:=34) (Jq x.past.a0 (n%64)) 1)] []
 .rw[e] at h;obtain rfl:=Bo h;exact Ar [hbb 7 (Tt (hq 1 e)),hbb 12 (KO hm),hV 13 (Am (P:=prog) (t:=34) x.past.a1 hcn),hV 14 (ju (P:=prog) (t:=34) (Jq x.past.a1 (n%64)) 1)] []
 .rw[e] at h;obtain rfl:=Bo h;exact Ar [hbb 7 (Tt (hq 2 e)),hbb 12 (KO hm),hV 13 (Am (P:=prog) (t:=34) x.past.a2 hcn),hV 14 (ju (P:=prog) (t:=34) (Jq x.past.a2 (n%64)) 1)] []
 .rw[e] at h;obtain rfl:=Bo h;exact Ar [hbb 7 (Tt (hq 3 e)),hbb 12 (KO hm),hV 13 (Am (P:=prog) (t:=34) x.past.a3 hcn),hV 14 (ju (P:=prog) (t:=34) (Jq x.past.a3 (n%64)) 1)] []
theorem W7(h:AdX cs m N o i c kk){p b:OR}{top lev:Int}(h1:AH (Z6 m N o.Past) (z4,z4,0,1,0)=some (p,b,top,lev))(h2:ZA p b 4=z4)(h3:decide (o.At<top)=false){last:Int}{fol:Bool}(h4:AH (Z7 N o (Rf b p)) (0,false,0)=some (last,fol))(h5:decide (o.Seq<=last)=false)(h6:1<o.Seq->fol=true):jg prog fI 34 [.ref 0 0,.agg (aJ o)] [(0,oG cs N.length 2),(1,oM m),(2,zQ N)] 3 (iG 0) [(0,oG cs (N++[(⟨o,i,Rf b p,lev⟩:CY)]).length 3),(1,oM (CW m i N.length)),(3,zQ (N++[⟨o,i,Rf b p,lev⟩]))] 4:=by
 have hro:=h.room;refine pP func34 ?_;refine pO 11111111100 (s0 234 fI [(0,.ref 0 0),(3,.ptr (aJ o) 0),(6,.ref 3 0)] [(0,oG cs N.length 2),(1,oM m),(2,zQ N),(3,OG ⟨o,i,z4,1⟩)] 4 3) [hf 24 (IW h.chk),hf 29 (Ds fI h.cl),hf 31 (TP fI h.sm h.id),hlk 40 (lkP (m:=m) (k:=i) (v:=0) (b:=false) (by rw[h.fresh];rfl) (by rw[h.fresh];rfl)),hr 49 (show decide (200<=(N.length:Int))=false from C5 aa),hq 54 [Z8 cs m N,iG o.By] [hc (cf m),hc (az.al N)] h.card',hf 61 (OD fI h.sm h.by_ h.sig)] [hc (eB (gs:=aJ o) aH),hc (el N),hc (cf m),hc (az.imm N)] ?_;refine Ix 1111111110 (s0 234 fI [(0,.ref 0 0),(3,.ptr (aJ o) 0),(6,.ref 3 0)] [(0,oG cs N.length 2),(1,oM m),(2,zQ N),(3,OG ⟨o,i,z4,1⟩)] 4 3) ?_ λd=>?_;rotate_left
 .by_cases hk1:o.Kind=1
  .have e0:decide (0<(N.length:Int))=false:=by rw[h.create hk1];rfl
   exact yl 1111111110 [hr 65 (CM hk1),hr 72 e0] [hc (el N),hc (cf m),hc (az.imm N)] d
  .exact yl 1111111110 [hr 65 (C5 hk1)] [hc (el N),hc (cf m),hc (az.imm N)] d
 refine Ix 111111111111101 (s0 234 fI [(0,.ref 0 0),(3,.ptr (aJ o) 0),(6,.ref 3 0),(11,.ref 4 0),(12,.ref 5 0),(13,iG top)] (Z9 cs m N ⟨o,i,z4,lev⟩ p b) 6 3) ?_ λd=>?_;rotate_left
 .refine pN (λs:OR×OR×Int×Int×Int=>(s0 234 fI (aa7 o s.2.2.1 s.2.2.2.2) (Z9 cs m N ⟨o,i,z4,s.2.2.2.1⟩ s.1 s.2.1) 6 3)) 11111111111110122 h1 [ho 76 [Z8 cs m N,.agg (aJ o)] [hc (cf m),hc (az.al N)] h.lacks' (λg hg=>by cases hg)] [hc (el N),hc (cf m),hc (az.imm N)] (λB s w hs k5 j=>?_);unfold Z6 at hs;rcases bC hs with⟨c1,hs⟩|⟨c1,hs⟩
  .obtain⟨x,l,hs⟩:=bS hs;obtain⟨n,q,hn⟩:=h.par x (bO (GK l).2);have ej:(m.get x).getD 0=(n:Int):=by rw[q];rfl
   rw[ej] at hs;obtain⟨y,a,hs⟩:=bS hs;obtain rfl:=Bo hs;exact jw [hr 83 c1,Az 84 (ac.ixZ l),Az 85 (ac.ptZ aW l),hlk 95 (Zz ej),Az 96 (az.ixrZ 2 a),hlk 102 (Zz ej),tN 103 [4] 7 [(4,oA s.1)] [.ref 4 0,iG (n:Int)] [(0,oA (yt s.1 n))] (W0 fI s.1 aa) ⟨⟨rfl,.inl rfl⟩,trivial⟩ ⟨⟨rfl,.inl rfl⟩,trivial⟩,Az 107 (az.fs0Z aap aaq 30 B5 a),tN 108 [5] 7 [(5,oA s.2.1)] [.ref 5 0,.agg (FSq y.past)] [(0,oA (Rf s.2.1 y.past))] (TX fI s.2.1 y.past) ⟨⟨rfl,.inl rfl⟩,trivial⟩ ⟨⟨rfl,.inl rfl⟩,trivial⟩,Az 114 (az.fd0Z tZ 3 a),Az 121 (az.fd0Z tZ 34 a)] [hc (el N),hc (cf m),hc (az.imm N)] (k5 _ rfl)
  .obtain rfl:=Bo hs;have e:=j _ rfl;simp only[Fu] at e;obtain⟨rfl,rfl,rfl,rfl⟩:=e;exact yl 111111111111101 [hr 83 c1] [hc (el N),hc (cf m),hc (az.imm N)] d
 refine Ix 11111111111111101 (s0 234 fI [(0,.ref 0 0),(3,.ptr (aJ o) 0),(6,.ref 3 0),(11,.ref 4 0),(12,.ref 5 0),(13,iG top),(17,.ref 6 0)] (Z9 cs m N ⟨o,i,z4,lev⟩ p b++[(6,oA z4)]) 7 3) ?_ λd=>?_;rotate_left
 .refine pN (λk:Nat=>(s0 234 fI [(0,.ref 0 0),(3,.ptr (aJ o) 0),(6,.ref 3 0),(11,.ref 4 0),(12,.ref 5 0),(13,iG top),(17,.ref 6 0),(127,iG (k:Int))] (Z9 cs m N ⟨o,i,z4,lev⟩ p b++[(6,oA (ZA p b k))]) 7 3)) 1111111111111110122 Li [] [hc (el N),hc (cf m),hc (az.imm N)] (λB k v hs k5 j=>?_);rcases k with _|_|_|_|k
  .cases hs;exact jw [hV 136 (ju (P:=prog) (t:=34) p.a0 b.a0)] [hc (el N),hc (cf m),hc (az.imm N)] (k5 _ rfl)
  .cases hs;exact jw [hV 136 (ju (P:=prog) (t:=34) p.a1 b.a1)] [hc (el N),hc (cf m),hc (az.imm N)] (k5 _ rfl)
  .cases hs;exact jw [hV 136 (ju (P:=prog) (t:=34) p.a2 b.a2)] [hc (el N),hc (cf m),hc (az.imm N)] (k5 _ rfl)
  .cases hs;exact jw [hV 136 (ju (P:=prog) (t:=34) p.a3 b.a3)] [hc (el N),hc (cf m),hc (az.imm N)] (k5 _ rfl)
  .have e:ZA p b (k+1+1+1+1)=z4:=h2;rw[e];exact yl 11111111111111101 [hr 128 (show decide (((k+1+1+1+1:Nat):Int)<4)=false from C5 aa)] [hc (el N),hc (cf m),hc (az.imm N)] d
 refine Ix 11111111111111111111101 (s0 234 fI [(0,.ref 0 0),(3,.ptr (aJ o) 0),(6,.ref 3 0),(19,iG last),(20,bG fol)] [(0,oG cs N.length 2),(1,oM m),(2,zQ N),(3,OG ⟨o,i,Rf b p,lev⟩)] 4 3) ?_ λd=>?_;rotate_left
 .refine pN (λs:Int×Bool×Int=>(s0 234 fI [(0,.ref 0 0),(3,.ptr (aJ o) 0),(6,.ref 3 0),(19,iG s.1),(20,bG s.2.1),(157,iG (ah N)),(158,iG s.2.2)] [(0,oG cs N.length 2),(1,oM m),(2,zQ N),(3,OG ⟨o,i,Rf b p,lev⟩)] 4 3)) 1111111111111111111110122 h4 [hr 146 h3,tN 152 [3] 7 [(3,OG ⟨o,i,b,lev⟩)] [.ref 3 30,.agg (FSq p)] [(0,OG ⟨o,i,Rf b p,lev⟩)] (RE fI ⟨o,i,b,lev⟩ p) ⟨⟨rfl,.inl rfl⟩,trivial⟩ ⟨⟨rfl,.inl rfl⟩,trivial⟩] [hc (el N),hc (cf m),hc (az.imm N)] (λB s w hs k5 j=>?_);obtain⟨la,r,k⟩:=s;unfold Z7 at hs;dsimp only at hs;rcases bC hs with⟨c1,hs⟩|⟨c1,hs⟩
  .obtain⟨y,a,hs⟩:=bS hs;obtain⟨n,hn⟩:∃n:Nat,k=(n:Int):=⟨k.toNat,by have:=(GK a).1;omega⟩;rcases bC hs with⟨c2,hs⟩|⟨c2,hs⟩
   .obtain⟨hh,f,hs⟩:=bS hs;rw[hn] at f;have f:=TZ ⟨o,i,Rf b p,lev⟩ (n:=n) (by have:=(cr (GK a).2).1;omega) f;rw[<-hn] at f;cases hh
    .obtain rfl:=Bo hs;exact jw [hr 159 c1,Az 166 (az.ixrZ 2 a),Az 171 (az.fd0Z tZ 0 a),hr 174 c2,hq 178 [.ptr (d7 ⟨o,i,Rf b p,lev⟩) 30,iG k] [] f] [hc (el N),hc (cf m),hc (az.imm N)] (k5 _ rfl)
    .obtain rfl:=Bo hs;cases r
     .exact jw [hr 159 c1,Az 166 (az.ixrZ 2 a),Az 171 (az.fd0Z tZ 0 a),hr 174 c2,hq 178 [.ptr (d7 ⟨o,i,Rf b p,lev⟩) 30,iG k] [] f,Az 185 (az.fd0Z tZ 1 a),Az 193 (az.fd0Z tZ 1 a),hr 197 (rfl:decide (y.o.Seq=wI (o.Seq-1))=decide (y.o.Seq=wI (o.Seq-1)))] [hc (el N),hc (cf m),hc (az.imm N)] (k5 _ rfl)
     .exact jw [hr 159 c1,Az 166 (az.ixrZ 2 a),Az 171 (az.fd0Z tZ 0 a),hr 174 c2,hq 178 [.ptr (d7 ⟨o,i,Rf b p,lev⟩) 30,iG k] [] f,Az 185 (az.fd0Z tZ 1 a)] [hc (el N),hc (cf m),hc (az.imm N)] (k5 _ rfl)
   .obtain rfl:=Bo hs;exact jw [hr 159 c1,Az 166 (az.ixrZ 2 a),Az 171 (az.fd0Z tZ 0 a),hr 174 c2] [hc (el N),hc (cf m),hc (az.imm N)] (k5 _ rfl)
  .obtain rfl:=Bo hs;have e:=j _ rfl;simp only[Fu] at e;obtain⟨rfl,rfl⟩:=e;exact yl 11111111111111111111101 [hr 159 c1] [hc (el N),hc (cf m),hc (az.imm N)] d
 refine pO 111111111111111111111100 (s0 234 fI [(0,.ref 0 0),(3,.ptr (aJ o) 0),(6,.ref 3 0),(19,iG last),(20,bG fol)] [(0,oG cs N.length 2),(1,oM m),(2,zQ N),(3,OG ⟨o,i,Rf b p,lev⟩)] 4 3) [] [hc (el N),hc (cf m),hc (az.imm N)] ?_;refine Ix 11111111111111111111110 (s0 234 fI [(0,.ref 0 0),(3,.ptr (aJ o) 0),(6,.ref 3 0)] [(0,oG cs N.length 2),(1,oM m),(2,zQ N),(3,OG ⟨o,i,Rf b p,lev⟩)] 4 3) ?_ λd=>?_;rotate_left
 .by_cases hs1:1<o.Seq
  .obtain rfl:=h6 hs1;exact yl 11111111111111111111110 [hr 203 h5,hr 207 (CM hs1)] [hc (el N),hc (cf m),hc (az.imm N)] d
  .exact yl 11111111111111111111110 [hr 203 h5,hr 207 (C5 hs1)] [hc (el N),hc (cf m),hc (az.imm N)] d
 exact mt .ret (s0 234 fI [(4,iG 0)] [(0,oG cs (N++[(⟨o,i,Rf b p,lev⟩:CY)]).length 3),(1,oM (CW m i N.length)),(3,zQ (N++[⟨o,i,Rf b p,lev⟩]))] 4 3) [iG 0] [hmu [1] 4 (aa6 h.fresh N.length),Tn 231 az 392 N ⟨o,i,Rf b p,lev⟩ aa] [hc (el (N++[⟨o,i,Rf b p,lev⟩])),hc (cf (CW m i N.length)),hc (az.imm (N++[⟨o,i,Rf b p,lev⟩]))] (ρ:=rI 3++[(3,5)]) (kd:=[(3,.row)])
end
theorem ZB(l:Mj):∀g∈l.flatMap bv,∃v,g= .lit v:=Gj (λx g hg=>by simp only[bv,EH,Lu,or_false] at hg;rcases hg with rfl|rfl|rfl|rfl|rfl<;>exact⟨_,rfl⟩) l
theorem W8{cs:Mj}(h:xf cs):jg prog gl 39 [aE bv cs] [] 0 (.ref 0 0) [(0,oG cs 0 2),(1,oM ⟨[],0⟩),(2,zQ [])] 3:=by
 have hcl:Fj cs=some cs:=by unfold Fj aT;rw[Bz (by have:=h.1;simp;omega)];rfl
 refine pP func39 ?_;exact mt .ret (s0 15 gl [(2,.ref 0 0)] [(0,oG cs 0 2),(1,oM ⟨[],0⟩),(2,zQ [])] 3 0) [.ref 0 0] [ho 5 [aE bv cs] [] (tn gl hcl) (ZB _),hz 13 [0] (wS (i:=0) (c:=3) aH (Lh gl h) (aG 20 _ aH) (bT.imm cs) B5 (by rfl) (w5 (zr wZ)))] [hc (bT.al cs),hc (cf ⟨[],0⟩),hc (az.imm [])]
abbrev frG(r:A7):Fr:=[(1,.ptr (aI r) 0),(3,.ref 0 0)]
structure Adb (r:A7) (ms:Nat->IX) (N:IH):Prop where
 srt:xf r.Cards
 sml:r.L.length<=1000
 len:N.length=r.L.length
 m0:ms 0=⟨[],0⟩
 step:∀(k:Nat) (o:Bi),r.L[k]?=some o->jg prog fI 34 [.ref 0 0,.agg (aJ o)] [(0,oG r.Cards k 2),(1,oM (ms k)),(2,zQ (N.take k))] 3 (iG 0) [(0,oG r.Cards (k+1) 3),(1,oM (ms (k+1))),(3,zQ (N.take (k+1)))] 4
def Ajx(n k:Nat):Option (Nat⊕Unit):=if k<n then some (.inl (k+1))else if k=n then some (.inr ())else none
theorem CX(h:n<=1000):AH (Ajx n) 0=some ():=T.eq (T.loop (λk=>k<=n) (λk=>n-k) aa aa λk hk=>by
 unfold Ajx;split
 .exact .some ⟨aa,aa⟩
 .rw[Bz aa];exact .some rfl)
theorem ZC{r:A7}{ms:Nat->IX}{N:IH}(h:Adb r ms N):jg prog fI 44 [.agg (aI r)] [] 0 (.ref 0 0) [(0,oG r.Cards r.L.length 2),(1,oM (ms r.L.length)),(2,zQ (N.take r.L.length))] 3:=by
 have hn:=h.sml;refine pP func44 ?_;refine Ix 111101 (s0 26 fI (frG r) [(0,oG r.Cards r.L.length 2),(1,oM (ms r.L.length)),(2,zQ (N.take r.L.length))] 3 0) ?_ λa=>?_
 .exact mt .ret (s0 26 fI [(2,.ref 0 0)] [(0,oG r.Cards r.L.length 2),(1,oM (ms r.L.length)),(2,zQ (N.take r.L.length))] 3 0) [.ref 0 0] [] [hc (rfl:r.L.length=r.L.length),hc (cf (ms r.L.length)),hc (az.imm (N.take r.L.length))]
 have hw:jg prog fI 39 [aE bv r.Cards] [] 0 (.ref 0 0) [(0,oG r.Cards 0 2),(1,oM (ms 0)),(2,zQ [])] 3:=by rw[h.m0];exact W8 fI h.srt
 refine pN (λk:Nat=>(s0 26 fI [(1,.ptr (aI r) 0),(3,.ref 0 0),(4,iG (k:Int))] [(0,oG r.Cards k 2),(1,oM (ms k)),(2,zQ (N.take k))] 3 0)) 11110122 (CX hn) [tN 7 [] 1 [] [aE bv r.Cards] [ob 0 105 [aE bv r.Cards,.mref 2,.rsl 3 0 0],(1,oM (ms 0)),(2,zQ [])] hw trivial ⟨⟨rfl,.inl rfl⟩,⟨rfl,rfl,rfl,rfl,.inr ⟨rfl,cf _⟩⟩,⟨rfl,.inr ⟨rfl,az.imm []⟩⟩,trivial⟩] [hc (eB (gs:=aI r) aH),hc (rfl:0=0),hc (cf (ms 0)),hc (az.imm [])] (λB k v hs k5 b=>?_) [] [(0,1),(1,2),(2,3)] [(2,.row)];unfold Ajx at hs;split at hs
 .rename_i hk;obtain rfl:=Bo hs;obtain⟨o,ho⟩:∃o,r.L[k]?=some o:=⟨_,Ef hk⟩;have hz:aS r.L (k:Int)=some o:=by rw[au];exact ho
  exact jw [hr 14 (show decide ((k:Int)<(r.L.length:Int))=true from CM aa),Az 21 (eJ.ixZ hz),Az 22 (eJ.ptZ GN hz),tN 23 [0,1,2] 3 [(0,oG r.Cards k 2),(1,oM (ms k)),(2,zQ (N.take k))] [.ref 0 0,.agg (aJ o)] [(0,oG r.Cards (k+1) 3),(1,oM (ms (k+1))),(2,none),(3,zQ (N.take (k+1)))] (h.step k o ho) ⟨⟨rfl,.inl rfl⟩,⟨rfl,rfl,rfl,rfl,.inr ⟨rfl,cf _⟩⟩,⟨rfl,.inr ⟨rfl,az.imm _⟩⟩,trivial⟩ ⟨⟨rfl,.inl rfl⟩,⟨rfl,rfl,rfl,rfl,.inr ⟨rfl,cf _⟩⟩,⟨rfl,.inr ⟨rfl,az.imm _⟩⟩,trivial⟩,hbb 16 (Xl (q:=k) aa)] [hc (rfl:k+1=k+1),hc (cf (ms (k+1))),hc (az.imm (N.take (k+1)))] (k5 _ rfl) [] [(0,0),(1,1),(2,3)] [(2,.row)]
 .rename_i hk;split at hs
  .rename_i he;subst he;obtain rfl:=Bo hs;exact yl 111101 [hr 14 (show decide ((r.L.length:Int)<(r.L.length:Int))=false from C5 aa)] [hc (rfl:r.L.length=r.L.length),hc (cf (ms r.L.length)),hc (az.imm (N.take r.L.length))] a [] [(0,0),(1,1),(2,2)] [(2,.row)]
  .cases hs
end
section
variable {α β ρ:Type}
theorem cL{c:Bool}{a b:α}:(bif c then some a else some b)=some (bif c then a else b):=by cases c<;>rfl
theorem T.bindc{x:Option α}{f:α->Option β}{Q:β->Prop}(h:T x λ_=>True)(k:∀v,x= .some v->T (f v) Q):T (x.bind f) Q:=by obtain⟨v,e,_⟩:=h;exact .bind ⟨v,e,k v e⟩
theorem T.for1{step:Int->Option (Int⊕ρ)}{Q:ρ->Prop}(n:Nat)(J:Ft)(hn:n<2305843009213693952)(h0:J 1)(h:∀k,1<=k->k<n->J k->T (step (k:Int)) (Rd (λs'=>s'=((k+1:Nat):Int)/\J (k+1)) Q))(he:∀k,n<=k->k<=n+1->J k->T (step (k:Int)) (Rd (λ_=>False) Q)):T (AH step 1) Q:=by
 refine T.loop (λs=>∃k:Nat,1<=k/\k<=n+1/\s=(k:Int)/\J k) (λs=>n+1-s.toNat) (by grind) cq ?_;rintro i ⟨k,h1,hk,hik,hj⟩;subst hik;rcases HU k n with hlt|hge
 .refine(h k h1 hlt hj).mono λr hr=>?_;cases r with
  |inl s'=>refine⟨⟨k+1,aa,aa,hr.1,hr.2⟩,?_⟩;rw[hr.1];simp;omega
  |inr r=>exact hr
 .refine(he k hge hk hj).mono λr hr=>?_;cases r with
  |inl s'=>exact hr.elim
  |inr r=>exact hr
theorem T.search{step:Int->Option (Int⊕(Unit⊕ρ))}(l:List α)(p:α->Bool)(g:Nat->α->ρ)(hn:l.length<2305843009213693952)(h:∀(k:Nat) (x:α),l[k]?= .some x->k<l.length->step (k:Int)= .some (bif p x then .inr (.inr (g k x))else .inl ((k+1:Nat):Int)))(he:step (l.length:Int)= .some (.inr (.inl ()))):T (AH step 0) (λr=>(r= .inl ()/\∀x∈l,p x=false)\/∃k x,l[k]?= .some x/\p x=true/\r= .inr (g k x)/\∀(j:Nat) (y:α),j<k->l[j]?= .some y->p y=false):=by
 refine T.forI l.length (λk=>∀(j:Nat) (y:α),j<k->l[j]?= .some y->p y=false) hn (by grind) (λk hk hj=>?_) λhj=>?_
 .have hx:l[k]?= .some (l[k]'hk):=Ef hk;rw[h k _ hx hk];refine .some ?_;cases hp:p l[k] with
  |true=>exact .inr ⟨k,_,hx,hp,rfl,hj⟩
  |false=>constructor<;>grind
 .rw[he];refine .some (.inl ⟨rfl,λx hx=>?_⟩);grind [He]
end
theorem gT(n a b:Int):fB n a b=some (decide (a<=n/\n<=b)):=by grind [fB]
theorem Cq(n:Nat):AL n=some (decide (n<2305843009213693951)):=by unfold AL;congr 2;grind
def l7(i:Ab):Bool:=decide (1<=i.By/\i.By<=12/\1<=i.Seq/\i.Seq<=2147483647/\i.Sum<2305843009213693951)
def Cr(n:Nat):Bool:=decide (1<=n/\n<2305843009213693951)
theorem mY(i:Ab):iM i=some (l7 i):=by grind [iM,l7,gT,Cq]
theorem kS(n:Nat):Jk n=some (Cr n):=by grind [Jk,Cr]
def yZ(b:Hh):Bool:=Cr b.To&&Cr b.Eph&&decide (b.Body<2305843009213693951)&&decide (b.Tag<2305843009213693951)
theorem Cs{l:List Hh}(hn:l.length<=1000000):T (qw l) λb=>b=l.all yZ:=by
 unfold qw;refine .bind ((T.search l (λb=> !yZ b) (λ_ _=>false) aa (λk x hx hk=>?_) ?_).mono ?_)
 .unfold qv;rw[eA hk,ax,au,hx];simp only[aL,kS,Cq];grind [yZ,aq]
 .unfold qv;rw[eF,AQ]
 .rintro r (⟨rfl,h⟩|⟨k,x,hx,hp,rfl,_⟩)
  .refine .some (Eq.symm (Hd.2 λx hx=>?_));have:=h x hx;simpa using this
  .refine .some (Eq.symm (Bool.eq_false_iff.2 λh=>?_));have:=Hd.1 h x (bO hx);rw[this] at hp;cases hp
theorem Ip{p:α->Bool}{step:Int->Option (Int⊕(Unit⊕Bool))}{next:Unit->Fm}{rest:Bool}(l:List α)(hl:l.length<=1000000)(h:∀(k:Nat) (x:α),l[k]?=some x->x∈l->k<l.length->step (k:Int)=some (bif p x then .inl ((k+1:Nat):Int)else .inr (.inr false)))(he:step (l.length:Int)=some (.inr (.inl ())))(hn:T (next ()) λb=>b=rest):T ((AH step 0).bind λx=>ma x next (λq=>some q)) λb=>b=(l.all p&&rest):=by
 refine .bind ((T.search l (λx=> !p x) (λ_ _=>false) aa (λk x hx hk=>?_) he).mono ?_)
 .grind
 .rintro r (⟨rfl,hr⟩|⟨k,x,hx,hp,rfl,_⟩)
  .have:l.all p=true:=by grind
   rw[this,Bool.true_and];exact hn
  .have:l.all p=false:=by grind
   rw[this,Bool.false_and];exact .some rfl
theorem Mq{p:α->Bool}{step:Int->Option (Int⊕(Unit⊕Bool))}{next:Unit->Fm}{rest:Bool}(l:List α)(hl:l.length<=1000000)(h:∀(k:Nat) (x:α),l[k]?=some x->x∈l->k<l.length->step (k:Int)=some (bif p x then .inr (.inr true)else .inl ((k+1:Nat):Int)))(he:step (l.length:Int)=some (.inr (.inl ())))(hn:T (next ()) λb=>b=rest):T ((AH step 0).bind λx=>ma x next (λq=>some q)) λb=>b=(l.any p||rest):=by
 refine .bind ((T.search l p (λ_ _=>true) aa (λk x hx hk=>?_) he).mono ?_)
 .grind
 .rintro r (⟨rfl,hr⟩|⟨k,x,hx,hp,rfl,_⟩)
  .have:l.any p=false:=by grind
   rw[this,Bool.false_or];exact hn
  .have:l.any p=true:=by grind
   rw[this,Bool.true_or];exact .some rfl
def yb(o:Bi):Bool:=o.Guards.all (λz=>decide (1<=z/\z<=12))&&(o.Refs.all (λn=>decide (n<2305843009213693951))&&(o.Past.all l7&&(o.Path.all (λn=>Cr n.Pub&&n.Boxes.all yZ)&&(o.Hist.all (λx=>l7 x.Of)&&o.Boxes.all yZ))))
theorem KA{o:Bi}(h:Be o):T (vw o) λb=>b=yb o:=by
 have n1:=h.nPast;have n2:=h.nPath;have a:=h.nRefs;have c:=h.nGuards;have d:=h.nHist;have f:=h.nBoxes;unfold vw yb;refine Ip o.Guards aa (λk x hx hm hk=>?_) (by unfold qB;rw[eF,AQ]) (Ip o.Refs aa (λk x hx hm hk=>?_) (by unfold qA;rw[eF,AQ]) (Ip o.Past aa (λk x hx hm hk=>?_) (by unfold qz;rw[eF,AQ]) (Ip o.Path aa (λk x hx hm hk=>?_) (by unfold qy;rw[eF,AQ]) (Ip o.Hist aa (λk x hx hm hk=>?_) (by unfold qx;rw[eF,AQ]) (by grind [Cs])))))
 .grind [qB,eA,au,aq,gT]
 .grind [qA,eA,au,aq,Cq]
 .grind [qz,eA,au,aq,mY]
 .have e:=(Cs (l:=x.Boxes) (by have:=(h.path x hm).n;omega)).eq;unfold qy;grind [eA,au,aq,kS]
 grind [qx,eA,au,aq,mY]
def Ct(o:Bi):Bool:=o.Path.any (λn=>decide (12<n.Boxes.length))||(o.Hist.any (λn=>decide (208<n.Body.length))||(decide (12<o.Past.length\/5<o.Path.length\/208<o.Body.length\/8<o.Refs.length\/20<o.Hist.length\/6<o.Guards.length)||(if o.Kind=7 then !decide (1<=o.Body.length/\o.Body.length<=20)else if o.Kind=9 then decide (o.Boxes.length≠o.Guards.length)else if o.Kind=10 then !decide (1<=o.Boxes.length/\o.Boxes.length<=6)else if o.Kind=11 then decide (o.Boxes.length≠1)else false)))
theorem Iq(l:List α)(n:Nat):decide ((n:Int)<ah l)=decide (n<l.length):=decide_eq_decide.2 (by unfold ah;omega)
theorem NZ{o:Bi}(h:Be o):T (z6 o) λb=>b=Ct o:=by
 have n1:=h.nPast;have n2:=h.nPath;have a:=h.nHist;unfold z6 Ct;refine Mq o.Path aa (λk x hx hm hk=>?_) (by unfold tV;rw[eF,AQ]) (Mq o.Hist aa (λk x hx hm hk=>?_) (by unfold tU;rw[eF,AQ]) ?_)
 .grind [tV,au,aq,ah]
 .grind [tU,au,aq,ah]
 .have a1:decide ((12:Int)<ah o.Past)=decide (12<o.Past.length):=Iq o.Past 12;have a2:decide ((5:Int)<ah o.Path)=decide (5<o.Path.length):=Iq o.Path 5;have a3:decide ((208:Int)<ah o.Body)=decide (208<o.Body.length):=Iq o.Body 208;have a4:decide ((8:Int)<ah o.Refs)=decide (8<o.Refs.length):=Iq o.Refs 8;have a5:decide ((20:Int)<ah o.Hist)=decide (20<o.Hist.length):=Iq o.Hist 20;have a6:decide ((6:Int)<ah o.Guards)=decide (6<o.Guards.length):=Iq o.Guards 6;have b1:decide ((1:Int)<=ah o.Body/\ah o.Body<=20)=decide (1<=o.Body.length/\o.Body.length<=20):=decide_eq_decide.2 (by unfold ah;omega);have b2:decide ((1:Int)<=ah o.Boxes/\ah o.Boxes<=6)=decide (1<=o.Boxes.length/\o.Boxes.length<=6):=decide_eq_decide.2 (by unfold ah;omega);have b3:decide (ah o.Boxes≠ah o.Guards)=decide (o.Boxes.length≠o.Guards.length):=decide_eq_decide.2 (by unfold ah;omega);have b4:decide (ah o.Boxes≠1)=decide (o.Boxes.length≠1):=decide_eq_decide.2 (by unfold ah;omega);rw[a1,a2,a3,a4,a5,a6];simp only[gT,aL,b1,b2,b3,b4,cL];refine⟨_,rfl,?_⟩;grind
def Ac4(o:Bi):Bool:=(mz o).getD false
theorem Cu(o:Bi):mz o=some (Ac4 o):=by
 have:T (mz o) λ_=>True:=by unfold mz;repeat'(first|exact T.some trivial|(refine T.bindc ?_ λv _=>?_)|(refine T.ite (λ_=>?_) λ_=>?_))
 obtain⟨b,e,_⟩:=this;unfold Ac4;rw[e];rfl
def gU(o:Bi):Bool:=(FI o).getD false
theorem jF(o:Bi):FI o=some (gU o):=by
 have:T (FI o) λ_=>True:=by unfold FI;simp only[gT,mY,kS];repeat'(first|exact T.some trivial|(refine T.bindc ?_ λv _=>?_)|(refine T.ite (λ_=>?_) λ_=>?_))
 obtain⟨b,e,_⟩:=this;unfold gU;rw[e];rfl
def dt(a b:Ab):Bool:=if a.By≠b.By then decide (a.By<b.By)else if a.Seq≠b.Seq then decide (a.Seq<b.Seq)else decide (a.Sum<b.Sum)
theorem pJ(a b:Ab):oU a b=some (dt a b):=by unfold oU dt;rw[show decide ((a.Sum:Int)<(b.Sum:Int))=decide (a.Sum<b.Sum) from decide_eq_decide.2 aa];grind
structure FF (o:Bi):Prop where
 kind:1<=o.Kind/\o.Kind<=13
 bare:Ac4 o=true
 numbers:gU o=true
 items:yb o=true
 long:Ct o=false
 past:∀(k:Nat) (a b:Ab),o.Past[k]?=some a->o.Past[k+1]?=some b->dt a b=true
 guards:∀(k:Nat) (a b:Int),o.Guards[k]?=some a->o.Guards[k+1]?=some b->a<b
 create:o.Past=[]↔o.Kind=1
theorem F7(h:1<=k)(h2:k<2305843009213693952):wI ((k:Int)-1)=((k-1:Nat):Int):=by grind [bM]
theorem Cv{o:Bi}(h:Be o):T (qE o) λe=>e=0->FF o:=by
 have n1:=h.nPast;have f:=h.nGuards;unfold qE;rw[cL,aL];refine .ite (by grind [T.some]) λhk=>?_;rw[Cu,aL];refine .ite (by grind [T.some]) λhb=>?_;rw[jF,aL];refine .then (v:= !(gU o)|| !(yb o)) ?_ ?_
 .cases hn:gU o with
  |false=>exact .some rfl
  |true=>exact .then (KA h) (.some aC)
 refine .ite (by grind [T.some]) λhn=>?_;refine .then (NZ h) (.ite (by grind [T.some]) λhl=>?_);refine .bind (T.for1 o.Past.length (λk=>∀(j:Nat) (a b:Ab),j+1<k->o.Past[j]?=some a->o.Past[j+1]?=some b->dt a b=true) aa (by grind) (λk h1 hk hj=>?_) λk hge _ hj=>?_)
 .obtain⟨a0,e0⟩:∃a0,o.Past[k-1]?=some a0:=⟨_,Ef aa⟩;obtain⟨a1,e1⟩:∃a1,o.Past[k]?=some a1:=⟨_,Ef hk⟩;unfold qD;rw[eA hk,ax,F7 h1 aa,au,au,e0,e1,aq aa];simp only[aL,pJ];refine .ite (λ_=> .some (.some (by grind))) λc=> .some ⟨rfl,λj a b d ha hb'=>?_⟩;grind
 unfold qD;rw[show decide ((k:Int)<ah o.Past)=false from C5 (by unfold ah;omega),AQ];refine .some ?_;have hpast:∀(j:Nat) (a b:Ab),o.Past[j]?=some a->o.Past[j+1]?=some b->dt a b=true:=by grind
 clear hj;refine .bind (T.for1 o.Guards.length (λk=>∀(j:Nat) (a b:Int),j+1<k->o.Guards[j]?=some a->o.Guards[j+1]?=some b->a<b) aa (by grind) (λk h1 hk hj=>?_) λk hge _ hj=>?_)
 .obtain⟨a0,e0⟩:∃a0,o.Guards[k-1]?=some a0:=⟨_,Ef aa⟩;obtain⟨a1,e1⟩:∃a1,o.Guards[k]?=some a1:=⟨_,Ef hk⟩;unfold qC;rw[eA hk,ax,F7 h1 aa,au,au,e0,e1,aq aa];simp only[aL];refine .dec (λ_=> .some (.some (by grind))) λc=> .some ⟨rfl,λj a b d ha hb'=>?_⟩;grind
 unfold qC;rw[show decide ((k:Int)<ah o.Guards)=false from C5 (by unfold ah;omega),AQ];refine .some ?_;have hguards:∀(j:Nat) (a b:Int),o.Guards[j]?=some a->o.Guards[j+1]?=some b->a<b:=λj a b ha hb'=>hj j a b (by grind) ha hb';rw[cL,cL,cL,aL];refine .ite (by grind [T.some]) λhc=> .some λ_=>⟨?_,?_,?_,?_,hl,hpast,hguards,?_⟩
 .grind
 .simpa using hb
 .grind
 .grind
 .have e:ah o.Past=0↔o.Past=[]:=by unfold ah;simp_all
  grind
theorem KB{p:Nat}{b:CO}{s:XJ}(hp:fS p)(hS:fS s.S)(hb:b.length<=1073741824):T (jJ p b s) λ_=>True:=by
 unfold jJ;have e:fV=some 2305843009213693950:=rfl;simp only[e,aL];refine .bindc ?_ λj _=>?_
 .grind [T.some]
 .refine .ite (λ_=> .some trivial) λ_=>?_;refine .bind ((ka _ hS).mono (by grind [T.bind,T.mono,QE,ka,wL,T.some]))
section
variable {K:Type} [DecidableEq K]
theorem gb{k:K}:∀{l:List K} {n:Nat},bu k l=some n->l[n]?=some k/\∀j,j<n->l[j]?≠some k
 |[],n,h=>by cases h
 |x::r,n,h=>by
  unfold bu at h;split at h
  .grind
  .rename_i e;rw[DF] at h;obtain⟨a,h',rfl⟩:=h;obtain⟨h1,h2⟩:=gb h';grind
theorem jv{k:K}:∀{l:List K},bu k l=none↔k∉l
 |[]=>by simp[bu]
 |x::r=>by
  unfold bu;by_cases h:k=x
  .simp[h]
  .simp[h,jv (l:=r)]
theorem y0{k:K}{l:List K}(h:l[n]?=some k)(h2:∀j,j<n->l[j]?≠some k):bu k l=some n:=by
 cases hk:bu k l with
 |none=>grind [jv]
 |some m=>obtain⟨h3,h4⟩:=gb hk;grind
end
def gO(g:A7)(id:Ab):Int:=match bu id g.IDs with
 |none=> -1
 |some k=>(k:Int)
theorem dC{g:A7}(hn:g.IDs.length<=1000000)(id:Ab):fC g id=some (gO g id):=by
 unfold fC;refine T.eq (.bind ((T.search g.IDs (λx=>decide (x=id)) (λk _=>(k:Int)) aa (λk x hx hk=>?_) ?_).mono ?_))
 .grind [qF,eA,au,aq]
 .grind [qF,eF]
 .rintro r (⟨rfl,h⟩|⟨k,x,hx,hp,rfl,h⟩)
  .have:bu id g.IDs=none:=by grind [jv]
   refine .some ?_;grind [gO]
  .have hp:=DS hp;subst hp;have:bu x g.IDs=some k:=by grind [y0]
   refine .some ?_;grind [gO]
def UW:DP:=⟨0,0,0,0,0⟩
def mZ(g:A7)(d:Int):DP×Bool:=match g.Cards.find? (λc=>decide (c.Device=d)) with
 |none=>(UW,false)
 |some c=>(c,true)
theorem Cw{g:A7}(hn:g.Cards.length<=1000000)(d:Int):vz g d=some (mZ g d):=by
 unfold vz;refine T.eq (.bind (T.forA g.Cards.length (λk acc=>acc=UW/\∀(j:Nat) (c:DP),j<k->g.Cards[j]?=some c->c.Device≠d) aa ⟨rfl,(by grind)⟩ (λk acc hk hj=>?_) λacc hj=>?_))
 .obtain⟨c,hc⟩:∃c,g.Cards[k]?=some c:=⟨_,Ef hk⟩;unfold tX;dsimp only;rw[eA hk,ax,au,hc,aL];refine .dec (λh=>?_) λh=> .some ⟨aq aa,hj.1,λj c' a b=>?_⟩
  .refine .some (.some ?_);grind [mZ,List.find?_eq_some_iff_getElem]
  grind
 .unfold tX;dsimp only;rw[eF,AQ];refine .some (.some ?_);unfold mZ;have:g.Cards.find? (λc=>decide (c.Device=d))=none:=by grind [He]
  rw[this];rfl
def QF(l:Bk)(n:Int):Bool:=l.any λx=>decide (x=n)
theorem cX{l:Bk}(hn:l.length<=1000000)(n:Int):fb l n=some (QF l n):=by unfold fb QF;refine T.eq ((Mq l hn (rest:=false) (next:=λ_=>some false) (λk x hx hm hk=>?_) ?_ (.some rfl)).mono λv hv=>by simpa using hv);all_goals grind [xq,eA,au,aq,eF]
def nA(l:A3)(n:Ab):Bool:=l.any λx=>decide (x=n)
theorem kf(hn:l.length<=1000000)(n:Ab):jL l n=some (nA l n):=by unfold jL nA;refine T.eq ((Mq l hn (rest:=false) (next:=λ_=>some false) (λk x hx hm hk=>?_) ?_ (.some rfl)).mono λv hv=>by simpa using hv);all_goals grind [qJ,eA,au,aq,eF]
def O9(g:A7)(i k:Nat):Bool:=((g.In[i]?).bind λr=>r[k]?).getD false
structure Fo (g:A7):Prop where
 nL:g.L.length<=200
 nI:g.IDs.length=g.L.length
 nU:g.Up.length=g.L.length
 nN:g.In.length=g.L.length
 nC:g.Cards.length<=1000
 cards:∀c∈g.Cards,c8 c.Device/\c8 c.Member/\fS c.Sign
 up:∀(i:Nat) (u:Bk),g.Up[i]?=some u->u.length<=12/\∀x∈u,0<=x/\x<(i:Int)
 rows:∀(i:Nat) (r:List Bool),g.In[i]?=some r->r.length=g.L.length
 inlt:∀i k,O9 g i k=true->k<i/\i<g.L.length
 ops:∀(i:Nat) (o:Bi),g.L[i]?=some o->Be o/\FF o/\fS o.Sig.S
 ids:∀(i:Nat) (o:Bi) (id:Ab),g.L[i]?=some o->g.IDs[i]?=some id->pV o=some id
 nd:g.IDs.Nodup
 one:∀(i k:Nat) (u:Bk),g.Up[i]?=some u->(k:Int)∈u->O9 g i k=true
 tr:∀(i j k:Nat) (u:Bk),O9 g i j=true->g.Up[j]?=some u->(k:Int)∈u->O9 g i k=true
 la:∀(i k:Nat),O9 g i k=true->∃u,g.Up[i]?=some u/\((k:Int)∈u\/∃j v,O9 g i j=true/\g.Up[j]?=some v/\(k:Int)∈v)
def Hi(g:A7)(up:Bk)(k:Nat):Prop:=(k:Int)∈up\/∃j:Nat,(j:Int)∈up/\O9 g j k=true
theorem yc{g:A7}(w:Fo g){up:Bk}(h1:up.length<=1000)(h2:∀x∈up,0<=x/\x<(g.L.length:Int)):T (jA g up) λr=>r.length=g.L.length/\∀k,k<g.L.length->(r[k]?=some true↔Hi g up k):=by
 have nL:=w.nL;unfold jA;refine .bind (.make (by unfold ah;omega) (by unfold ah;omega) (by unfold ah;omega) ?_);have e0:wI (ah g.L-1)=(g.L.length:Int)-1:=bM (by unfold ah;omega) (by unfold ah;omega);rw[e0];have e1:(ah g.L).toNat=g.L.length:=by unfold ah;omega
 rw[e1];refine .bind (T.loop (λs=> -1<=s.2/\s.2<g.L.length/\s.1.length=g.L.length/\(∀k:Nat,k<g.L.length->s.2<k->(s.1[k]?=some true↔Hi g up k))/\∀k:Nat,(k:Int)<=s.2->(s.1[k]?=some true↔∃j v,s.2<(j:Nat)/\Hi g up j/\j<g.L.length/\g.Up[j]?=some v/\(k:Int)∈v)) (λs=>(s.2+1).toNat) ⟨by simp only;omega,by simp only;omega,aC,λk hk hi=>by simp only at hi;omega,λk hk=>?_⟩ (by grind) ?_)
 .simp only at hk⊢;constructor
  .intro h;rw[List.getElem?_replicate] at h;split at h<;>cases h
  .rintro⟨j,v,hj,_,hjl,_⟩;omega
 rintro⟨r,i⟩ ⟨p,i1,f,l,a⟩;simp only at p i1 f l a;unfold AJ;dsimp only;refine .dec (λhi=>?_) λhi=> .some (.some ⟨f,λk hk=>l k hk aa⟩);obtain⟨n,rfl⟩:∃n:Nat,i=(n:Int):=⟨i.toNat,aa⟩;have hn:n<g.L.length:=aa;rw[cX aa,aL];have hUp:∃u,g.Up[n]?=some u:=⟨_,Ef (by rw[w.nU];exact hn)⟩;obtain⟨u,hu⟩:=hUp;obtain⟨u1,o⟩:=w.up n u hu;have hbeh:∀k,Hi g up k↔((k:Int)∈up\/∃j v,Hi g up j/\g.Up[j]?=some v/\(k:Int)∈v):=λk=>by
  constructor
  .rintro(h|⟨j,hj,c⟩)
   .exact .inl h
   .obtain⟨v,hv,hk|⟨m,v',h3,h4,h5⟩⟩:=w.la j k c
    .exact .inr ⟨j,v,.inl hj,hv,hk⟩
    .exact .inr ⟨m,v',.inr ⟨j,hj,h3⟩,h4,h5⟩
  .rintro(h|⟨j,v,hj|⟨m,hm,d⟩,hv,hk⟩)
   .exact .inl h
   .exact .inr ⟨j,hj,w.one j k v hv hk⟩
   .exact .inr ⟨m,hm,w.tr m j k v d hv hk⟩
 have hlt:∀(j:Nat) (v:Bk) (k:Nat),g.Up[j]?=some v->(k:Int)∈v->k<j:=λj v k hv hk=>by have:=(w.up j v hv).2 _ hk;omega
 refine .bind (T.mono (Q:=λs=>s.length=g.L.length/\(∀k:Nat,k≠n->s[k]?=r[k]?)/\(s[n]?=some true↔Hi g up n)) ?_ ?_)
 .have key:(r[n]?=some true\/(n:Int)∈up)↔Hi g up n:=by grind [Fo.nU]
  refine .ite (λhh=>?_) λhh=>?_
  .have hm:(n:Int)∈up:=by obtain⟨x,hx,hb⟩:=List.any_eq_true.1 hh;grind
   grind [T.set,E0]
  grind [QF,T.some]
 .rintro s ⟨s1,s2,s3⟩;obtain⟨b,hb⟩:∃b,s[n]?=some b:=⟨_,Ef aa⟩;rw[au,hb,aL];have ew:wI ((n:Int)-1)=(n:Int)-1:=bM aa aa;refine .ite (λhbt=>?_) λhbf=>?_
  .have hbt:b=true:=hbt;subst hbt;have hbn:=s3.1 hb;refine .bind (T.mono (Q:=λt=>t.length=g.L.length/\∀k:Nat,t[k]?=some true↔(s[k]?=some true\/(k:Int)∈u)) (T.forA u.length (λm t=>t.length=g.L.length/\∀k:Nat,t[k]?=some true↔(s[k]?=some true\/∃j,j<m/\u[j]?=some (k:Int))) aa ⟨s1,λk=>aC⟩ (λm t hm hj=>?_) λt hj=>?_) ?_)
   .obtain⟨x,hx⟩:∃x,u[m]?=some x:=⟨_,Ef hm⟩;have e:=o x (bO hx);unfold tT;dsimp only;rw[au,hu,aL,eA hm,ax,aL,au,hx,aL];refine .bind (.set e.1 (by grind) (.some ⟨aq aa,by grind,λk=>?_⟩));obtain⟨y,rfl⟩:∃y:Nat,x=(y:Int):=⟨x.toNat,aa⟩;simp only[E0];by_cases hk:k=y
    .grind
    .rw[List.getElem?_set_ne (Ne.symm hk),hj.2 k];grind
   .unfold tT;dsimp only;rw[au,hu,aL,eF,AQ];refine .some ⟨hj.1,λk=>?_⟩;rw[hj.2 k];constructor
    .grind
    .rintro(h|h)
     .exact .inl h
     .obtain⟨j,hj'⟩:=He h;grind
   .rintro t ⟨q,t2⟩;refine .some ⟨⟨?_,?_,q,λk hk hik=>?_,λk hk=>?_⟩,?_⟩
    .grind
    .grind
    .replace hik:wI ((n:Int)-1)<k:=hik;rw[ew] at hik;show t[k]?=some true↔_;rw[t2 k];have hku:(k:Int)∉u:=λh=>by have:=o _ h;omega
     rcases Nat.lt_trichotomy k n with h|rfl|h
     all_goals grind
    .replace hk:(k:Int)<=wI ((n:Int)-1):=hk;rw[ew] at hk;show t[k]?=some true↔∃j v,wI ((n:Int)-1)<(j:Nat)/\_;rw[ew,t2 k,s2 k aa,a k aa];grind
    .show(wI ((n:Int)-1)+1).toNat<_;rw[ew];omega
  .have hbf:b=false:=hbf;subst hbf;have hbn:¬Hi g up n:=λh=>by have:=s3.2 h;rw[hb] at this;cases this
   refine .some ⟨⟨?_,?_,s1,λk hk hik=>?_,λk hk=>?_⟩,?_⟩
   .grind
   .grind
   .grind
   .replace hk:(k:Int)<=wI ((n:Int)-1):=hk;rw[ew] at hk;show s[k]?=some true↔∃j v,wI ((n:Int)-1)<(j:Nat)/\_;rw[ew,s2 k aa,a k aa];grind
   .show(wI ((n:Int)-1)+1).toNat<_;rw[ew];omega
end Go.Proofs.YtlijnaneopediaaGreatDoor
