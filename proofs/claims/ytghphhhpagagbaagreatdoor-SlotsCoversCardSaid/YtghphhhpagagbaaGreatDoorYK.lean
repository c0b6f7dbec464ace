/- Texts. -/
import Derived.Test.YtghphhhpagagbaaGreatDoorP4
namespace Go.Proofs.YtghphhhpagagbaaGreatDoor
set_option linter.unusedSectionVars false
set_option linter.unusedVariables false
set_option linter.unusedSimpArgs false
open Go.RowKit Tryz
variable (gl:CM)
variable {K V α:Type}{l:Ba}{r srt:Bb}{m:FM K V}{e:K×V×Nat}{seen:Bq}{R:Ad}{i x:Ab}{k n:Nat}{P:Br}{fn:Func}{t:Bo}{g:Aj}
section
attribute [local irreducible] Tr dz Gp
abbrev KS(l:Bb):Option Ob:=some ⟨3,l.flatMap cZ,none⟩
def Aam(s:Bb×Int):Option ((Bb×Int)⊕Bb):=
 bif 0<s.2 then(aS s.1 s.2).bind λa=>(aS s.1 (wI (s.2-1))).bind λb=>bif a<b then(ji s.1 s.2 b).bind λc=>(ji c (wI (s.2-1)) a).bind λd=>some (.inl (d,wI (s.2-1)))else some (.inr s.1)else some (.inr s.1)
def Acn(n:Int)(s:Bb×Int):Option ((Bb×Int)⊕Bb):=
 bif s.2<n then(AB Aam (s.1,s.2)).bind λl=>some (.inl (l,wI (s.2+1)))else some (.inr s.1)
def inZ(l:Bb):Option Bb:=AB (Acn (ah l)) (l,wI (0+1))
theorem Ahk(a b:Int):ba prog gl 309 [iG a,iG b] (bG (decide (a<b))):=VG gl (by unfold Uy Gd;simp)
theorem Anj{l c d:Bb}{i j a b:Int}(h1:ji l i b=some c)(h2:ji c j a=some d):fh prog 22 (.rsl 0 0 l.length) j=some (.ref 0 (0+j.toNat*1)):=by rw[hZ h1];exact rZ.ixsZ 0 h2
theorem Ahl{l:Bb}(h:inZ l=some r):jg prog gl 303 [.rsl 0 0 l.length,iG 0,iG (ah l)] [(0,KS l)] 1 (.tup []) [(0,KS r)] 1:=by
 unfold inZ at h;refine pP func303 ?_;refine pN (λs:Bb×Int=>(s0 49 gl [(0,.rsl 0 0 s.1.length),(1,iG 0),(2,iG (ah l)),(6,iG s.2)] [(0,KS s.1)] 1 1)) 1122 h [] [hc (el l),hc (rZ.imm l)] (λB s w hs k5 g=>?_) [] [(0,0)] [(0,.row)];obtain⟨l1,i⟩:=s;unfold Acn at hs;dsimp only at hs;rcases bC hs with⟨b1,hs⟩|⟨b1,hs⟩
 .obtain⟨l2,e2,hs⟩:=bS hs;obtain rfl:=Bj hs;refine Ix 11221021 (s0 49 gl [(0,.rsl 0 0 l2.length),(1,iG 0),(2,iG (ah l)),(6,iG i)] [(0,KS l2)] 1 1) ?_ λkk=>?_
  .exact jw [] [hc (el l2),hc (rZ.imm l2)] (k5 _ rfl) [] [(0,0)] [(0,.row)]
  refine pN (λs:Bb×Int=>(s0 49 gl [(0,.rsl 0 0 s.1.length),(1,iG 0),(2,iG (ah l)),(6,iG i),(7,iG s.2)] [(0,KS s.1)] 1 1)) 1122102122 e2 [hr 12 b1] [hc (el l1),hc (rZ.imm l1)] (λn z v hz k e=>?_) [] [(0,0)] [(0,.row)];obtain⟨l3,j⟩:=z;unfold Aam at hz;dsimp only at hz;rcases bC hz with⟨b2,hz⟩|⟨b2,hz⟩
  .obtain⟨a,d,hz⟩:=bS hz;obtain⟨b,eb,hz⟩:=bS hz;have c:=Ahk gl a b;rcases bC hz with⟨b3,hz⟩|⟨b3,hz⟩
   .obtain⟨m,e1,hz⟩:=bS hz;obtain⟨f,e3,hz⟩:=bS hz;obtain rfl:=Bj hz;rw[b3] at c;exact jw [hr 18 b2,AA 22 (rZ.ixrZ 0 d),AA 23 (rZ.p10Z tZ d),AA 27 (rZ.ixrZ 0 eb),AA 28 (rZ.p10Z tZ eb),hf 29 c,AA 41 (rZ.ixrZ 0 eb),AA 42 (rZ.p10Z tZ eb),AA 45 (rZ.ixrZ 0 d),AA 46 (rZ.p10Z tZ d),AA 47 (rZ.ixsZ 0 e1),hw 47 (m.flatMap cZ) (rZ.putZ e1),AA 48 (Anj e1 e3),hw 48 (f.flatMap cZ) (rZ.putZ e3)] [hc ((hZ e1).trans (hZ e3)),hc (rZ.imm f)] (k _ rfl) [] [(0,0)] [(0,.row)]
   .obtain rfl:=Bj hz;obtain rfl:=e _ rfl;rw[b3] at c;exact yl 11221021 [hr 18 b2,AA 22 (rZ.ixrZ 0 d),AA 23 (rZ.p10Z tZ d),AA 27 (rZ.ixrZ 0 eb),AA 28 (rZ.p10Z tZ eb),hf 29 c] [hc (el l3),hc (rZ.imm l3)] kk [] [(0,0)] [(0,.row)]
  .obtain rfl:=Bj hz;obtain rfl:=e _ rfl;exact yl 11221021 [hr 18 b2] [hc (el l3),hc (rZ.imm l3)] kk [] [(0,0)] [(0,.row)]
 .obtain rfl:=Bj hs;obtain rfl:=g _ rfl;exact mt .normal (s0 49 gl [] [(0,KS l1)] 1 1) [] [hr 12 b1] [hc (rZ.imm l1)] (ρ:=[(0,0)]) (kd:=[(0,.row)])
theorem Ahm{l:Bb}(hl:l.length<=12)(h:inZ l=some r)(k:Int):jg prog gl 249 [.rsl 0 0 l.length,iG 0,iG (ah l),iG k] [(0,KS l)] 1 (.tup []) [(0,KS r)] 1:=by
 have e:wI (ah l-0)=ah l:=by grind [bM,ah]
 have hd:decide (wI (ah l-0)<=12)=true:=by grind [ah]
 refine pP func249 ?_;refine pN (λ_:Unit=>(s0 134 gl [(0,.rsl 0 0 l.length),(1,iG 0),(2,iG (ah l)),(3,iG k)] [(0,KS l)] 1 1)) 11122 Lg [] [hc (el l),hc (rZ.imm l)] (λa z v hz2 b c=>?_) [] [(0,0)] [(0,.row)];exact mt .ret (s0 134 gl [] [(0,KS r)] 1 1) [] [hr 23 hd,tN 27 [0] 1 [(0,KS l)] [.rsl 0 0 l.length,iG 0,iG (ah l)] [(0,KS r)] (Ahl gl h) ⟨⟨rfl,.inr ⟨rfl,rZ.imm l⟩⟩,trivial⟩ ⟨⟨rfl,.inr ⟨rfl,rZ.imm r⟩⟩,trivial⟩] [hc (rZ.imm r)] (ρ:=[(0,0)]) (kd:=[(0,.row)])
theorem PK{l:Bb}(hl:l.length<=12)(h:inZ l=some r):jg prog gl 157 [.rsl 0 0 l.length] [(0,KS l)] 1 (.tup []) [(0,KS r)] 1:=by
 have e:wU (ah l)=l.length:=by unfold ah;rw[gP];omega
 have hb:ba prog gl 193 [uG (wU (ah l):Int)] (iG (WZ l.length:Int)):=by rw[e];exact RC gl aa
 refine pP func157 ?_;exact mt .normal (s0 11 gl [] [(0,KS r)] 1 1) [] [AA 8 (C8 (ah l)),hf 9 hb,tN 10 [0] 1 [(0,KS l)] [.rsl 0 0 l.length,iG 0,iG (ah l),iG (WZ l.length:Int)] [(0,KS r)] (Ahm gl hl h (WZ l.length:Int)) ⟨⟨rfl,.inr ⟨rfl,rZ.imm l⟩⟩,trivial⟩ ⟨⟨rfl,.inr ⟨rfl,rZ.imm r⟩⟩,trivial⟩] [hc (rZ.imm r)] (ρ:=[(0,0)]) (kd:=[(0,.row)])
end
theorem AfC{A B:List α}{x:α}:(A++x::B)[A.length]?=some x:=aC
def PL(l:Bb):Prop:=l.Pairwise λa b=>a<=b
theorem AfD{S R:Bb}{x:Int}(hn:(S++x::R).length<=1000)(hs:PL S):T (AB Aam (S++x::R,(S.length:Int))) λr=>∃S',r=S'++R/\S'.length=S.length+1/\PL S'/\S'.Perm (x::S):=by
 have hl:S.length+R.length+1<=1000:=by simp at hn;omega
 refine T.loop (λs=>∃b a,s.1=b++x::(a++R)/\s.2=(b.length:Int)/\S=b++a/\∀y∈a,x<=y) (λs=>s.2.toNat) ⟨S,[],rfl,rfl,aC,aC⟩ (by show((S.length:Int)).toNat<_;omega) ?_;rintro⟨l,j⟩ ⟨b,a,e1,e2,e3,e4⟩;dsimp only at e1 e2;subst e1 e2 e3;have fin:(∀y∈b,y<=x)->∃S',b++x::(a++R)=S'++R/\S'.length=(b++a).length+1/\PL S'/\S'.Perm (x::(b++a)):=λh=>by refine⟨b++x::a,aC,by simp;omega,?_,List.perm_middle⟩;grind [PL,List.pairwise_cons]
 unfold Aam;dsimp only;rcases List.eq_nil_or_concat b with rfl|⟨A,y,rfl⟩
 .rw[C6 aC,A9];exact .some (fin aC)
 .have hA:((A++[y]).length:Int)=((A.length+1:Nat):Int):=aC;have hAl:A.length<=1000:=by simp at hl;omega
  have ew:wI (((A.length+1:Nat):Int)-1)=(A.length:Int):=by grind [bM]
  rw[List.concat_eq_append] at*;rw[hA,C3 aa,ax,au,ew,au];have eq1:A++[y]++x::(a++R)=A++y::x::(a++R):=aC;have g1:(A++[y]++x::(a++R))[A.length+1]?=some x:=by simp
  have g2:(A++[y]++x::(a++R))[A.length]?=some y:=by rw[eq1];exact AfC
  rw[g1,g2];simp only[aL];refine .dec (λc=>?_) λh=> .some (fin λz hz=>?_)
  .have s1:ji (A++[y]++x::(a++R)) ((A.length+1:Nat):Int) y=some (A++[y]++y::(a++R)):=by unfold ji;rw[Bu ⟨aa,aC⟩,FF];simp_all
   have s2:ji (A++[y]++y::(a++R)) (A.length:Int) x=some (A++x::(y::a++R)):=by unfold ji;simp_all
   rw[s1,aL,s2,aL];refine .some ⟨⟨A,y::a,rfl,rfl,aC,λz hz=>?_⟩,?_⟩
   .grind
   simp_all
  .have hyx:y<=x:=aa;rcases I9.1 hz with hz|hz
   .have hs':=hs;unfold PL at hs';rw[List.append_assoc,List.pairwise_append] at hs';exact Int.le_trans (hs'.2.2 z hz y aC) hyx
   grind
theorem Adh{l:Bb}(hn:l.length<=1000):T (inZ l) λr=>r.Perm l/\PL r:=by
 unfold inZ;refine T.loop (λs=>∃S R,s.1=S++R/\PL S/\(S++R).Perm l/\((S.length:Int)=s.2\/(l=[]/\S=[]/\R=[]/\s.2=1))) (λs=>1002-s.2.toNat) ?_ (by show 1002-_<_;omega) ?_
 .cases l with
  |nil=>exact⟨[],[],rfl,.nil,.refl _,.inr ⟨rfl,rfl,rfl,rfl⟩⟩
  |cons a r=>exact⟨[a],r,rfl,List.pairwise_singleton _ _,.refl _,.inl rfl⟩
 rintro⟨l1,i⟩ ⟨S,R,e1,e2,e3,e4⟩;dsimp only at e1 e4;subst e1;have hlen:=e3.length_eq;unfold Acn;dsimp only;refine .dec (λhlt=>?_) λhge=> .some ⟨e3,?_⟩
 .unfold ah at hlt;rcases e4 with rfl|⟨rfl,rfl,rfl,rfl⟩
  rotate_left
  .simp at hlt
  cases R with
  |nil=>simp at hlen;omega
  |cons x R=>refine .bind ((AfD (by rw[hlen];exact hn) e2).mono λr ⟨S',b,d,c,r4⟩=> .some ⟨⟨S',R,b,c,?_,.inl ?_⟩,?_⟩);all_goals grind [bM]
 .unfold ah at hge;rcases e4 with rfl|⟨rfl,rfl,rfl,rfl⟩
  .have:R=[]:=List.eq_nil_of_length_eq_zero (by simp at hlen;omega);subst this;simpa using e2
  .exact .nil
theorem Adi{ks:Bb}(hs:PL srt)(hp:ks.Perm srt)(hn:srt.length<=1000):inZ ks=some srt:=by obtain⟨r,e,p,s⟩:=Adh (l:=ks) (by rw[hp.length_eq];exact hn);rw[e];refine congrArg some ?_;refine List.Perm.eq_of_pairwise (le:=λa b=>a<=b) (λa b _ _ h1 h2=>?_) s hs (p.trans hp);exact Int.le_antisymm h1 h2
section
attribute [local irreducible] Tr dz Gp
def ksQ{K V:Type}(m:FM K V)(seen:Bq):List K:=seen.filterMap λn=>(m.es.find? λe=>Nat.beq e.2.2 n).map (·.1)
theorem Adj(hm:FxOk m){seen:Bq}(he:e∈m.es):ksQ m (seen++[e.2.2])=ksQ m seen++[e.1]:=by
 unfold ksQ;rw[List.filterMap_append];have:∀{es:List (K×V×Nat)},(es.map (·.2.2)).Nodup->e∈es->es.find? (λx=>Nat.beq x.2.2 e.2.2)=some e:=by
  intro es;induction es with
  |nil=>intro _ h;cases h
  |cons x r ih=>
   intro hd h;rw[Fi,MI] at hd;rcases EQ.1 h with rfl|h
   .simp
   grind [bc]
 simp[this hm.nd he]
def KsQ{K V:Type}(m:FM K V)(seen:Bq):Prop:=seen.Nodup/\∀n∈seen,n∈m.es.map (·.2.2)
theorem QN{l m:Bq}(hd:l.Nodup)(hs:∀x∈l,x∈m):l.length<=m.length:=by
 induction l generalizing m with
 |nil=>exact Nat.zero_le _
 |cons a r ih=>rw[MI] at hd;have ha:=hs a aC;have:=ih (m:=m.erase a) hd.2 λx hx=>(List.mem_erase_of_ne (λe:x=a=>hd.1 (by rw[<-e];exact hx))).2 (hs x (by simp[hx]));grind
theorem Adk{seen:Bq}(h:KsQ m seen):(ksQ m seen).length<=m.es.length:=by have h1:=QN h.1 h.2;grind [ksQ]
theorem Aao:KsQ m []:=⟨.nil,aC⟩
theorem Aap{seen:Bq}(h:KsQ m seen)(he:e∈m.es)(hn:e.2.2∉seen):KsQ m (seen++[e.2.2]):=by
 refine⟨?_,λn hx=>?_⟩
 .rw[List.nodup_append];exact⟨h.1,aC,(by grind)⟩
 .rcases I9.1 hx with hx|hx
  .exact h.2 n hx
  grind
theorem AfG(hm:FxOk m)(h:KsQ m seen)(ha:∀e∈m.es,e.2.2∈seen):(ksQ m seen).Perm (m.es.map (·.1)):=by
 have hp:seen.Perm (m.es.map (·.2.2)):=(List.perm_ext_iff_of_nodup h.1 hm.nd).2 λn=>⟨h.2 n,(by grind)⟩;have h1:(ksQ m seen).Perm (ksQ m (m.es.map (·.2.2))):=hp.filterMap _;have h2:∀es:List (K×V×Nat),(∀e∈es,e∈m.es)->ksQ m (es.map (·.2.2))=es.map (·.1):=by
  intro es;induction es with
  |nil=>intro _;rfl
  |cons e r ih=>intro hh;have:=Adj hm (seen:=[]) (hh e aC);grind [ksQ]
 grind
abbrev Yi:Bo:=138
abbrev Un(m:FM Int Bool):Option Ob:=some (Nl Yi JR bG m)
abbrev OS(i:Nat):G:= .clo (.func 158) [] [.ref i 0]
abbrev Zv:Option Ob:=some ⟨Yi,[.mref 1],none⟩
abbrev bxI(g:G):Option Ob:=some ⟨22,[g],none⟩
abbrev KSZ(m:FM Int Bool):Type:={ks:Bb//ks.Perm (m.es.map (·.1))}
noncomputable abbrev cAZ:Code:=bq 11012 (ai Tryz.f248)
noncomputable abbrev AfH(st:LoopState):Option Ob:=some ⟨0,[],some (.loop st none 13 [(2,.ref 2 0)] (Dy cAZ) (Dz cAZ) (DA cAZ))⟩
abbrev Ajt(clock:Nat)(seen:Bq):Option Ob:=some ⟨Yi,[],some (.iter (some 1) clock seen clock)⟩
theorem YA(m:FM Int Bool):∀e∈mEs JR bG m,bB e.2.1:=QL λv=>mN _
abbrev AfI:Fr:=[(0,.yld 3),(5,.ref 4 0)]
noncomputable abbrev σKZ(m:FM Int Bool)(seen:Bq)(l:Bb):aQ:=[(0,Zv),(1,Un m),(2,bxI (.rsl 5 0 l.length)),(3,AfH .ready),(4,Ajt m.clk seen),(5,KS l)]
noncomputable abbrev σKY(m:FM Int Bool)(seen:Bq)(a:Bb):aQ:=[(0,Zv),(1,Un m),(2,bxI (.rsl 6 0 a.length)),(3,AfH .busy),(4,Ajt m.clk seen),(6,KS a)]
theorem Acp{m:FM Int Bool}(hm:FxOk m)(hn:m.es.length<=1000):Xx prog gl 248 [.lit (.slice none 0 0),OS 0] [(0,Zv),(1,Un m)] 2 (ι:=KSZ m) (λx=> .rsl 2 0 x.1.length) (λx=>[(0,Zv),(1,Un m),(2,KS x.1)]) (λ_=>3):=by
 refine dMF func248 ?_;refine YR [1,0,1,2] (s0 13 gl [(2,.ref 2 0),(6,OS 0)] [(2,bxI (.lit (.slice none 0 0))),(0,Zv),(1,Un m)] 3 2) [] ?_;refine Xt (fst:=[]) (cap:=[.ref 0 0]) Tryz.f158 func158 ?_;refine pO [0] (s0 14 gl [(0,.yld 3),(1,.ref 0 0)] [(0,Zv),(1,Un m),(2,bxI (.lit (.slice none 0 0))),(3,AfH .ready)] 4 4) [] [hc (YA m)] ?_ [] [(0,0),(1,1),(2,2),(3,3)];refine yl (Bs':=[]) [0] (J:=(s0 14 gl AfI (σKZ m [] []) 6 4)) [] [hc (YA m),hc (rZ.imm [])] ?_ (vs:=[3]) (ρ:=rI 6) (kd:=[(5,.row)]);refine dNx [1] ?_;refine dMw 5 6 7 0 (iti:=4) (mi:=1) (clock:=m.clk) (since:=m.clk) (T:=Yi) (ty:=Yi) (es:=mEs JR bG m) (λseen=>(s0 14 gl AfI (σKZ m seen (ksQ m seen)) 6 4)) (KsQ m) Aao (by grind [FxOk]) rfl (Le.refl _) (λseen=>rfl) (λseen=>rfl) (by grind) (λB seen k g n hI hme hns c=>?_) (λseen hI hs=>?_)
 .obtain⟨e,he,d⟩:=Fq.1 hme;simp only[Gq] at d;obtain⟨rfl,rfl,rfl⟩:=d;have hl:=Adk hI;have c:=c (Aap hI he hns);rw[Adj hm he] at c;generalize ksQ m seen=l at hl c⊢;have hge:jr ((4,Ajt m.clk (seen++[e.2.2]))::σKZ m seen l) (.ref 4 0)=some (.tup [db (JR e.1),bG e.2.1]):=yo (iti:=4) (mi:=1) (since:=m.clk) (clock:=m.clk) (T:=Yi) (ty:=Yi) (seen:=seen) rfl rfl (by rw[IH];exact hm.nd) hme;refine pO 112211210 (s0 14 gl ((3,iG e.1)::AfI) (σKZ m (seen++[e.2.2]) l) 6 4) [YT 8 hge] [hc (YA m),hc (rfl:l.length=l.length),hc (rZ.imm l)] ?_ [] [(0,0),(1,1),(2,2),(3,3),(4,4),(5,5)] [(5,.row)];refine Xw (i:=3) (j:=2) (n:=13) (t:=0) (t2:=0) (pe:=none) (fr:=[(2,.ref 2 0)]) (ps:=Dy cAZ) (a:=Dz cAZ) (b:=DA cAZ) (s1:=(s0 14 gl ([(11,iG e.1),(10,.yld 3),(3,iG e.1)]++AfI) (σKZ m (seen++[e.2.2]) l) 6 4))
   (s3:=(s0 14 gl ([(13,bG false),(12,bG true),(11,iG e.1),(10,.yld 3),(3,iG e.1)]++AfI) ((3,AfH .ready)::σKY m (seen++[e.2.2]) (l++[e.1])) 7 4))
   (σKY m (seen++[e.2.2]) (l++[e.1])) 7 (.loop .ready none 13 [(2,.ref 2 0)] (Dy cAZ) (Dz cAZ) (DA cAZ)) [] [] ?_ ?_
  .refine C9 .normal ⟨13,gl,[(2,.ref 2 0),(5,iG e.1)],σKZ m (seen++[e.2.2]) l,6,6,true⟩ [] [hc (YA m),hc (rfl:l.length=l.length),hc (rZ.imm l)] (Xv Tryz.f248 ?_ rfl) (ρ:=rI 6) (kd:=[(5,.row)]);exact C9 .normal ⟨13,gl,[],σKY m (seen++[e.2.2]) (l++[e.1]),7,6,true⟩ [Tn 11 rZ 8 l e.1 aa] [hc (YA m),hc (el (l++[e.1])),hc (rZ.imm (l++[e.1]))] (by grind [jy]) (ρ:=rI 6++[(6,7)]) (kd:=[(6,.row)])
  .exact jw [] [hc (YA m),hc (el (l++[e.1])),hc (rZ.imm (l++[e.1]))] c (ρ:=rI 5++[(5,6)]) (kd:=[(5,.row)])
 .have hp:=AfG hm hI λe he=>hs _ (Fq.2 ⟨e,he,rfl⟩);generalize ksQ m seen=l at hp⊢;refine C9 .normal (s0 14 gl [] [(0,Zv),(1,Un m),(2,bxI (.rsl 5 0 l.length)),(3,AfH .ready),(5,KS l)] 6 4) [] [hc (YA m),hc (rfl:l.length=l.length),hc (rZ.imm l)] (Xu ?_ rfl) (ρ:=rI 4++[(5,5)]) (kd:=[(5,.row)]);exact C9 .ret (s0 13 gl [(4,.rsl 2 0 l.length)] [(0,Zv),(1,Un m),(2,KS l)] 3 2) [] [hc (rfl:l.length=l.length),hc (YA m),hc (rZ.imm l)] (YY ⟨l,hp⟩ (Wo (gs:=[.rsl 2 0 l.length]) rfl aH rfl rfl rfl rfl)) (ρ:=[(0,0),(1,1),(2,5)]) (kd:=[(2,.row)])
theorem Abv{m:FM Int Bool}(hm:FxOk m)(hn:m.es.length<=1000):Xx prog gl 156 [OS 0] [(0,Zv),(1,Un m)] 2 (ι:=KSZ m) (λx=> .rsl 2 0 x.1.length) (λx=>[(0,Zv),(1,Un m),(2,KS x.1)]) (λ_=>3):=by refine dMF func156 ?_;refine pO [1,0] (s0 5 gl [(0,OS 0)] [(0,Zv),(1,Un m)] 2 2) [] [hc (YA m)] ?_ [] [(0,0),(1,1)] [(999999,.clo)];refine dCl 3 4 2 (fst:=[]) (cap:=[]) (gs:=[.lit (.slice none 0 0),OS 0]) (U6 (g:=λx:KSZ m=> .rsl 2 0 x.1.length) (c:=2) (c':=λ_=>3) (σR:=[(0,Zv),(1,Un m)]) [0,1] (λx:KSZ m=>[(0,Zv),(1,Un m),(2,KS x.1)]) (Acp gl hm hn) ⟨⟨rfl,.inl rfl⟩,⟨rfl,rfl,rfl,rfl,.inr ⟨rfl,YA m⟩⟩,trivial⟩ (λx=>⟨⟨rfl,.inl rfl⟩,⟨rfl,rfl,rfl,rfl,.inr ⟨rfl,YA m⟩⟩,⟨rfl,.inr ⟨rfl,rZ.imm x.1⟩⟩,trivial⟩) (hcov:=λ_=>rfl) (hg:=λ_=>rfl) (hc:=λ_=>rfl)) λx=>?_;exact C9 .ret (s0 5 gl [(2,.rsl 2 0 x.1.length)] [(0,Zv),(1,Un m),(2,KS x.1)] 3 2) [] [hc (rfl:x.1.length=x.1.length),hc (YA m),hc (rZ.imm x.1)] (YY x (Wo (gs:=[.rsl 2 0 x.1.length]) rfl aH rfl rfl rfl rfl))
theorem Acq{m:FM Int Bool}(hm:FxOk m)(hn:m.es.length<=12)(hs:∀a:Bb,a.Perm (m.es.map (·.1))->inZ a=some srt)(hsl:srt.length=m.es.length):jg prog gl 85 [OS 0] [(0,Zv),(1,Un m)] 2 (.rsl 2 0 srt.length) [(0,Zv),(1,Un m),(2,KS srt)] 3:=by
 refine pP func85 ?_;refine pO [1,0] (s0 9 gl [(0,OS 0)] [(0,Zv),(1,Un m)] 2 2) [] [hc (YA m)] ?_ [] [(0,0),(1,1)] [(999999,.clo)];refine dCl 4 5 3 (fst:=[]) (cap:=[]) (gs:=[OS 0]) (U6 (g:=λx:KSZ m=> .rsl 2 0 x.1.length) (c:=2) (c':=λ_=>3) (σR:=[(0,Zv),(1,Un m)]) [0,1] (λx:KSZ m=>[(0,Zv),(1,Un m),(2,KS x.1)]) (Abv gl hm aa) ⟨⟨rfl,.inl rfl⟩,⟨rfl,rfl,rfl,rfl,.inr ⟨rfl,YA m⟩⟩,trivial⟩ (λx=>⟨⟨rfl,.inl rfl⟩,⟨rfl,rfl,rfl,rfl,.inr ⟨rfl,YA m⟩⟩,⟨rfl,.inr ⟨rfl,rZ.imm x.1⟩⟩,trivial⟩) (hcov:=λ_=>rfl) (hg:=λ_=>rfl) (hc:=λ_=>rfl)) λx=>?_;have hx:=hs x.1 x.2;have hxl:x.1.length<=12:=by rw[x.2.length_eq,Hv];exact hn
 have hsl:srt.length=x.1.length:=by rw[hsl,x.2.length_eq,Hv]
 rw[show(G.rsl 2 0 srt.length)= .rsl 2 0 x.1.length by rw[hsl]];exact mt .ret (s0 9 gl [(2,.rsl 2 0 x.1.length)] [(0,Zv),(1,Un m),(2,KS srt)] 3 2) [.rsl 2 0 x.1.length] [tN 7 [2] 3 [(2,KS x.1)] [.rsl 2 0 x.1.length] [(0,KS srt)] (PK gl hxl hx) ⟨⟨rfl,.inr ⟨rfl,rZ.imm x.1⟩⟩,trivial⟩ ⟨⟨rfl,.inr ⟨rfl,rZ.imm srt⟩⟩,trivial⟩] [hc (rfl:x.1.length=x.1.length),hc (YA m),hc (rZ.imm srt)]
theorem AfJ(m:FM Int Bool):jg prog gl 86 [.mref 0] [(0,Un m)] 1 (OS 1) [(0,Un m),(1,some ⟨Yi,[.mref 0],none⟩)] 2:=by refine pP func86 ?_;exact mt .ret (s0 4 gl [(2,OS 1)] [(0,Un m),(1,some ⟨Yi,[.mref 0],none⟩)] 2 1) [OS 1] [] [hc (YA m)] (kd:=[(999999,.clo)])
def JN(R:Ad):Bb:=(inZ (R.in_.es.map (·.1))).getD []
theorem le6{l:Bb}(hd:l.Nodup)(h:∀x∈l,1<=x/\x<=6):l.length<=6:=by
 have hs:∀x∈l.map Int.toNat,x∈List.range' 1 6:=by grind
 have hn:(l.map Int.toNat).Nodup:=by clear hs;induction l<;>grind
 have:=QN hn hs;grind
theorem Bn.len{R:Ad}(hR:Bn R):R.in_.es.length<=6:=by
 have:=le6 hR.ci.kd λx hx=>by obtain⟨e,he,rfl⟩:=Fq.1 hx;exact hR.i6 e he
 rwa [Hv] at this
theorem OJ(hR:Bn R):PL (JN R)/\(JN R).Perm (R.in_.es.map (·.1))/\∀a:Bb,a.Perm (R.in_.es.map (·.1))->inZ a=some (JN R):=by have hl:=hR.len;obtain⟨r,e,p,s⟩:=Adh (l:=R.in_.es.map (·.1)) (by rw[Hv];omega);grind [JN,Adi,List.Perm.length_eq,Hv]
abbrev bx2:Option Ob:=some ⟨Yi,[.mref 2],none⟩
theorem Xc(hR:Bn R):UM prog gl 33 [.ref 0 0] (BX f0 R) 14 14 (aE cZ (JN R)) (BX f0 R):=by
 obtain⟨h1,h2,h3⟩:=OJ hR;have hl:=hR.len;have hsl:(JN R).length=R.in_.es.length:=by rw[h2.length_eq,Hv]
 generalize JN R=srt at h1 h2 h3 hsl⊢;refine dFP func33 ?_;exact ZT [tN 7 [2] 14 [(2,Un R.in_)] [.mref 2] [(0,Un R.in_),(1,bx2)] (AfJ gl R.in_) ⟨⟨rfl,rfl,rfl,rfl,.inr ⟨rfl,YA R.in_⟩⟩,trivial⟩ ⟨⟨rfl,rfl,rfl,rfl,.inr ⟨rfl,YA R.in_⟩⟩,⟨rfl,.inl rfl⟩,trivial⟩,tN 8 [14,2] 15 [(14,bx2),(2,Un R.in_)] [OS 14] [(0,bx2),(1,Un R.in_),(2,KS srt)] (Acq gl hR.ci.1 aa h3 hsl) ⟨⟨rfl,.inl rfl⟩,⟨rfl,rfl,rfl,rfl,.inr ⟨rfl,YA R.in_⟩⟩,trivial⟩ ⟨⟨rfl,.inl rfl⟩,⟨rfl,rfl,rfl,rfl,.inr ⟨rfl,YA R.in_⟩⟩,⟨rfl,.inr ⟨rfl,rZ.imm srt⟩⟩,trivial⟩] (hc (⟨rZ.len srt,rZ.imm srt,rfl⟩:(srt.flatMap cZ).length=srt.length*1/\(∀g∈srt.flatMap cZ,bB g)/\srt.length=srt.length)::rlA hR) (GE f0) N7
def LC(n k:Nat):Option (Nat⊕Unit):=if k<n then some (.inl (k+1))else if k=n then some (.inr ())else none
theorem Fw{n:Nat}(h:n<=1000000):AB (LC n) 0=some ():=T.eq (T.loop (λk=>k<=n) (λk=>n-k) aa aa λk hk=>by
 unfold LC;split
 .exact .some ⟨aa,aa⟩
 .rw[Bu aa];exact .some rfl)
def Tz(m:Int)(Q:Ad)(d:Int):Ad:=bif DE Q d=m then Ha Q d else Q
def AfK(R:Ad)(o:Bp):Ad:=(JN R).foldl (Tz o.Member) R
theorem Adl{Q:Ad}(hQ:Bn Q)(m d:Int):Bn (Tz m Q d):=by grind [Tz,KJ]
theorem Vq{m:Int}:∀{l:Bb} {Q:Ad},Bn Q->Bn (l.foldl (Tz m) Q)
 |[],Q,h=>h
 |d::r,Q,h=>Vq (l:=r) (Adl h m d)
abbrev ρW:DH:=[(0,0),(1,1),(2,2),(3,3),(4,4),(5,16),(6,17),(7,18),(8,19),(9,20),(10,21),(11,22),(12,23),(13,24),(14,14),(15,15)]
theorem Acr(hR:Bn R){o:Bp}(hk:o.Kind=3)(hd:o.Device=0):UT gl R o i (AfK R o):=by
 have a1:decide (o.Kind=1)=false:=by rw[hk];rfl
 have a2:decide (o.Kind=2)=false:=by rw[hk];rfl
 have a3:decide (o.Kind=3)=true:=by rw[hk];rfl
 have ad:decide (o.Device≠0)=false:=C6 (by rw[hd];simp);have hdv:=Xc gl hR;have hn:(JN R).length<=6:=by have:=(OJ hR).2.1.length_eq;rw[Hv] at this;rw[this];exact hR.len
 refine PJ gl hR ?_;unfold AfK;generalize JN R=l at hdv hn⊢;have hQ:∀k,Bn ((l.take k).foldl (Tz o.Member) R):=λk=>Vq hR;refine pN (λk:Nat=>(s0 259 gl [(0,.ref 0 0),(4,.ref 14 0),(69,aE cZ l),(70,iG (ah l)),(71,iG (k:Int))] (Afn ((l.take k).foldl (Tz o.Member) R) o i) 16 5)) 111121414131122 (Fw (n:=l.length) aa) [hr 29 a1,hr 52 a2,hr 60 a3,hr 63 ad,hrr 69 f0 16 [] hR hdv] (rlB ρD f0 hR) (λB k v hs k5 a=>?_) [] ρD N7;unfold LC at hs;split at hs
 .rename_i hlt;obtain rfl:=Bj hs;obtain⟨x,hx⟩:∃x,l[k]?=some x:=⟨_,DS hlt⟩;have hz:=Be hx;have k5:=k5 _ rfl;have hq:=hQ k;rw[JI,hx,Option.toList_some,O0,List.foldl_cons,List.foldl_nil] at k5;generalize (l.take k).foldl (Tz o.Member) R=Q at hq k5⊢;unfold Tz at k5;cases hm:decide (DE Q x=o.Member) with
  |false=>rw[hm] at k5;exact jw [hr 72 (Dl hx),AA 73 (rZ.ixZ hz),AA 74 (rZ.p1Z tZ hz),hof gl 77 hq x 16,hr 80 hm,hbb 84 (Xl (q:=k) aa)] (rlB ρD f0 hq) k5 [] ρD N7
  |true=>rw[hm] at k5;exact jw [hr 72 (Dl hx),AA 73 (rZ.ixZ hz),AA 74 (rZ.p1Z tZ hz),hof gl 77 hq x 16,hr 80 hm,hrw 83 f0 16 [iG x] hq (KJ hq x) (Aah gl hq x),hbb 84 (Xl (q:=k) aa)] (rlB ρW f16 (KJ hq x)) k5 [] ρW N7
 .split at hs
  .rename_i he;subst he;rw[EZ];exact Hk f0 _ (Vq hR) [hr 72 (Ef (s:=l))] (rlX (f:=f0) (R:=l.foldl (Tz o.Member) R))
  .cases hs
def Vr(R:Ad)(o:Bp)(i:Ab):Ad:=
 if o.Kind=1 then Abr R o else if o.Kind=2 then Jd R o.Device o.Role else if o.Kind=3 then(if o.Device=0 then AfK R o else Ha R o.Device)else if o.Kind=5 then UI R o else if o.Kind=9 then Aak R o i else if o.Kind=11 then Ye R o else if o.Kind=12 then WG R o else if o.Kind=13 then Aal R o else R
structure Xd (o:Bp) (i:Ab):Prop where
 i:i.By=o.By
 g:o.Guards.length<=1000000
 n:o.Kind=9->1<=o.Need/\o.Need<=1000000
 b:1<=o.By/\o.By<=6
theorem R4(hR:Bn R){o:Bp}(ho:Xd o i):Bn (Vr R o i):=by
 unfold Vr;split
 .exact AfA hR o
 split
 .exact I3 hR _ _
 split
 .split
  .exact Vq hR
  .exact KJ hR _
 grind [Adg,Afx,Xd.i,Xd.g,Xd.n,Afv,Xd.b,Afu,AfB]
theorem AfL(hR:Bn R){o:Bp}(ho:Xd o i):UT gl R o i (Vr R o i):=by
 unfold Vr;split
 .exact AdW gl hR (by assumption)
 split
 .exact Ajm gl hR (by assumption)
 split
 .split
  .grind [Acr]
  grind [AdS]
 split
 .exact Acj gl hR (by assumption)
 split
 .grind [Afy,Xd.i,Xd.g,Xd.n]
 split
 .exact Afw gl hR (by assumption) ho.b
 split
 .exact AdU gl hR (by assumption)
 split
 .exact Acm gl hR (by assumption)
 grind [Ahf]
def Aju(l:Mi):FM Int DQ:=l.foldl (λm c=>C5 m c.Device c) ⟨[],0⟩
def Hh(l:Mi):Ad:=⟨Aju l,⟨[],0⟩,⟨[],0⟩,⟨[],0⟩,0⟩
structure AdZ (l:Mi):Prop where
 n:l.length<=1000
 r:∀c∈l,1<=c.Device/\c.Device<=6/\1<=c.Member/\c.Member<=3
theorem Abw{d:Int}{c:DQ}:∀{l:Mi} {m:FM Int DQ},(l.foldl (λm c=>C5 m c.Device c) m).get d=some c->(c∈l/\c.Device=d)\/m.get d=some c
 |[],m,h=> .inr h
 |x::r,m,h=>by
  rcases Abw (l:=r) h with⟨h1,h2⟩|h
  all_goals grind [BB]
theorem LD{l:Mi}(h:∀c∈l,1<=c.Device/\c.Device<=6/\1<=c.Member/\c.Member<=3):Bn (Hh l):=by
 have e:∀{K V:Type},RW (⟨[],0⟩:FM K V):=by grind [RW,FxOk]
 have hc:∀d,(DY ((Hh l).cards.get d)).Member=0\/∃c∈l,c.Device=d/\DY ((Hh l).cards.get d)=c:=λd=>by
  cases hg:(Hh l).cards.get d with
  |none=>exact .inl rfl
  |some c=>
   rcases Abw (l:=l) hg with⟨h1,h2⟩|h1
   .exact .inr ⟨c,h1,h2,rfl⟩
   .cases h1
 refine⟨e,e,e,λe he=>(by cases he),λd=>?_,λk x g h1=>(by cases h1),λk x g h1=>(by cases h1),λk x g h1=>(by cases h1),λk x g h1=>(by cases h1),λe he=>(by cases he),λd hd=>?_,λk x g h1=>(by cases h1)⟩;all_goals grind
abbrev ρN:DH:=[(0,4),(1,0),(2,1),(3,2),(4,3),(5,5),(6,6),(7,7),(8,8),(9,9),(10,10),(11,11),(12,12),(13,13)]
def fN0(k:Nat):Nat:=match k with
 |0=>4
 |1=>0
 |2=>1
 |3=>2
 |4=>3
 |k=>k
theorem AfM{l:Mi}(hl:AdZ l):UM prog gl 80 [aE bv l] [] 0 0 (.ref 0 0) (BX f0 (Hh l)):=by
 have hQ:∀k,Bn (Hh (l.take k)):=λk=>LD λc hc=>hl.r c (List.mem_of_mem_take hc);refine dFP func80 ?_;refine pN (λk:Nat=>(s0 27 gl [(3,.ref 0 0),(12,aE bv l),(13,iG (ah l)),(14,iG (k:Int))] (BX f0 (Hh (l.take k))) 14 0)) 1110122 (Fw (n:=l.length) (by have:=hl.n;omega)) [] (rlB ρN fN0 (hQ 0)) (λB k v hs k5 b=>?_) [] ρN N7;unfold LC at hs;split at hs
 .rename_i hlt;obtain rfl:=Bj hs;obtain⟨x,hx⟩:∃x,l[k]?=some x:=⟨_,DS hlt⟩;have hz:=Be hx;have k5:=k5 _ rfl;have e:Hh (l.take (k+1))={Hh (l.take k) with cards:=C5 (Hh (l.take k)).cards x.Device x}:=by unfold Hh Aju;rw[JI,hx,Option.toList_some,O0];rfl
  have hq:=hQ k;have a:=hQ (k+1);rw[e] at k5 a;have hn:=hl.n;have hp:=AfE (P:=prog) (σ:=[(1,some (Nl tMc JR cdG (Hh (l.take k)).cards))]) (i:=1) (t:=tMc) (t':=tMc) (vg:=cdG) (et:=78) Pv Ade aH (k:=x.Device) (gk:=iG x.Device) rfl (m:=(Hh (l.take k)).cards) rfl x;generalize Hh (l.take k)=Q at hq a hp k5⊢;exact jw [hr 15 (Dl hx),AA 16 (bT.ixZ hz),AA 17 (bT.ptZ E2 hz),hmr 15 hp,hbb 25 (Xl (q:=k) aa)] (rlB (GE f0) f0 a) k5 [] (GE f0) N7
 .split at hs
  .rename_i he;subst he;rw[EZ];exact ZT [hr 15 (Ef (s:=l))] (rlB (GE f0) f0 (LD hl.r)) (GE f0) N7
  .cases hs
def Je(R:Ad)(m:Int):Bool:=decide (M2 R m=3)
def AfN(R:Ad)(o:Bp)(m:Int):Int:=bif D5 R o.Device then(bif Je R m then 0 else bif DE R o.Device≠m then 14 else 0)else 17
def Ad0(R:Ad)(o:Bp)(m:Int):Int:=bif o.Device≠0 then(bif Qs R o.Device then(bif Je R m then 0 else bif DE R o.Device≠m then 14 else 0)else 17)else match R.members.get o.Member with
 |none=>16
 |some _=>bif Je R m then 0 else bif o.Member≠m then 14 else 0
def AfO(R:Ad)(o:Bp)(m:Int):Int:=bif Je R m then(match R.members.get o.Member with
 |none=>16
 |some _=>0)else 14
def AfP(R:Ad)(m:Int):Int:=bif M2 R m<2 then 14 else 0
def AfQ(R:Ad)(o:Bp)(m:Int):Int:=bif Je R m then 0 else bif DE R o.Of.By≠m then 14 else 0
def Abx(R:Ad)(o:Bp)(m:Int):Int:=match R.members.get m with
 |none=>25
 |some x=>match x.guard with
  |none=>25
  |some g=>bif g.id=o.Of then 0 else 25
theorem TB(R:Ad)(m:Int):ba prog gl 407 [.ptr (CD R) 0,iG m] (bG (Je R m)):=Gh func407 (Ar [hf 7 (Vo gl R m)] [])
theorem Anm(R:Ad)(d:Int):∀σ,bL prog σ Za false (FM.g JR bG R.in_) (iG d)=some (bG (Qs R d)):=SD R.in_ d
theorem Ahp(R:Ad)(o:Bp)(m:Int):ba prog gl 406 [.ptr (CD R) 0,.agg (aJ o),iG m] (iG (AfN R o m)):=by
 have h1:=Abn gl R o.Device;have h2:=TB gl R m;have h3:=Abm gl R o.Device;unfold AfN;refine Gh func406 ?_;cases b1:D5 R o.Device with
 |false=>rw[b1] at h1;exact Ar [hf 11 h1] []
 |true=>
  rw[b1] at h1;cases b2:Je R m with
  |true=>rw[b2] at h2;exact Ar [hf 11 h1,hf 16 h2] []
  |false=>
   rw[b2] at h2;cases b3:decide (DE R o.Device≠m) with
   |true=>exact Ar [hf 11 h1,hf 16 h2,hf 22 h3,hr 24 b3] []
   |false=>exact Ar [hf 11 h1,hf 16 h2,hf 22 h3,hr 24 b3] []
theorem Ahq(R:Ad)(o:Bp)(m:Int):ba prog gl 408 [.ptr (CD R) 0,.agg (aJ o),iG m] (iG (Ad0 R o m)):=by
 have h2:=TB gl R m;have h3:=Abm gl R o.Device;have h4:=Anm R o.Device;have h5:=Ahg R o.Member;unfold Ad0;refine Gh func408 ?_;cases b1:decide (o.Device≠0) with
 |true=>
  cases b4:Qs R o.Device with
  |false=>rw[b4] at h4;exact Ar [hr 12 b1,hm 19 h4] []
  |true=>
   rw[b4] at h4;cases b2:Je R m with
   |true=>rw[b2] at h2;exact Ar [hr 12 b1,hm 19 h4,hf 24 h3,hf 35 h2] []
   |false=>
    rw[b2] at h2;cases b3:decide (DE R o.Device≠m) with
    |true=>exact Ar [hr 12 b1,hm 19 h4,hf 24 h3,hf 35 h2,hr 40 b3] []
    |false=>exact Ar [hr 12 b1,hm 19 h4,hf 24 h3,hf 35 h2,hr 40 b3] []
 |false=>
  cases b5:R.members.get o.Member with
  |none=>rw[b5] at h5;exact Ar [hr 12 b1,hm 31 h5] []
  |some x=>
   rw[b5] at h5;cases b2:Je R m with
   |true=>rw[b2] at h2;exact Ar [hr 12 b1,hm 31 h5,hf 35 h2] []
   |false=>
    rw[b2] at h2;cases b3:decide (o.Member≠m) with
    |true=>exact Ar [hr 12 b1,hm 31 h5,hf 35 h2,hr 40 b3] []
    |false=>exact Ar [hr 12 b1,hm 31 h5,hf 35 h2,hr 40 b3] []
theorem Ahr(R:Ad)(o:Bp)(m:Int):ba prog gl 409 [.ptr (CD R) 0,.agg (aJ o),iG m] (iG (AfO R o m)):=by
 have h2:=TB gl R m;have h5:=Ahg R o.Member;unfold AfO;refine Gh func409 ?_;cases b2:Je R m with
 |false=>rw[b2] at h2;exact Ar [hf 10 h2] []
 |true=>
  rw[b2] at h2;cases b5:R.members.get o.Member with
  |none=>rw[b5] at h5;exact Ar [hf 10 h2,hm 19 h5] []
  |some x=>rw[b5] at h5;exact Ar [hf 10 h2,hm 19 h5] []
theorem Ahs(R:Ad)(o:Bp)(m:Int):ba prog gl 410 [.ptr (CD R) 0,.agg (aJ o),iG m] (iG (AfP R m)):=by
 unfold AfP;refine Gh func410 ?_;cases b:decide (M2 R m<2) with
 |true=>exact Ar [hf 9 (Vo gl R m),hr 10 b] []
 |false=>exact Ar [hf 9 (Vo gl R m),hr 10 b] []
theorem Aht(R:Ad)(o:Bp)(m:Int):ba prog gl 411 [.ptr (CD R) 0,.agg (aJ o),iG m] (iG (AfQ R o m)):=by
 have h2:=TB gl R m;have h3:=Abm gl R o.Of.By;unfold AfQ;refine Gh func411 ?_;cases b2:Je R m with
 |true=>rw[b2] at h2;exact Ar [hf 9 h2] []
 |false=>
  rw[b2] at h2;cases b3:decide (DE R o.Of.By≠m) with
  |true=>exact Ar [hf 9 h2,hf 16 h3,hr 18 b3] []
  |false=>exact Ar [hf 9 h2,hf 16 h3,hr 18 b3] []
theorem Adm(R:Ad)(o:Bp)(m:Int):ba prog gl 414 [.ptr (CD R) 0,.agg (aJ o),iG m] (iG (Abx R o m)):=by
 have h5:=Ahg R m;unfold Abx;refine Gh func414 ?_;cases b5:R.members.get m with
 |none=>rw[b5] at h5;exact Ar [hm 13 h5] []
 |some x=>
  rw[b5] at h5;obtain⟨role,gd⟩:=x;cases gd with
  |none=>exact Ar [hm 13 h5] []
  |some g=>
   dsimp only;cases b:decide (g.id=o.Of) with
   |true=>exact Ar [hm 13 h5,hV 33 (dy g.id o.Of (r:=false) (by rw[b];rfl))] []
   |false=>exact Ar [hm 13 h5,hV 33 (dy g.id o.Of (r:=true) (by rw[b];rfl))] []
def eQ{K V:Type}(m:FM K V)(seen:Bq):List (K×V×Nat):=seen.filterMap λn=>m.es.find? λe=>Nat.beq e.2.2 n
theorem Sq{K V:Type}:∀{es:List (K×V×Nat)} {e:K×V×Nat},(es.map (·.2.2)).Nodup->e∈es->es.find? (λx=>Nat.beq x.2.2 e.2.2)=some e
 |[],e,_,h=>by cases h
 |x::r,e,hd,h=>by
  rw[Fi,MI] at hd;rcases EQ.1 h with rfl|h
  .simp
  .have hb:Nat.beq x.2.2 e.2.2=false:=by grind [bc]
   rw[List.find?_cons,hb];exact Sq hd.2 h
theorem AfR(hm:FxOk m)(he:e∈m.es):eQ m (seen++[e.2.2])=eQ m seen++[e]:=by unfold eQ;rw[List.filterMap_append];simp[Sq hm.nd he]
theorem Aip{K V:Type}{m:FM K V}(hm:FxOk m):∀es:List (K×V×Nat),(∀e∈es,e∈m.es)->eQ m (es.map (·.2.2))=es
 |[],_=>rfl
 |e::r,h=>by have ih:=Aip hm r (by grind);unfold eQ at ih⊢;rw[Fi,List.filterMap_cons,Sq hm.nd (h e aC),ih]
theorem Adn(hm:FxOk m)(h:KsQ m seen)(ha:∀e∈m.es,e.2.2∈seen):(eQ m seen).Perm m.es:=by have hp:seen.Perm (m.es.map (·.2.2)):=(List.perm_ext_iff_of_nodup h.1 hm.nd).2 λn=>⟨h.2 n,(by grind)⟩;have h1:(eQ m seen).Perm (eQ m (m.es.map (·.2.2))):=hp.filterMap _;rwa [Aip hm m.es λe h=>h] at h1
theorem Ajv(h:e∈eQ m seen):e∈m.es:=by grind [eQ]
theorem Alu:∀{seen:Bq},KsQ m seen->(eQ m seen).Nodup
 |[],_=> .nil
 |n::r,h=>by grind [KsQ,eQ,bc]
abbrev dvE(d:Int)(l:List (C4×Int×Nat)):Bb:=(l.filter λe=>decide (e.1.device=d)).map (·.2.1)
theorem Aaq{m:FM C4 Int}(hk:(m.es.map (·.1)).Nodup)(hb:∀e∈m.es,1<=e.1.by_/\e.1.by_<=6){l:List (C4×Int×Nat)}(hn:l.Nodup)(hs:∀e∈l,e∈m.es)(d:Int):(dvE d l).length<=6:=by
 unfold dvE;rw[Hv];have key:∀l:List (C4×Int×Nat),l.Nodup->(∀e∈l,e∈m.es/\e.1.device=d)->(l.map (·.1.by_)).Nodup:=by
  intro l;induction l with
  |nil=>intro _ _;exact .nil
  |cons a r ih=>
   intro hn hs;rw[MI] at hn;rw[Fi,MI];refine⟨λhm=>?_,(by grind)⟩;obtain⟨b,hb,e⟩:=Fq.1 hm;obtain⟨a1,a2⟩:=hs a aC;obtain⟨b1,b2⟩:=hs b (by simp[hb]);have:a.1=b.1:=by cases h1:a.1;cases h2:b.1;grind
   grind [NS]
 have h2:=le6 (key _ (hn.sublist List.filter_sublist) λe he=>⟨hs e (HC.1 he).1,DR (HC.1 he).2⟩) λx hx=>by obtain⟨e,he,rfl⟩:=Fq.1 hx;exact hb e (hs e (HC.1 he).1)
 rwa [Hv] at h2
def Acu(g:CB)(d:Int):Bb:=(inZ (dvE d g.vouches.es)).getD []
def YB(R:Ad)(m d:Int):Int×Int:=match R.members.get m with
 |none=>(0,4)
 |some x=>match x.guard with
  |none=>(0,4)
  |some g=>bif ah (Acu g d)<g.need then(0,26)else bif g.objected&&decide ((Acu g d).getD 0 0<=g.last)then(0,28)else(wI ((Acu g d).getD (g.need.toNat-1) 0+g.wait),0)
abbrev frV(a:Nat){R:Ad}{k:Int}{x:Az}(_:R.members.get k=some x):Fr:=[(a,.ref (3+nM k) 0)]
abbrev miV{R:Ad}{k:Int}{x:Az}(_:R.members.get k=some x):Nat:=6+nM k
abbrev Ahu(ρ:DH){R:Ad}(hR:Bn R){l:List (Nat×Ob)}(hl:∀q∈l,Bw f0 R q.1=some q.2)(h:okR ρ f0=true:=by kernel_rfl):List HP:=L0.map λk=>hc (show X9 (IX ρ) (tg R l k) (tg R l k) from(Zu hl k).symm▸PH (κ:=IX ρ) (f:=f0) (f':=f0) (λk ⟨ob,hk⟩=>Aae h (D3 hk)) hR k)
abbrev ρV:DH:=GE f0++[(14,14),(15,18)]
abbrev kdV:List (Nat×Rk):=N7++[(15,.row)]
abbrev frD{R:Ad}{k:Int}{x:Az}(hx:R.members.get k=some x)(d:Int)(a:Bb):Fr:=frV 9 hx++[(2,iG d),(10,.rsl 15 0 a.length),(36,.ref 14 0)]
abbrev stD{R:Ad}{k:Int}{x:Az}(hx:R.members.get k=some x){l:List (Nat×Ob)}(hl:∀q∈l,Bw f0 R q.1=some q.2)(g:CB)(seen:Bq)(a:Bb):aQ:=stT hl++[(14,Aag tMv (miV hx) g.vouches.clk seen),(15,KS a)]
theorem Ajw(hR:Bn R)(m d:Int):UM prog gl 417 [.ref 0 0,iG m,iG d] (BX f0 R) 14 14 (.tup [iG (YB R m d).1,iG (YB R m d).2]) (BX f0 R):=by
 have hr2:∀a b:Int,bB (.tup [iG a,iG b]):=λa b=>L7 λg hg=>by simp only[EQ,Ll,or_false] at hg;rcases hg with rfl|rfl<;>exact mN _
 refine dFP func417 ?_;unfold YB;cases hx:R.members.get m with
 |none=>have hr:=hr2 0 4;exact Hk f0 _ hR [K4 18 (Wz hx)] (HA R hr)
 |some x=>
  have hlk:=Si hx;obtain⟨j,hj,o⟩:∃j:Nat,m=(j:Int)/\(j=1\/j=2\/j=3):=by grind [Ahc]
  subst hj;obtain⟨role,gd⟩:=x;cases gd with
  |none=>
   have hl:=hl1 o hx;have hr:=hr2 0 4;rcases o with rfl|rfl|rfl
   all_goals
    refine pO 11100 (s0 88 gl (frP 8 hx++[(2,iG d)]) (stT hl) 14 14) [K4 18 hlk] (rlT (GE f0) f0 hR hl) ?_ (ρ:=GE f0) (kd:=N7)
    exact Hk f0 _ hR [] (WF hl hr)
  |some g=>
   have hl:=hl3 o hx;have hv:=hR.cv _ _ g hx rfl;obtain⟨t,u⟩:=hR.gN _ _ g hx rfl;have hb:=hR.vb _ _ g hx rfl;have h6:=Aaq hv.kd hb (List.Pairwise.of_map (λx=>x.1) (λa b h e=>h (by rw[e])) hv.kd) (λe he=>he) d;obtain⟨srt,e1,p1,s1⟩:=Adh (l:=dvE d g.vouches.es) aa;have hsr:∀p:Bb,p.Perm (dvE d g.vouches.es)->inZ p=some srt:=λp hk=>Adi s1 (hk.trans p1.symm) (by rw[p1.length_eq];omega);have hda:Acu g d=srt:=by unfold Acu;rw[e1];rfl
   dsimp only;rw[hda];have hadd:∀seen (e:C4×Int×Nat),e∈g.vouches.es->dvE d (eQ g.vouches (seen++[e.2.2]))=dvE d (eQ g.vouches seen)++(if e.1.device=d then[e.2.1] else[]):=λseen e he=>by grind [AfR,RW.toFxOk]
   rcases o with rfl|rfl|rfl
   all_goals
    refine pO 11100 (s0 88 gl (frP 8 hx++[(2,iG d)]) (stT hl) 14 14) [K4 18 hlk] (rlT (GE f0) f0 hR hl) ?_ (ρ:=GE f0) (kd:=N7)
    refine pO 11111100 (s0 88 gl (frV 9 hx++[(2,iG d),(10,Iy)]) (stT hl) 14 14) [] (Ahu (GE f0) hR hl) ?_ (ρ:=GE f0) (kd:=N7)
    refine yl (Bs':=[]) [1,1,1,1,1,0,0] (J:=(s0 88 gl (frD hx d []) (stD hx hl g [] []) 16 14)) [] (Ahu ρD hR hl++[hc (rZ.imm [])]) ?_ (vs:=[3]) (ρ:=ρD) (kd:=kdV)
    refine dNx 11111101 ?_
    refine dMw 36 37 38 0 (iti:=14) (mi:=miV hx) (clock:=g.vouches.clk) (since:=g.vouches.clk) (T:=tMv) (ty:=tMv) (es:=mEs BW iG g.vouches) (λseen=>(s0 88 gl (frD hx d (dvE d (eQ g.vouches seen))) (stD hx hl g seen (dvE d (eQ g.vouches seen))) 16 14)) (KsQ g.vouches) Aao (λe he=>by obtain⟨x,hx,rfl⟩:=Fq.1 he;exact hv.1.lt x hx) rfl (Le.refl _) (λseen=>aH) (λseen=>aH) (λseen=>⟨show 37<88 by decide,show 38<88 by decide⟩) (λB seen k w n hI hme hns c=>?_) (λseen hI hs=>?_)
    .obtain⟨e,he,r⟩:=Fq.1 hme
     simp only[Gq] at r
     obtain⟨rfl,rfl,rfl⟩:=r
     have hla:=Aaq hv.kd hb (Alu hI) (λe he=>Ajv he) d
     have c:=c (Aap hI he hns)
     rw[hadd seen e he] at c
     generalize dvE d (eQ g.vouches seen)=a at hla c⊢
     have hge:jr ((14,Aag tMv (miV hx) g.vouches.clk (seen++[e.2.2]))::stD hx hl g seen a) (.ref 14 0)=some (.tup [db (BW e.1),iG e.2.1]):=yo (iti:=14) (mi:=miV hx) (since:=g.vouches.clk) (clock:=g.vouches.clk) (T:=tMv) (ty:=tMv) (seen:=seen) aH aH (by rw[IH];exact hv.1.nd) hme
     cases hdv:decide (e.1.device=d) with
     |false=>
      rw[Bt (Mj hdv),KY] at c
      exact jw [YT 39 hge,hr 45 hdv] (hc (rfl:a.length=a.length)::Ahu ρD hR hl++[hc (rZ.imm a)]) c [] ρD kdV
     |true=>
      rw[Bu (DR hdv)] at c
      exact jw [YT 39 hge,hr 45 hdv,Tn 49 rZ 8 a e.2.1 aa] (hc (el (a++[e.2.1]))::Ahu ρV hR hl++[hc (rZ.imm (a++[e.2.1]))]) c [] ρV kdV
    .have hp:=Adn hv.1 hI λe he=>hs (BW e.1,iG e.2.1,e.2.2) (Fq.2 ⟨e,he,rfl⟩)
     have hpa:(dvE d (eQ g.vouches seen)).Perm (dvE d g.vouches.es):=(hp.filter _).map _
     generalize dvE d (eQ g.vouches seen)=a at hpa⊢
     have hi:=hsr a hpa
     have hsl:srt.length=a.length:=by rw[p1.length_eq,hpa.length_eq]
     have hal:a.length<=6:=by rw[hpa.length_eq];exact h6
     have hlz:decide ((a.length:Int)<g.need)=decide (ah srt<g.need):=by unfold ah;rw[hsl]
     cases c1:decide (ah srt<g.need) with
     |true=>
      have hr:=hr2 0 26
      exact Hk f0 _ hR [tN 51 [15] 16 [(15,KS a)] [.rsl 15 0 a.length] [(0,KS srt)] (PK gl aa hi) ⟨⟨rfl,.inr ⟨rfl,rZ.imm a⟩⟩,trivial⟩ ⟨⟨rfl,.inr ⟨rfl,rZ.imm srt⟩⟩,trivial⟩,Go.Proofs.YtghphhhpagagbaaGreatDoor.hr 59 (hlz.trans c1)] (WF hl hr)
     |false=>
      have hge:g.need<=ah srt:=by have:=Mj c1;omega
      have hz0:aS srt 0=some (srt.getD 0 0):=by grind [au]
      have h71:fh prog 22 (.rsl 15 0 a.length) 0=some (.ref 15 (0+(0:Int).toNat*1)):=by rw[<-hsl];exact rZ.ixrZ 15 hz0
      have f:=rZ.p10Z tZ hz0
      have hw1:wI (g.need-1)=((g.need.toNat-1:Nat):Int):=by grind [bM]
      have hz1:aS srt (wI (g.need-1))=some (srt.getD (g.need.toNat-1) 0):=by grind [au]
      have h81:fh prog 22 (.rsl 15 0 a.length) (wI (g.need-1))=some (.ref 15 (0+(wI (g.need-1)).toNat*1)):=by rw[<-hsl];exact rZ.ixrZ 15 hz1
      have i:=rZ.p10Z tZ hz1
      obtain⟨v,gg,gn,s,y,go,q⟩:=g
      dsimp only at*
      cases go with
      |false=>
       have hr:=hr2 (wI (srt.getD (gn.toNat-1) 0+s)) 0
       exact Hk f0 _ hR [tN 51 [15] 16 [(15,KS a)] [.rsl 15 0 a.length] [(0,KS srt)] (PK gl aa hi) ⟨⟨rfl,.inr ⟨rfl,rZ.imm a⟩⟩,trivial⟩ ⟨⟨rfl,.inr ⟨rfl,rZ.imm srt⟩⟩,trivial⟩,Go.Proofs.YtghphhhpagagbaaGreatDoor.hr 59 (hlz.trans c1),AA 81 h81,AA 82 i] (WF hl hr)
      |true=>
       cases c2:decide (srt.getD 0 0<=q) with
       |true=>
        have hr:=hr2 0 28
        exact Hk f0 _ hR [tN 51 [15] 16 [(15,KS a)] [.rsl 15 0 a.length] [(0,KS srt)] (PK gl aa hi) ⟨⟨rfl,.inr ⟨rfl,rZ.imm a⟩⟩,trivial⟩ ⟨⟨rfl,.inr ⟨rfl,rZ.imm srt⟩⟩,trivial⟩,Go.Proofs.YtghphhhpagagbaaGreatDoor.hr 59 (hlz.trans c1),AA 71 h71,AA 72 f,Go.Proofs.YtghphhhpagagbaaGreatDoor.hr 73 c2] (WF hl hr)
       |false=>
        have hr:=hr2 (wI (srt.getD (gn.toNat-1) 0+s)) 0
        exact Hk f0 _ hR [tN 51 [15] 16 [(15,KS a)] [.rsl 15 0 a.length] [(0,KS srt)] (PK gl aa hi) ⟨⟨rfl,.inr ⟨rfl,rZ.imm a⟩⟩,trivial⟩ ⟨⟨rfl,.inr ⟨rfl,rZ.imm srt⟩⟩,trivial⟩,Go.Proofs.YtghphhhpagagbaaGreatDoor.hr 59 (hlz.trans c1),AA 71 h71,AA 72 f,Go.Proofs.YtghphhhpagagbaaGreatDoor.hr 73 c2,AA 81 h81,AA 82 i] (WF hl hr)
def AfS(R:Ad)(o:Bp):Int:=bif o.Guards.any λd=> !Qs R d then 17 else 0
def Ad1(R:Ad)(o:Bp):Int:=bif (Dd R o).2≠0 then(Dd R o).2 else bif DE R o.Device≠(Dd R o).1 then 16 else bif D5 R o.Device then 0 else 17
def Ajx(R:Ad)(o:Bp)(w:Int):Bool:=bif Qs R o.Old then(bif DE R o.Old≠w then true else bif D5 R o.Device then decide (DE R o.Device≠w)else true)else true
def Ad2(R:Ad)(o:Bp):Int:=bif (Dd R o).2≠0 then(Dd R o).2 else bif Ajx R o (Dd R o).1 then 17 else bif (YB R (Dd R o).1 o.Device).2=0 then(bif o.At<(YB R (Dd R o).1 o.Device).1 then 27 else 0)else(YB R (Dd R o).1 o.Device).2
theorem Ahv(R:Ad){o:Bp}(hg:o.Guards.length<=1000000)(m:Int):ba prog gl 412 [.ptr (CD R) 0,.agg (aJ o),iG m] (iG (AfS R o)):=X8 gl (by grind [V2,Abs,On,Qs,AfS])
theorem Ahw(hR:Bn R)(o:Bp)(m:Int):UM prog gl 415 [.ref 0 0,.agg (aJ o),iG m] (BX f0 R) 14 14 (iG (Ad1 R o)) (BX f0 R):=by
 refine dFP func415 ?_;have hg:=Um gl hR o;unfold Ad1;generalize Dd R o=we at hg⊢;obtain⟨w,e⟩:=we;dsimp only at hg⊢;have hre:bB (iG e):=mN _;have hr16:bB (iG 16):=mN _;have hr17:bB (iG 17):=mN _;have hr0:bB (iG 0):=mN _;cases c1:decide (e≠0) with
 |true=>exact Hk f0 _ hR [hrr 12 f0 15 [.agg (aJ o)] hR hg,hr 17 c1] (HA R hre)
 |false=>
  cases c2:decide (DE R o.Device≠w) with
  |true=>exact Hk f0 _ hR [hrr 12 f0 15 [.agg (aJ o)] hR hg,hr 17 c1,hof gl 23 hR o.Device 15,hr 25 c2] (HA R hr16)
  |false=>
   cases c3:D5 R o.Device with
   |true=>exact Hk f0 _ hR [hrr 12 f0 15 [.agg (aJ o)] hR hg,hr 17 c1,hof gl 23 hR o.Device 15,hr 25 c2,hfr gl 30 hR c3 15] (HA R hr0)
   |false=>exact Hk f0 _ hR [hrr 12 f0 15 [.agg (aJ o)] hR hg,hr 17 c1,hof gl 23 hR o.Device 15,hr 25 c2,hfr gl 30 hR c3 15] (HA R hr17)
theorem Ahx(hR:Bn R)(o:Bp)(m:Int):UM prog gl 416 [.ref 0 0,.agg (aJ o),iG m] (BX f0 R) 14 14 (iG (Ad2 R o)) (BX f0 R):=by
 refine dFP func416 ?_;have hg:=Um gl hR o;have hin:=Ahe R o.Old;unfold Ad2;generalize Dd R o=we at hg⊢;obtain⟨w,e⟩:=we;dsimp only at hg⊢;have hre:bB (iG e):=mN _;have hr17:bB (iG 17):=mN _;have hr27:bB (iG 27):=mN _;have hr0:bB (iG 0):=mN _;cases c1:decide (e≠0) with
 |true=>exact Hk f0 _ hR [hrr 13 f0 15 [.agg (aJ o)] hR hg,hr 18 c1] (HA R hre)
 |false=>
  unfold Ajx;cases c2:Qs R o.Old with
  |false=>rw[c2] at hin;exact Hk f0 _ hR [hrr 13 f0 15 [.agg (aJ o)] hR hg,hr 18 c1,K4 27 hin] (HA R hr17)
  |true=>
   rw[c2] at hin;cases c3:decide (DE R o.Old≠w) with
   |true=>exact Hk f0 _ hR [hrr 13 f0 15 [.agg (aJ o)] hR hg,hr 18 c1,K4 27 hin,hof gl 33 hR o.Old 15,hr 35 c3] (HA R hr17)
   |false=>
    cases c4:D5 R o.Device with
    |false=>exact Hk f0 _ hR [hrr 13 f0 15 [.agg (aJ o)] hR hg,hr 18 c1,K4 27 hin,hof gl 33 hR o.Old 15,hr 35 c3,hfr gl 40 hR c4 15] (HA R hr17)
    |true=>
     cases c5:decide (DE R o.Device≠w) with
     |true=>exact Hk f0 _ hR [hrr 13 f0 15 [.agg (aJ o)] hR hg,hr 18 c1,K4 27 hin,hof gl 33 hR o.Old 15,hr 35 c3,hfr gl 40 hR c4 15,hof gl 46 hR o.Device 15,hr 48 c5] (HA R hr17)
     |false=>
      have hd:=Ajw gl hR w o.Device;generalize YB R w o.Device=de at hd⊢;obtain⟨a,e2⟩:=de;dsimp only[A9,ax] at hd⊢;have hre2:bB (iG e2):=mN _;cases c6:decide (e2=0) with
      |false=>exact Hk f0 _ hR [hrr 13 f0 15 [.agg (aJ o)] hR hg,hr 18 c1,K4 27 hin,hof gl 33 hR o.Old 15,hr 35 c3,hfr gl 40 hR c4 15,hof gl 46 hR o.Device 15,hr 48 c5,hrr 55 f0 15 [iG w,iG o.Device] hR hd,hr 59 c6] (HA R hre2)
      |true=>
       cases c7:decide (o.At<a) with
       |true=>exact Hk f0 _ hR [hrr 13 f0 15 [.agg (aJ o)] hR hg,hr 18 c1,K4 27 hin,hof gl 33 hR o.Old 15,hr 35 c3,hfr gl 40 hR c4 15,hof gl 46 hR o.Device 15,hr 48 c5,hrr 55 f0 15 [iG w,iG o.Device] hR hd,hr 59 c6,hr 64 c7] (HA R hr27)
       |false=>have:e2=0:=DR c6;subst this;exact Hk f0 _ hR [hrr 13 f0 15 [.agg (aJ o)] hR hg,hr 18 c1,K4 27 hin,hof gl 33 hR o.Old 15,hr 35 c3,hfr gl 40 hR c4 15,hof gl 46 hR o.Device 15,hr 48 c5,hrr 55 f0 15 [iG w,iG o.Device] hR hd,hr 59 c6,hr 64 c7] (HA R hr0)
def Acv(R:Ad)(o:Bp)(m:Int):Int:=if o.Kind=2 then AfN R o m else if o.Kind=3 then Ad0 R o m else if o.Kind=5 then AfO R o m else if o.Kind=6 then AfP R m else if o.Kind=8 then AfQ R o m else if o.Kind=9 then AfS R o else if o.Kind=10 then Abx R o m else if o.Kind=11 then Ad1 R o else if o.Kind=12 then Abx R o m else if o.Kind=13 then Ad2 R o else 0
def Uo(R:Ad)(o:Bp):Int:=if o.Kind=1 then(bif DE R o.By=0 then 17 else bif 0<(R.was.es.length:Int)then 5 else 0)else bif Qs R o.By then Acv R o (DE R o.By)else 15
abbrev tAs:Bo:=197
theorem Anp{z:Int}(hz:z=(k:Int))(hk:k<14):fh prog tAs (.ptr IU 0) z=some (.ptr IU k):=by
 subst hz;rcases(by omega:k=0\/k=1\/k=2\/k=3\/k=4\/k=5\/k=6\/k=7\/k=8\/k=9\/k=10\/k=11\/k=12\/k=13) with rfl|rfl|rfl|rfl|rfl|rfl|rfl|rfl|rfl|rfl|rfl|rfl|rfl|rfl
 all_goals kernel_rfl
abbrev Alv(R:Ad)(o:Bp)(i:Ab)(r:Int):Prop:=UM prog fI 71 [.ref 0 0,.agg (aJ o),.agg (aj i)] (BX f0 R) 14 14 (iG r) (BX f0 R)
theorem Anq{o:Bp}{m:Int}:∀x∈[G.agg (aJ o),iG m],bB x:=λx hx=>by
 simp only[EQ,Ll,or_false] at hx;rcases hx with rfl|rfl
 .exact aG 20 _ aH
 .exact mN _
abbrev hla(d:Nat){R:Ad}(hR:Bn R){f:FuncId}{o:Bp}{m r:Int}(h:ba prog fI f [.ptr (CD R) 0,.agg (aJ o),iG m] (iG r))(hc:aK prog f=true:=by kernel_rfl):HP:=hrl d f0 16 hR h Anq (lR _) (hc:=hc)
theorem AfT(hR:Bn R){o:Bp}{i:Ab}(hg:o.Guards.length<=1000000):Alv R o i (Uo R o):=by
 refine dFP func71 ?_;have hi0:∀r:Int,bB (iG r):=λr=>mN _;have hin:=Ahe R o.By;unfold Uo;split
 .rename_i hk;have a1:decide (o.Kind=1)=true:=C3 hk;have hle:decide (0<((mEs JR bG R.was).length:Int))=decide (0<(R.was.es.length:Int)):=by rw[Hv]
  have c:=hi0 17;have h5:=hi0 5;have h0:=hi0 0;cases c1:decide (DE R o.By=0) with
  |true=>exact Hk f0 _ hR [hr 9 a1,hof fI 14 hR o.By 16,hr 15 c1] (HA R c)
  |false=>
   cases c2:decide (0<(R.was.es.length:Int)) with
   |true=>exact Hk f0 _ hR [hr 9 a1,hof fI 14 hR o.By 16,hr 15 c1,hr 22 (hle.trans c2)] (HA R h5)
   |false=>exact Hk f0 _ hR [hr 9 a1,hof fI 14 hR o.By 16,hr 15 c1,hr 22 (hle.trans c2)] (HA R h0)
 .rename_i hk1;have a1:decide (o.Kind=1)=false:=C6 hk1;cases hb:Qs R o.By with
  |false=>rw[hb] at hin;have d:=hi0 15;exact Hk f0 _ hR [hr 9 a1,K4 29 hin] (HA R d)
  |true=>
   rw[hb] at hin;rw[ax];have h0:=hi0 0;by_cases hlo:o.Kind<0
   .have:Acv R o (DE R o.By)=0:=by unfold Acv;repeat rw[Bt aa]
    rw[this];exact Hk f0 _ hR [hr 9 a1,K4 29 hin,hr 33 (C3 hlo)] (HA R h0)
   by_cases hhi:14<=o.Kind
   .have:Acv R o (DE R o.By)=0:=by unfold Acv;repeat rw[Bt aa]
    rw[this];exact Hk f0 _ hR [hr 9 a1,K4 29 hin,hr 33 (C6 hlo),hr 37 (show decide (14<=o.Kind)=true from C3 hhi)] (HA R h0)
   have a33:decide (o.Kind<0)=false:=C6 hlo;have a37:decide (14<=o.Kind)=false:=C6 hhi;unfold Acv;obtain⟨k,hk,b⟩:∃k:Nat,o.Kind=(k:Int)/\k<14:=⟨o.Kind.toNat,aa,aa⟩;have a:=Anp hk b;rcases(by omega:k=0\/k=1\/k=2\/k=3\/k=4\/k=5\/k=6\/k=7\/k=8\/k=9\/k=10\/k=11\/k=12\/k=13) with rfl|rfl|rfl|rfl|rfl|rfl|rfl|rfl|rfl|rfl|rfl|rfl|rfl|rfl
   .repeat rw[Bt aa]
    exact Hk f0 _ hR [hr 9 a1,K4 29 hin,hr 33 a33,hr 37 a37,AA 42 a] (HA R h0)
   .exact absurd hk hk1
   .rw[Bu aa];have hr0:=hi0 (AfN R o (DE R o.By));exact Hk f0 _ hR [hr 9 a1,K4 29 hin,hr 33 a33,hr 37 a37,AA 42 a,AA 48 a,hof fI 55 hR o.By 16,hla 56 hR (Ahp fI R o (DE R o.By))] (HA R hr0)
   .repeat rw[Bt aa]
    rw[Bu aa];have hr0:=hi0 (Ad0 R o (DE R o.By));exact Hk f0 _ hR [hr 9 a1,K4 29 hin,hr 33 a33,hr 37 a37,AA 42 a,AA 48 a,hof fI 55 hR o.By 16,hla 56 hR (Ahq fI R o (DE R o.By))] (HA R hr0)
   .repeat rw[Bt aa]
    exact Hk f0 _ hR [hr 9 a1,K4 29 hin,hr 33 a33,hr 37 a37,AA 42 a] (HA R h0)
   .repeat rw[Bt aa]
    rw[Bu aa];have hr0:=hi0 (AfO R o (DE R o.By));exact Hk f0 _ hR [hr 9 a1,K4 29 hin,hr 33 a33,hr 37 a37,AA 42 a,AA 48 a,hof fI 55 hR o.By 16,hla 56 hR (Ahr fI R o (DE R o.By))] (HA R hr0)
   .repeat rw[Bt aa]
    rw[Bu aa];have hr0:=hi0 (AfP R (DE R o.By));exact Hk f0 _ hR [hr 9 a1,K4 29 hin,hr 33 a33,hr 37 a37,AA 42 a,AA 48 a,hof fI 55 hR o.By 16,hla 56 hR (Ahs fI R o (DE R o.By))] (HA R hr0)
   .repeat rw[Bt aa]
    exact Hk f0 _ hR [hr 9 a1,K4 29 hin,hr 33 a33,hr 37 a37,AA 42 a] (HA R h0)
   .repeat rw[Bt aa]
    rw[Bu aa];have hr0:=hi0 (AfQ R o (DE R o.By));exact Hk f0 _ hR [hr 9 a1,K4 29 hin,hr 33 a33,hr 37 a37,AA 42 a,AA 48 a,hof fI 55 hR o.By 16,hla 56 hR (Aht fI R o (DE R o.By))] (HA R hr0)
   .repeat rw[Bt aa]
    rw[Bu aa];have hr0:=hi0 (AfS R o);exact Hk f0 _ hR [hr 9 a1,K4 29 hin,hr 33 a33,hr 37 a37,AA 42 a,AA 48 a,hof fI 55 hR o.By 16,hla 56 hR (Ahv fI R hg (DE R o.By))] (HA R hr0)
   .repeat rw[Bt aa]
    rw[Bu aa];have hr0:=hi0 (Abx R o (DE R o.By));exact Hk f0 _ hR [hr 9 a1,K4 29 hin,hr 33 a33,hr 37 a37,AA 42 a,AA 48 a,hof fI 55 hR o.By 16,hla 56 hR (Adm fI R o (DE R o.By))] (HA R hr0)
   .repeat rw[Bt aa]
    rw[Bu aa];have hr0:=hi0 (Ad1 R o);exact Hk f0 _ hR [hr 9 a1,K4 29 hin,hr 33 a33,hr 37 a37,AA 42 a,AA 48 a,hof fI 55 hR o.By 16,hrr 56 f0 16 [.agg (aJ o),iG (DE R o.By)] hR (Ahw fI hR o (DE R o.By))] (HA R hr0)
   .repeat rw[Bt aa]
    rw[Bu aa];have hr0:=hi0 (Abx R o (DE R o.By));exact Hk f0 _ hR [hr 9 a1,K4 29 hin,hr 33 a33,hr 37 a37,AA 42 a,AA 48 a,hof fI 55 hR o.By 16,hla 56 hR (Adm fI R o (DE R o.By))] (HA R hr0)
   .repeat rw[Bt aa]
    rw[Bu aa];have hr0:=hi0 (Ad2 R o);exact Hk f0 _ hR [hr 9 a1,K4 29 hin,hr 33 a33,hr 37 a37,AA 42 a,AA 48 a,hof fI 55 hR o.By 16,hrr 56 f0 16 [.agg (aJ o),iG (DE R o.By)] hR (Ahx fI hR o (DE R o.By))] (HA R hr0)
structure Gi where
 op:Ab->Option Bp
 bef:Ab->Ab->Bool
 lev:Ab->Int
 cards:Mi
 card:Int->Option DQ
def Gi.o(I:Gi)(x:Ab):Bp:=(I.op x).getD ip
def TC:DQ:=⟨0,0,0,0,0⟩
structure RX (gl:CM) (gg:Aj) (I:Gi):Prop where
 op:∀x,ba prog gl 25 [.ptr (Ag gg) 0,.agg (aj x)] (.tup [.agg (aJ (I.o x)),bG (I.op x).isSome])
 bef:∀x y,ba prog gl 36 [.ptr (Ag gg) 0,.agg (aj x),.agg (aj y)] (bG (I.bef x y))
 lev:∀x,ba prog gl 132 [.ptr (Ag gg) 0,.agg (aj x)] (iG (I.lev x))
 cards:ba prog gl 81 [.ptr (Ag gg) 0] (aE bv I.cards)
 card:∀d,ba prog gl 34 [.ptr (Ag gg) 0,iG d] (.tup [.agg (bv ((I.card d).getD TC)),bG (I.card d).isSome])
def Aby(I:Gi)(x:Bp)(d:Int):Bool:=bif x.Kind=13 then decide (d=x.Old)else bif x.Device≠0 then decide (d=x.Device)else bif(I.card d).isSome then decide (((I.card d).getD TC).Member=x.Member)else false
def Ajy(I:Gi)(a b:Bp):Bool:=bif a.Kind=3 then Aby I a b.By else bif a.Kind=13 then(bif decide (b.Kind=12)&&decide (a.Of=b.Of)then false else Aby I a b.By)else bif a.Kind=12 then(decide (b.Kind=13)&&decide (b.Of=a.Of)&&decide (a.At<=b.At))else false
def Jk(I:Gi)(x y:Ab):Bool:=(I.op x).isSome&&(I.op y).isSome&& !decide (x=y)&& !I.bef y x&& !I.bef x y&&Ajy I (I.o x) (I.o y)
section
variable {gl:CM} {gg:Aj} {I:Gi} (h:RX gl gg I)
include h
theorem AfU(x:Bp)(d:Int):ba prog gl 301 [.ptr (Ag gg) 0,.agg (aJ x),iG d] (bG (Aby I x d)):=by
 have hc:=h.card d;unfold Aby;refine Gh func301 ?_;cases b1:decide (x.Kind=13) with
 |true=>exact Ar [hr 11 b1] []
 |false=>
  cases b2:decide (x.Device≠0) with
  |true=>exact Ar [hr 11 b1,hr 18 b2] []
  |false=>
   cases b3:(I.card d).isSome with
   |false=>rw[b3] at hc;exact Ar [hr 11 b1,hr 18 b2,hf 26 hc] []
   |true=>rw[b3] at hc;exact Ar [hr 11 b1,hr 18 b2,hf 26 hc] []
theorem ZH(x y:Ab):ba prog gl 245 [.ptr (Ag gg) 0,.agg (aj x),.agg (aj y)] (bG (Jk I x y)):=by
 have h1:=h.op x;have h2:=h.op y;have h3:=h.bef y x;have h4:=h.bef x y;have hg:=AfU h (I.o x) (I.o y).By;unfold Jk;generalize I.o x=a at h1 hg⊢;generalize I.o y=b at h2 hg⊢;refine Gh func245 ?_;cases c1:(I.op x).isSome with
 |false=>rw[c1] at h1;exact Ar [hf 15 h1,hf 21 h2] []
 |true=>
  rw[c1] at h1;cases c2:(I.op y).isSome with
  |false=>rw[c2] at h2;exact Ar [hf 15 h1,hf 21 h2] []
  |true=>
   rw[c2] at h2;cases c3:decide (x=y) with
   |true=>exact Ar [hf 15 h1,hf 21 h2,hV 33 (dU x y c3)] []
   |false=>
    cases c4:I.bef y x with
    |true=>rw[c4] at h3;exact Ar [hf 15 h1,hf 21 h2,hV 33 (dU x y c3),hf 39 h3] []
    |false=>
     rw[c4] at h3;cases c5:I.bef x y with
     |true=>rw[c5] at h4;exact Ar [hf 15 h1,hf 21 h2,hV 33 (dU x y c3),hf 39 h3,hf 45 h4] []
     |false=>
      rw[c5] at h4;unfold Ajy;cases k3:decide (a.Kind=3) with
      |true=>
       have k13:decide (a.Kind=13)=false:=by rw[DR k3];rfl
       exact Ar [hf 15 h1,hf 21 h2,hV 33 (dU x y c3),hf 39 h3,hf 45 h4,hr 50 k3,hr 54 k13,hf 74 hg] []
      |false=>
       cases k13:decide (a.Kind=13) with
       |true=>
        cases j12:decide (b.Kind=12) with
        |false=>exact Ar [hf 15 h1,hf 21 h2,hV 33 (dU x y c3),hf 39 h3,hf 45 h4,hr 50 k3,hr 51 k13,hr 54 k13,hr 58 j12,hf 74 hg] []
        |true=>
         cases jo:decide (a.Of=b.Of) with
         |true=>exact Ar [hf 15 h1,hf 21 h2,hV 33 (dU x y c3),hf 39 h3,hf 45 h4,hr 50 k3,hr 51 k13,hr 54 k13,hr 58 j12,hV 65 (dU a.Of b.Of jo)] []
         |false=>exact Ar [hf 15 h1,hf 21 h2,hV 33 (dU x y c3),hf 39 h3,hf 45 h4,hr 50 k3,hr 51 k13,hr 54 k13,hr 58 j12,hV 65 (dU a.Of b.Of jo),hf 74 hg] []
       |false=>
        cases k12:decide (a.Kind=12) with
        |false=>exact Ar [hf 15 h1,hf 21 h2,hV 33 (dU x y c3),hf 39 h3,hf 45 h4,hr 50 k3,hr 51 k13,hr 77 k12] []
        |true=>
         cases j13:decide (b.Kind=13) with
         |false=>exact Ar [hf 15 h1,hf 21 h2,hV 33 (dU x y c3),hf 39 h3,hf 45 h4,hr 50 k3,hr 51 k13,hr 77 k12,hr 80 j13] []
         |true=>
          cases jo:decide (b.Of=a.Of) with
          |false=>exact Ar [hf 15 h1,hf 21 h2,hV 33 (dU x y c3),hf 39 h3,hf 45 h4,hr 50 k3,hr 51 k13,hr 77 k12,hr 80 j13,hV 86 (dU b.Of a.Of jo)] []
          |true=>exact Ar [hf 15 h1,hf 21 h2,hV 33 (dU x y c3),hf 39 h3,hf 45 h4,hr 50 k3,hr 51 k13,hr 77 k12,hr 80 j13,hV 86 (dU b.Of a.Of jo)] []
end
def Q1(c k:Nat):Nat:=c+k
theorem Ahy(hR:Bn R)(c:Nat):Aa5 (kO [] [] 0 14 c) (BX f0 R) (BX (Q1 c) R):=λi o h0=>by
 rw[Hp] at h0;obtain⟨k,hk,e,h⟩:=LP h0;subst e;have hκ:∀k,(∃ob,Bw f0 R k=some ob)->kO [] [] 0 14 c (f0 k)=some (Q1 c k):=λk ⟨ob,h⟩=>by have:=D3 h;show(bif Nat.blt k 0 then _ else bif Nat.blt k (0+14)then some (c+(k-0))else none)=_;rw[show Nat.blt k 0=false from by cases hb:Nat.blt k 0 with|false=>rfl|true=>simp_all,show Nat.blt k (0+14)=true from Q9 aa];rfl
 obtain⟨a,h1,h2⟩:=PH hκ hR k o h;grind [KI]
theorem AfV{κ:Nat->Fu}:InP κ [] [] []:=λk o0 h=>by cases h
def hrn(d c:Nat)(args:Bk){P:Br}{gl:CM}{fid:FuncId}{args0:Bk}{R:Ad}(hR:Bn R)(hM:UM P gl fid args0 [] 0 0 (.ref 0 0) (BX f0 R))(hc:aK P fid=true:=by kernel_rfl)(hgs:args.map (qg (vi []) 20)=args0:=by kernel_rfl):HP:=
 hfm d [] 0 14 c [] args (BX (Q1 c) R) hM AfV (Ahy hR c) hc rfl rfl hgs
def TD(I:Gi)(id:Ab)(R:Ad)(x:Ab):Ad:=bif I.bef x id then Vr R (I.o x) x else R
def Xf(I:Gi)(l:Ba)(id:Ab):Ad:=l.foldl (TD I id) (Hh I.cards)
structure AfW (gl:CM) (l:A3) (I:Gi):Prop where
 g:RX gl l.g I
 c:AdZ I.cards
 o:∀x∈l.row,Xd (I.o x) x
 n:l.row.length<=1000
theorem Ahz{I:Gi}{id:Ab}(hR:Bn R)(hx:Xd (I.o x) x):Bn (TD I id R x):=by grind [TD,R4]
theorem Ado{I:Gi}{id:Ab}:∀{l:Ba} {R:Ad},Bn R->(∀x∈l,Xd (I.o x) x)->Bn (l.foldl (TD I id) R)
 |[],R,h,_=>h
 |x::r,R,h,hx=>Ado (l:=r) (Ahz h (hx x aC)) (by grind)
theorem Acw{I:Gi}(hc:AdZ I.cards)(h:∀x∈l,Xd (I.o x) x)(id:Ab):Bn (Xf I l id):=Ado (LD hc.r) h
section
variable {gl:CM}
end
abbrev Bz(l:Ba):Option Ob:=some ⟨25,l.flatMap aj,none⟩
def Alw(ρ:DH)(f f':Nat->Nat):Bool:=L0.all λk=>match IX ρ (f k) with|some j=>Nat.beq j (f' k)|none=>false
theorem AhA{ρ:DH}{f f':Nat->Nat}(h:Alw ρ f f'=true)(hk:k<14):IX ρ (f k)=some (f' k):=by have:=GV.1 h k (by have:k∈List.range 14:=List.mem_range.2 hk;exact this);grind [bc]
abbrev rlC(ρ:DH)(f f':Nat->Nat){R:Ad}(hR:Bn R)(h:Alw ρ f f'=true:=by kernel_rfl):List HP:=L0.map λk=>hc (PH (κ:=IX ρ) (f:=f) (f':=f') (λk ⟨ob,hk⟩=>AhA h (D3 hk)) hR k)
abbrev kd1:List (Nat×Rk):=(0,.row)::L0.map λk=>(k+1,.any)
abbrev stO(l:Ba)(c:Nat)(R:Ad):aQ:=(0,Bz l)::BX (Q1 c) R
abbrev ρe0:DH:=[(0,0),(1,2),(2,3),(3,4),(4,5),(5,6),(6,7),(7,8),(8,9),(9,10),(10,11),(11,12),(12,13),(13,14),(14,15),(15,1)]
abbrev ρe1:DH:=[(0,0),(1,1),(2,2),(3,3),(4,4),(5,5),(6,6),(7,7),(8,8),(9,9),(10,10),(11,11),(12,12),(13,13),(14,14),(15,15)]
abbrev ρe2:DH:=[(0,0),(1,1),(2,2),(3,3),(4,4),(5,5),(6,18),(7,19),(8,20),(9,21),(10,22),(11,23),(12,24),(13,25),(14,26),(15,15)]
abbrev ρe3:DH:=[(0,0),(1,1),(2,2),(3,3),(4,4),(5,5),(6,6),(7,7),(8,8),(9,9),(10,10),(11,11),(12,12),(13,13),(14,14)]
section
variable {gl:CM}
theorem AhB{gg:Aj}{I:Gi}(h:RX gl gg I)(hc:AdZ I.cards){al:A3}(hal:al.g=gg)(hl:∀x∈l,Xd (I.o x) x)(hn:l.length<=1000)(id:Ab):UM prog gl 247 [.ptr (BU al) 0,.rsl 0 0 l.length,.agg (aj id)] [(0,Bz l)] 1 1 (.ref 1 0) (stO l 1 (Xf I l id)):=by
 subst hal;have hQ:∀k,Bn (Xf I (l.take k) id):=λk=>Acw hc (λx hx=>hl x (List.mem_of_mem_take hx)) id;refine dFP func247 ?_;refine pN (λk:Nat=>(s0 46 gl [(0,.ptr (BU al) 0),(5,.ref 15 0),(7,.ref 1 0),(18,.rsl 0 0 l.length),(19,iG (ah l)),(20,iG (k:Int))] (stO l 1 (Xf I (l.take k) id)++[(15,XS id)]) 16 1)) 1110122 (Fw (n:=l.length) aa) [hf 16 h.cards,hrn 17 2 [aE bv I.cards] (LD hc.r) (AfM gl hc)] (Go.Proofs.YtghphhhpagagbaaGreatDoor.hc (el l)::Go.Proofs.YtghphhhpagagbaaGreatDoor.hc (ac.imm l)::rlC ρe0 (Q1 2) (Q1 1) (hQ 0)) (λB k v hs k5 c=>?_) [] ρe0 kd1;unfold LC at hs;split at hs
 .rename_i hlt;obtain rfl:=Bj hs;obtain⟨x,hx⟩:∃x,l[k]?=some x:=⟨_,DS hlt⟩;have hz:=Be hx;have k5:=k5 _ rfl;have hq:=hQ k;have a:=hl x (bO hx);have hb:=h.bef x id;unfold Xf at k5 hq⊢;rw[JI,hx,Option.toList_some,O0,List.foldl_cons,List.foldl_nil] at k5;generalize (l.take k).foldl (TD I id) (Hh I.cards)=Q at hq k5⊢;unfold TD at k5;cases c1:I.bef x id with
  |false=>rw[c1] at hb k5;exact jw [hr 21 (Dl hx),AA 22 (ac.ixrZ 0 hz),AA 23 (ac.pt0Z aW hz),hf 30 hb,hbb 44 (Xl (q:=k) aa)] (Go.Proofs.YtghphhhpagagbaaGreatDoor.hc (el l)::Go.Proofs.YtghphhhpagagbaaGreatDoor.hc (ac.imm l)::rlC ρe1 (Q1 1) (Q1 1) hq) k5 [] ρe1 kd1
  |true=>rw[c1] at hb k5;have b:=R4 hq a;exact jw [hr 21 (Dl hx),AA 22 (ac.ixrZ 0 hz),AA 23 (ac.pt0Z aW hz),hf 30 hb,hf 37 (h.op x),hrw 43 (Q1 1) 18 [.agg (aJ (I.o x)),.agg (aj x)] hq b (AfL gl hq a),hbb 44 (Xl (q:=k) aa)] (Go.Proofs.YtghphhhpagagbaaGreatDoor.hc (el l)::Go.Proofs.YtghphhhpagagbaaGreatDoor.hc (ac.imm l)::rlC ρe2 (fW (Q1 1) 18) (Q1 1) b) k5 [] ρe2 kd1
 .split at hs
  .rename_i he;subst he;rw[EZ];exact ZT [hr 21 (Ef (s:=l))] (Go.Proofs.YtghphhhpagagbaaGreatDoor.hc (ac.imm l)::rlC ρe3 (Q1 1) (Q1 1) (Acw hc hl id)) ρe3 kd1
  .cases hs
def LA(I:Gi)(vd:FM Ab Bool)(out:Ba)(x:Ab):Ba:=bif Bf (vd.get x)then out else bif Uo (Xf I out x) (I.o x)=0 then out++[x]else out
def JU(I:Gi)(al:A3):Ba:=al.row.foldl (LA I al.void) []
theorem Ad3{I:Gi}{vd:FM Ab Bool}{out:Ba}{y:Ab}(h:y∈LA I vd out x):y∈out\/y=x:=by grind [LA]
theorem Ad4{I:Gi}{vd:FM Ab Bool}{out:Ba}:(LA I vd out x).length<=out.length+1:=by grind [LA]
theorem Xg{I:Gi}{vd:FM Ab Bool}:∀{l out:Ba},(∀y∈l.foldl (LA I vd) out,y∈out\/y∈l)/\(l.foldl (LA I vd) out).length<=out.length+l.length
 |[],out=>(by grind)
 |x::r,out=>by obtain⟨h1,h2⟩:=Xg (I:=I) (vd:=vd) (l:=r) (out:=LA I vd out x);grind [Ad3,Ad4]
end
theorem AfX{κ:Nat->Fu}(l:Ba):InP κ [0] [(0,Bz l)] [(0,Bz l)]:=λk o0 h=>by
 rw[Bc] at h;split at h
 .rename_i e;subst e;exact⟨0,o0,rfl,by rw[Bc,Bu rfl];exact h,by cases h;exact⟨rfl,.inr ⟨rfl,ac.imm l⟩⟩⟩
 .cases h
theorem AhC{c a b:Nat}(h:Q1 c a=Q1 c b):a=b:=Nat.add_left_cancel h
theorem Adp(hR:Bn R)(l:Ba)(c:Nat):Aa5 (kO [(0,Bz l)] [0] 1 14 c) (stO l 1 R) ((0,Bz l)::BX (Q1 c) R):=λi o h0=>by
 rw[Bc] at h0;split at h0
 .rename_i e;subst e;exact⟨0,o,rfl,by grind,by cases h0;exact⟨rfl,.inr ⟨rfl,ac.imm l⟩⟩⟩
 .rw[Hp] at h0;obtain⟨k,hk,e,h⟩:=LP h0;subst e;have hκ:∀k,(∃ob,Bw (Q1 1) R k=some ob)->kO [(0,Bz l)] [0] 1 14 c (Q1 1 k)=some (Q1 c k):=λk ⟨ob,h⟩=>by have:=D3 h;unfold kO Q1;rw[show Nat.blt (1+k) 1=false from by cases hb:Nat.blt (1+k) 1 with|false=>rfl|true=>simp_all,show Nat.blt (1+k) (1+14)=true from Q9 aa,Nat.add_sub_cancel_left];rfl
  obtain⟨d,h1,h2⟩:=PH hκ hR k o h;refine⟨Q1 1 k,d,hκ k ⟨d,h1⟩,?_,h2⟩;show ag ((0,Bz l)::BX (Q1 1) R) (Q1 1 k)=_;rw[Bc,Bt (by unfold Q1;omega),Hp,LO (λa _ b _ e=>AhC e) hk];exact h1
abbrev oGd(al:A3)(I:Gi)(k:Nat):Ba:=(al.row.take k).foldl (LA I al.void) []
abbrev Alx(al:A3)(l:Ba)(k:Nat):St:=(s0 49 fI [(0,.ptr (BU al) 0),(3,.rsl 0 0 l.length),(11,aE aj al.row),(12,iG (ah al.row)),(13,iG (k:Int))] [(0,Bz l)] 1 0)
theorem Adq{al:A3}{I:Gi}(h:AfW fI al I):iV prog fI 154 [.ptr (BU al) 0] 25 (JU I al).length ((JU I al).flatMap aj):=by
 have hn:=h.n;refine OW func154 ?_;refine pN (λk:Nat=>Alx al (oGd al I k) k) [1,1,0,1,2,2] (Fw (n:=al.row.length) aa) [] [hc (ac.imm [])] (λB k v hs k5 b=>?_) [25] [(0,0)] [(0,.row)];unfold LC at hs;split at hs
 .rename_i hlt;obtain rfl:=Bj hs;obtain⟨x,hx⟩:∃x,al.row[k]?=some x:=⟨_,DS hlt⟩;have hz:=Be hx;have k5:=k5 _ rfl;have hsub:=Xg (I:=I) (vd:=al.void) (l:=al.row.take k) (out:=[]);have a:=h.o x (bO hx);have hle:(oGd al I k).length<=1000:=MG hsub.2 (by rw[MH];simp;omega);have hO:∀y∈oGd al I k,Xd (I.o y) y:=λy hy=>by
   rcases hsub.1 y hy with h1|h1
   .cases h1
   .exact h.o y (List.mem_of_mem_take h1)
  unfold oGd at k5 hle hO⊢;rw[JI,hx,Option.toList_some,O0,List.foldl_cons,List.foldl_nil] at k5;generalize (al.row.take k).foldl (LA I al.void) []=l at k5 hle hO⊢;have hd:=AhB h.g h.c (al:=al) rfl hO hle x;have hq:=Acw h.c hO x;unfold LA at k5;have hw:=SF al.void x;cases c1:Bf (al.void.get x) with
  |true=>rw[c1] at k5 hw;exact jw [hr 14 (Dl hx),AA 15 (ac.ixZ hz),AA 16 (ac.ptZ aW hz),hf 23 (h.g.op x),hm 31 hw,hbb 47 (Xl (q:=k) aa)] [hc (el l),hc (ac.imm l)] k5 [] [(0,0)] [(0,.row)]
  |false=>
   rw[c1,A9] at k5;rw[c1] at hw;have hm:=AfT (i:=x) hq a.g;generalize Xf I l x=R at hd hq hm k5;cases c2:decide (Uo R (I.o x)=0) with
   |false=>rw[c2] at k5;exact jw [hr 14 (Dl hx),AA 15 (ac.ixZ hz),AA 16 (ac.ptZ aW hz),hf 23 (h.g.op x),Go.Proofs.YtghphhhpagagbaaGreatDoor.hm 31 hw,hfm 37 [0] 1 14 3 [(0,Bz l)] [.ptr (BU al) 0,.rsl 0 0 l.length,.agg (aj x)] ((0,Bz l)::BX (Q1 3) R) hd (AfX l) (Adp hq l 3),hrr 40 (Q1 3) 17 [.agg (aJ (I.o x)),.agg (aj x)] hq hm,hr 41 c2,hbb 47 (Xl (q:=k) aa)] [hc (el l),hc (ac.imm l)] k5 [] [(0,0)] [(0,.row)]
   |true=>rw[c2] at k5;exact jw [hr 14 (Dl hx),AA 15 (ac.ixZ hz),AA 16 (ac.ptZ aW hz),hf 23 (h.g.op x),Go.Proofs.YtghphhhpagagbaaGreatDoor.hm 31 hw,hfm 37 [0] 1 14 3 [(0,Bz l)] [.ptr (BU al) 0,.rsl 0 0 l.length,.agg (aj x)] ((0,Bz l)::BX (Q1 3) R) hd (AfX l) (Adp hq l 3),hrr 40 (Q1 3) 17 [.agg (aJ (I.o x)),.agg (aj x)] hq hm,hr 41 c2,Tn 46 ac 24 l x aa,hbb 47 (Xl (q:=k) aa)] [hc (el (l++[x])),hc (ac.imm (l++[x]))] k5 [] [(0,18)] [(0,.row)]
 .split at hs
  .rename_i he;subst he;unfold JU;show Gp _ _ _ _ _ _ (Alx al ((al.row.take al.row.length).foldl (LA I al.void) []) _);rw[EZ];generalize al.row.foldl (LA I al.void) []=l;exact EI [hr 14 (Ef (s:=al.row))] (ac.imm l)
  .cases hs
def Xh(I:Gi)(x y z:Ab):Bool:=bif decide (z=x)||I.bef z x then Jk I y z else false
def D4(I:Gi)(row:Ba)(x y:Ab):Bool:= !decide (x=y)&&row.any (Xh I x y)
section
variable {gl:CM} {al:A3} {I:Gi} (h:RX gl al.g I)
include h
theorem AfY(x y z:Ab):ba prog gl 302 [.agg (aj z),.ptr (aj x) 0,.ptr [.ptr (BU al) 0] 0,.ptr (aj y) 0] (bG (Xh I x y z)):=by
 have hb:=h.bef z x;have hk:=ZH h y z;unfold Xh;refine Gh func302 ?_;cases c1:decide (z=x) with
 |true=>exact Ar [hV 8 (dU z x c1),hf 25 hk] []
 |false=>
  cases c2:I.bef z x with
  |true=>rw[c2] at hb;exact Ar [hV 8 (dU z x c1),hf 16 hb,hf 25 hk] []
  |false=>rw[c2] at hb;exact Ar [hV 8 (dU z x c1),hf 16 hb] []
theorem Abz(hn:al.row.length<=1000)(x y:Ab):ba prog gl 246 [.ptr (BU al) 0,.agg (aj x),.agg (aj y)] (bG (D4 I al.row x y)):=by
 have hv:Ue prog gl 302 [] [.ptr (aj x) 0,.ptr [.ptr (BU al) 0] 0,.ptr (aj y) 0] (λz:Ab=>[.agg (aj z)]) (λb:Bool=>bG b) (λz=>some (Xh I x y z)):=⟨aH,bf,eB aH,λz r e=>by cases e;exact AfY h x y z⟩;have hc:=kP gl hv (Abs (s:=al.row) (p:=Xh I x y) aa λ_ _=>rfl);unfold D4;refine Gh func246 ?_;refine pO [1,0] (s0 18 gl [(3,.ptr [.ptr (BU al) 0] 0),(4,.ptr (aj x) 0),(5,.ptr (aj y) 0)] [] 0 0) [] [Go.Proofs.YtghphhhpagagbaaGreatDoor.hc (eB (gs:=[.ptr (BU al) 0]) aH),Go.Proofs.YtghphhhpagagbaaGreatDoor.hc (eB (gs:=aj x) aH),Go.Proofs.YtghphhhpagagbaaGreatDoor.hc (eB (gs:=aj y) aH)] ?_ [] [];cases c1:decide (x=y) with
 |true=>exact Ar [hV 9 (dy x y (r:=false) (by rw[c1];rfl))] []
 |false=>exact Ar [hV 9 (dy x y (r:=true) (by rw[c1];rfl)),hf 16 hc] []
end
end
def unS(fn:Func):Func:={fn with body:=some (match ai fn with| .seq a (.scope c)=> .seq a c|c=>c)}
def Aif:Code->Bool
 | .seq _ (.scope _)=>true
 |_=>false
theorem AeI{Q Q':Exit->St->Prop}{J:St}(hi:Aif (ai fn)=true)(hQ:∀l s,¬Q (.goto l) s)(b:Q=Q')(h:Gp P (unS fn) Q' [] false [1] J):Gp P fn Q [] false [1] J:=by
 subst b;obtain⟨a,c,hc⟩:∃a c,ai fn= .seq a (.scope c):=by unfold Aif at hi;grind
 have e:ai (unS fn)= .seq a c:=by grind [unS,ai]
 unfold Gp at h⊢;rw[e] at h;rw[hc];exact Pn (Tr.mono h λe s hx=>by
  cases e with
  |goto l=>obtain⟨s',_,h2⟩:Z1 P Q (.goto l) s:=hx;exact(hQ l s' h2).elim
  |_=>exact⟨rfl,hx⟩)
theorem AdE{r:G}:tH P fn r=tH P (unS fn) r:=by funext e s;unfold tH unS;rfl
section
attribute [local irreducible] Tr dz Gp
def Ajz(p:Ab->Bool)(l:Ba)(j:Nat):Option (Nat⊕Bool):=match l[j]? with
 |none=>some (.inr false)
 |some y=>bif p y then some (.inr true)else some (.inl (j+1))
theorem AjA{p:Ab->Bool}(hn:l.length<=1000):AB (Ajz p l) 0=some (l.any p):=T.eq (T.loop (λj=>j<=l.length/\∀y∈l.take j,p y=false) (λj=>l.length-j) ⟨aa,aC⟩ aa λj ⟨hj,hI⟩=>by
 unfold Ajz;cases hx:l[j]? with
 |none=>have:l.length<=j:=List.getElem?_eq_none_iff.1 hx;refine .some ?_;show false=l.any p;grind
 |some y=>
  have hlt:=(cr hx).1;dsimp only;cases hp:p y with
  |true=>exact .some (show true=l.any p from(by grind))
  |false=>refine .some ⟨⟨aa,λz hz=>?_⟩,aa⟩;grind [JI])
def Su(sen:FM Int Int)(d:Int):Int:=(sen.get d).getD 0
def upB(sen:FM Int Int)(l:Ba)(b:Int)(k:Nat)(x:Ab):JP:=bif b<0 then some (k:Int)else(aS l b).bind λy=>bif Su sen x.By<Su sen y.By then some (k:Int)else some b
def AfZ(I:Gi)(row l:Ba)(sen:FM Int Int)(s:Nat×Int):Option ((Nat×Int)⊕Int):=match l[s.1]? with
 |none=>bif Nat.beq s.1 l.length then some (.inr s.2)else none
 |some x=>bif l.any (D4 I row x)then(upB sen l s.2 s.1 x).bind λb=>some (.inl (s.1+1,b))else some (.inr (s.1:Int))
section
variable {gl:CM} {al:A3} {I:Gi} (h:RX gl al.g I)
theorem Aar(m:FM Int Int)(k:Int):∀σ,bL prog σ 190 false (FM.g JR iG m) (iG k)=some (iG (Su m k)):=FM.look1 (et:=3) Pv aH aH m k rfl
abbrev Aiq(al:A3)(l:Ba)(sen:FM Int Int)(k:Nat)(b:Int):Fr:=[(0,.ptr (BU al) 0),(1,aE aj l),(2,FM.g JR iG sen),(7,iG b),(12,aE aj l),(13,iG (ah l)),(14,iG (k:Int))]
include h
theorem Af0(hn:al.row.length<=1000)(hl:l.length<=1000){sen:FM Int Int}{r:Int}(hr0:AB (AfZ I al.row l sen) (0,-1)=some r):ba prog gl 243 [.ptr (BU al) 0,aE aj l,FM.g JR iG sen] (iG r):=by
 refine Gh func243 ?_;refine pO [1] (s0 50 gl [(0,.ptr (BU al) 0),(1,aE aj l),(2,FM.g JR iG sen)] [] 0 0) [] [] ?_ [] [];refine AeI (Q':=tH prog (unS Tryz.f243) (iG r)) aH (λl s hx=>by unfold tH at hx;rcases hx.1 with e|e<;>cases e) AdE ?_;refine pN (λs:Nat×Int=>(s0 50 gl (Aiq al l sen s.1 s.2) [] 0 0)) 11110122 hr0 [] [] (λB s v hs k5 f=>?_) [] [];obtain⟨k,b⟩:=s;unfold AfZ at hs;dsimp only at hs;split at hs
 .rename_i hx;cases c0:Nat.beq k l.length with
  |false=>rw[c0] at hs;cases hs
  |true=>rw[c0] at hs;obtain rfl:=Bj hs;obtain rfl:=bc c0;obtain rfl:=f _ rfl;exact Ar [hr 15 (Ef (s:=l))] []
 .rename_i x hx;have hz:=Be hx;have hw:=λy=>Abz h hn x y;refine pN (λj:Nat=>(s0 50 gl ([(8,iG (k:Int)),(9,.ref 0 0),(19,aE aj l),(20,iG (ah l)),(21,iG (j:Int))]++Aiq al l sen k b) [(0,XS x)] 1 0)) 11110122110210122 (AjA (p:=D4 I al.row x) hl) [hr 15 (Dl hx),AA 17 (ac.ixZ hz),AA 18 (ac.ptZ aW hz)] [] (λn j o c m i=>?_) [] [(0,0)];unfold Ajz at c;split at c
  .rename_i hy;obtain rfl:=Bj c;have ha:=i _ rfl;rw[<-ha] at hs;obtain rfl:=Bj hs;obtain rfl:=f _ rfl;have hle:l.length<=j:=List.getElem?_eq_none_iff.1 hy;exact Ar [hr 22 (show decide ((j:Int)<ah l)=false from C6 (by unfold ah;omega))] []
  .rename_i y hy;have a:=Be hy;have hw:=hw y;cases c1:D4 I al.row x y with
   |false=>rw[c1] at c hw;obtain rfl:=Bj c;exact jw [hr 22 (Dl hy),AA 23 (ac.ixZ a),AA 24 (ac.ptZ aW a),hf 28 hw,hbb 46 (Xl (q:=j) (by have:=(cr hy).1;omega))] [] (m _ rfl) [] [(0,0)]
   |true=>
    rw[c1] at c hw;obtain rfl:=Bj c;have ha:=i _ rfl;rw[<-ha,ax] at hs;obtain⟨b',hb',hs⟩:=bS hs;obtain rfl:=Bj hs;have k5:=k5 _ rfl;have hkk:k<1000:=by have:=(cr hx).1;omega
    unfold upB at hb';cases c2:decide (b<0) with
    |true=>rw[c2] at hb';obtain rfl:=Bj hb';exact jw [hr 22 (Dl hy),AA 23 (ac.ixZ a),AA 24 (ac.ptZ aW a),hf 28 hw,hr 30 c2,hbb 48 (Xl (q:=k) aa)] [] k5 [] []
    |false=>
     rw[c2,A9] at hb';obtain⟨z,d,hb'⟩:=bS hb';cases c3:decide (Su sen x.By<Su sen z.By) with
     |true=>rw[c3] at hb';obtain rfl:=Bj hb';exact jw [hr 22 (Dl hy),AA 23 (ac.ixZ a),AA 24 (ac.ptZ aW a),hf 28 hw,hr 30 c2,hm 35 (Aar sen x.By),AA 39 (ac.ixZ d),AA 41 (ac.fdZ tZ 0 d),hm 42 (Aar sen z.By),hr 43 c3,hbb 48 (Xl (q:=k) aa)] [] k5 [] []
     |false=>rw[c3] at hb';obtain rfl:=Bj hb';exact jw [hr 22 (Dl hy),AA 23 (ac.ixZ a),AA 24 (ac.ptZ aW a),hf 28 hw,hr 30 c2,hm 35 (Aar sen x.By),AA 39 (ac.ixZ d),AA 41 (ac.fdZ tZ 0 d),hm 42 (Aar sen z.By),hr 43 c3,hbb 48 (Xl (q:=k) aa)] [] k5 [] []
end
abbrev oA(s:OP):Option Ob:=some ⟨113,FSq s,none⟩
def RT(s t:OP):OP:=⟨gM s.a0 t.a0,gM s.a1 t.a1,gM s.a2 t.a2,gM s.a3 t.a3⟩
def wiA(s t:OP):Nat->OP
 |0=>s
 |1=>⟨gM s.a0 t.a0,s.a1,s.a2,s.a3⟩
 |2=>⟨gM s.a0 t.a0,gM s.a1 t.a1,s.a2,s.a3⟩
 |3=>⟨gM s.a0 t.a0,gM s.a1 t.a1,gM s.a2 t.a2,s.a3⟩
 |_=>RT s t
def Zx(k:Nat):Option (Nat⊕Unit):=if k<4 then some (.inl (k+1))else some (.inr ())
theorem Li:AB Zx 0=some ():=T.eq (T.loop (λ_=>True) (λk=>4-k) trivial B5 λk _=>by
 unfold Zx;split
 .exact .some ⟨trivial,aa⟩
 .exact .some rfl)
theorem TX(s t:OP):jg prog gl 155 [.ref 0 0,.agg (FSq t)] [(0,oA s)] 1 (.tup []) [(0,oA (RT s t))] 1:=by
 refine pP func155 ?_;refine pN (λk:Nat=>(s0 20 gl [(0,.ref 0 0),(3,.ptr (FSq t) 0),(5,iG (k:Int))] [(0,oA (wiA s t k))] 1 1)) 11122 Li [] [hc (eB (gs:=FSq t) aH)] (λB k v hs k5 a=>?_) [] [(0,0)] [];rcases k with _|_|_|_|k
 .cases hs;exact jw [hV 16 (jc (P:=prog) (t:=23) s.a0 t.a0)] [] (k5 _ rfl) [] [(0,0)] []
 .cases hs;exact jw [hV 16 (jc (P:=prog) (t:=23) s.a1 t.a1)] [] (k5 _ rfl) [] [(0,0)] []
 .cases hs;exact jw [hV 16 (jc (P:=prog) (t:=23) s.a2 t.a2)] [] (k5 _ rfl) [] [(0,0)] []
 .cases hs;exact jw [hV 16 (jc (P:=prog) (t:=23) s.a3 t.a3)] [] (k5 _ rfl) [] [(0,0)] []
 .exact mt .normal (s0 20 gl [] [(0,oA (RT s t))] 1 1) [] [hr 6 (show decide (((k+1+1+1+1:Nat):Int)<4)=false from C6 aa)] []
abbrev OG(x:CY):Option Ob:=some ⟨115,d7 x,none⟩
theorem RE(x:CY)(t:OP):jg prog gl 155 [.ref 0 30,.agg (FSq t)] [(0,OG x)] 1 (.tup []) [(0,OG {x with past:=RT x.past t})] 1:=by
 refine pP func155 ?_;refine pN (λk:Nat=>(s0 20 gl [(0,.ref 0 30),(3,.ptr (FSq t) 0),(5,iG (k:Int))] [(0,OG {x with past:=wiA x.past t k})] 1 1)) 11122 Li [] [hc (eB (gs:=FSq t) aH)] (λB k v hs k5 a=>?_) [] [(0,0)] [];rcases k with _|_|_|_|k
 .cases hs;exact jw [hV 16 (jc (P:=prog) (t:=23) x.past.a0 t.a0)] [] (k5 _ rfl) [] [(0,0)] []
 .cases hs;exact jw [hV 16 (jc (P:=prog) (t:=23) x.past.a1 t.a1)] [] (k5 _ rfl) [] [(0,0)] []
 .cases hs;exact jw [hV 16 (jc (P:=prog) (t:=23) x.past.a2 t.a2)] [] (k5 _ rfl) [] [(0,0)] []
 .cases hs;exact jw [hV 16 (jc (P:=prog) (t:=23) x.past.a3 t.a3)] [] (k5 _ rfl) [] [(0,0)] []
 .exact mt .normal (s0 20 gl [] [(0,OG {x with past:=RT x.past t})] 1 1) [] [hr 6 (show decide (((k+1+1+1+1:Nat):Int)<4)=false from C6 aa)] []
def yt(s:OP)(n:Nat):OP:=match n/64 with
 |0=>{s with a0:=gM s.a0 (IK 1 (n%64))}
 |1=>{s with a1:=gM s.a1 (IK 1 (n%64))}
 |2=>{s with a2:=gM s.a2 (IK 1 (n%64))}
 |_=>{s with a3:=gM s.a3 (IK 1 (n%64))}
theorem W0(s:OP)(h:n<256):jg prog gl 191 [.ref 0 0,iG (n:Int)] [(0,oA s)] 1 (.tup []) [(0,oA (yt s n))] 1:=by
 have hm:u9 (n:Int) 64=some ((n%64:Nat):Int):=by grind [u9]
 have hcn:wJ ((n%64:Nat):Int)=some (n%64):=by grind [wJ]
 have hq:∀q:Nat,n/64=q->Gg (n:Int) 64=some (q:Int):=by grind [Gg,Mx]
 refine pP func191 ?_;have h4:n/64=0\/n/64=1\/n/64=2\/n/64=3:=aa;rcases h4 with e|e|e|e
 .rw[show yt s n={s with a0:=gM s.a0 (IK 1 (n%64))} by grind [yt]];exact mt .normal (s0 16 gl [] [(0,oA {s with a0:=gM s.a0 (IK 1 (n%64))})] 1 1) [] [hbb 6 (Tt (hq 0 e)),hbb 11 (KO hm),hV 12 (sM (P:=prog) (t:=23) 1 hcn),hV 13 (jc (P:=prog) (t:=23) s.a0 (IK 1 (n%64)))] []
 .rw[show yt s n={s with a1:=gM s.a1 (IK 1 (n%64))} by grind [yt]];exact mt .normal (s0 16 gl [] [(0,oA {s with a1:=gM s.a1 (IK 1 (n%64))})] 1 1) [] [hbb 6 (Tt (hq 1 e)),hbb 11 (KO hm),hV 12 (sM (P:=prog) (t:=23) 1 hcn),hV 13 (jc (P:=prog) (t:=23) s.a1 (IK 1 (n%64)))] []
 .rw[show yt s n={s with a2:=gM s.a2 (IK 1 (n%64))} by grind [yt]];exact mt .normal (s0 16 gl [] [(0,oA {s with a2:=gM s.a2 (IK 1 (n%64))})] 1 1) [] [hbb 6 (Tt (hq 2 e)),hbb 11 (KO hm),hV 12 (sM (P:=prog) (t:=23) 1 hcn),hV 13 (jc (P:=prog) (t:=23) s.a2 (IK 1 (n%64)))] []
 .rw[show yt s n={s with a3:=gM s.a3 (IK 1 (n%64))} by grind [yt]];exact mt .normal (s0 16 gl [] [(0,oA {s with a3:=gM s.a3 (IK 1 (n%64))})] 1 1) [] [hbb 6 (Tt (hq 3 e)),hbb 11 (KO hm),hV 12 (sM (P:=prog) (t:=23) 1 hcn),hV 13 (jc (P:=prog) (t:=23) s.a3 (IK 1 (n%64)))] []
theorem OH{σ ρ:Type}{step:σ->Option (σ⊕ρ)}{s:σ}{r:ρ}(h:step s=some (.inr r)):AB step s=some r:=by grind [AB,FU,KN]
theorem RF{st:St}{j:Nat}{l:Bk}(h:ag st.σ j=some ⟨t,l,none⟩)(k:Nat):Le P st {st with σ:=(j,some ⟨t,l.take k,none⟩)::st.σ}:=by
 rintro cx a w ⟨β,r⟩;have hs:∀i o,ag ((j,some ⟨t,l.take k,none⟩)::st.σ) i=some o->∃c,ag st.σ i=some c/\((i=j/\o=⟨t,l.take k,none⟩/\c=⟨t,l,none⟩)\/o=c):=by grind
 have hs':∀i o,ag st.σ i=some o->∃c,ag ((j,some ⟨t,l.take k,none⟩)::st.σ) i=some c:=by grind
 have hA:Av cx.S0 β ((j,some ⟨t,l.take k,none⟩)::st.σ)=Av cx.S0 β st.σ:=by grind
 refine⟨β,{size:=r.size,defers:=r.defers,loose:=r.loose,rnd:=r.rnd,fr:=λi=>?_,ob:=λi o hi=>?_,inj:=λi d o c b C D h1 h2 h3 h4=>?_,own:=λi o b C h1 h2=>?_,sep:=λi o b C h1 h2=>?_,fresh:=r.fresh,glob:=λg m hl=>?_,keep:=r.keep,old:=r.old,pin:=r.pin}⟩
 .grind
 .show RO P β (Av cx.S0 β ((j,some ⟨t,l.take k,none⟩)::st.σ)) w i o;rw[hA];obtain⟨c,h1,⟨rfl,rfl,rfl⟩|rfl⟩:=hs i o hi
  .rcases r.ob _ _ h1 with⟨e1,e2,e3⟩|⟨b,x,o,e1,_⟩|⟨b,C,cur,e1,e2,e3,e4,e5,e6,e7⟩
   .grind
   .cases e1
   .have e6:l.length<=cur.size:=e6;have e7:∀(j:Nat) (g:G),l[j]?=some g->∃u,cur[j]?=some u/\u.oneCell'=true/\RV β (Av cx.S0 β st.σ) w g u:=e7;refine .inr (.inr ⟨b,C,cur,e1,e2,e3,e4,e5,?_,λx g hg=>e7 x g ?_⟩);all_goals grind
  .exact r.ob _ _ h1
 .obtain⟨e,h1',_⟩:=hs i o h1;obtain⟨f,h2',_⟩:=hs d c h2;grind
 .grind
 all_goals grind
def hcl(c:Nat){P:Br}{σ:aQ}{t:Bo}{g:G}{i:Nat}{ob:Ob}(h:rF P σ t g=some (i,ob)):HP:=⟨some (.e 999999998 (.tup []) i ob),rF P (UO σ (fR g)) t g=some (i,ob),(AeF Hj).symm.trans h⟩
section
variable {P:Br} [M:Mix P] {st:St} {Q:Exit->St->Prop} {fn:Func} {Bs:List (St->Prop)} {m:Bool} {p:Bq}
theorem dSh(j:Nat){l:Bk}(k:Nat)(h:Gp P fn Q Bs m p {st with σ:=(j,some ⟨t,l.take k,none⟩)::st.σ})(hj:ag st.σ j=some ⟨t,l,none⟩:=by rfl):Gp P fn Q Bs m p st:=by
 unfold Gp LS at h⊢;cases m with
 |true=>exact pQ (RF hj k) _ _ h
 |false=>exact Tr.le h (RF hj k)
end
abbrev Lj(g:Aj):G:= .clo (.func 266) [] [.ptr [.ptr (Ag g) 0] 0]
def Ai7{α:Type}(l:List α)(i:Int):Option (Int⊕Unit):=bif i<ah l then(aS l i).bind λ_=>some (.inl (wI (i+1)))else some (.inr ())
theorem W3{l:List α}(h:l.length<1000000000):AB (Ai7 l) (wI (0+1))=some ():=by refine T.eq (T.loop (λi=>∃k:Nat,i=((k+1:Nat):Int)/\k<=l.length) (λi=>l.length+2-i.toNat) ⟨0,rfl,aa⟩ (by grind) ?_);rintro i ⟨k,rfl,hk⟩;unfold Ai7;refine .dec (λhh=>?_) λhh=> .some rfl;unfold ah at hh;have ew:wI (((k+1:Nat):Int)+1)=((k+1+1:Nat):Int):=aq aa;refine .bind (.ix aa (x:=l[k+1]) (by grind) (.some ⟨⟨k+1,ew,aa⟩,?_⟩));grind
def zI:List Value:=[.int .i64 0,.int .i64 0,.int .u64 0]
abbrev W4(l:Ba):Bk:=(l.flatMap aj).take 0++(bN zI (l.length*3)).map .lit++(l.flatMap aj).drop (0+l.length*3)
theorem clr{l:Ba}(h:0<l.length):rF prog [ob 0 25 (l.flatMap aj)] 29 (.rsl 0 (0+(0:Int).toNat*3) (l.length-(0:Int).toNat))=some (0,⟨25,W4 l,none⟩):=by have e1:dp prog 29=some 25:=aH;have e2:jj prog 25=some zI:=aH;have e3:bw prog 25=some 3:=aH;have e4:ag [ob 0 25 (l.flatMap aj)] 0=some ⟨25,l.flatMap aj,none⟩:=rfl;show rF prog _ _ (.rsl 0 0 l.length)=_;unfold rF;rw[e1];simp only[e2,e3,e4];rw[Bu ⟨rfl,h,B5,by grind [AH.len,ac],rfl⟩]
theorem RH(l:Ba):∀g∈W4 l,bB g:=by grind [AH.imm,ac,mN]
theorem W5(h:(g.at_.get x).isSome=true):ba prog gl 266 [.agg (aj x),.ptr [.ptr (Ag g) 0] 0] (bG true):=jk gl (by unfold df;rw[h])
theorem aa4(g:Aj):Ue prog gl 266 [] [.ptr [.ptr (Ag g) 0] 0] (λx:Ab=>[.agg (aj x)]) (λx:Bool=>bG x) (λx=>df x g):=⟨aH,bf,aY (aG 20 _ aH) bf,λx r h=>jk gl h⟩
theorem ixL(h:∀x∈l,(g.at_.get x).isSome=true):UK l (λx=>df x g)=some (if l.length=0 then-1 else 0):=by
 unfold UK;cases l with
 |nil=>rfl
 |cons a r=>
  have e:AB (Hz (a::r) (λx=>df x g)) 0=some (.inr 0):=by grind [OH,Hz,df,ah,aS]
  rw[e];rfl
theorem TY(h:∀x∈l,(g.at_.get x).isSome=true)(hl:l.length<1000000000):jg prog gl 239 [.rsl 0 0 l.length,Lj g] [ob 0 25 (l.flatMap aj)] 1 (.rsl 0 0 0) [ob 0 25 []] 1:=by
 refine pP func239 ?_;have hi:=gS gl (aa4 gl g) (ixL h);by_cases h0:l.length=0
 .rw[Bu h0] at hi;obtain rfl:=List.length_eq_zero_iff.1 h0;exact mt .ret (s0 42 gl [(4,.rsl 0 0 0)] [ob 0 25 []] 1 1) [.rsl 0 0 0] [hq 10 [aE aj [],Lj g] [hc (ac.al [])] hi] [hc (rfl:0=0),hc (ac.imm [])]
 .rw[Bt h0] at hi;refine pN (λj:Int=>(s0 42 gl [(0,.rsl 0 0 l.length),(1,Lj g),(5,iG 0),(6,iG j)] [ob 0 25 (l.flatMap aj)] 1 1)) 11110122 (W3 (l:=l) hl) [hq 10 [aE aj l,Lj g] [hc (ac.al l)] hi] [hc (el l),hc (aG 20 (Lj g) aH),hc (ac.imm l)] (λB j w hs k5 b=>?_) [] [(0,0)] [(0,.row)];unfold Ai7 at hs;rcases bC hs with⟨b1,hs⟩|⟨b1,hs⟩
  .obtain⟨y,a,hs⟩:=bS hs;obtain rfl:=Bj hs;exact jw [hr 19 b1,AA 24 (ac.ixrZ 0 a),AA 25 (ac.pt0Z aW a),hf 28 (W5 gl (h y (bO (He a).2)))] [hc (el l),hc (aG 20 (Lj g) aH),hc (ac.imm l)] (k5 _ rfl) [] [(0,0)] [(0,.row)]
  .obtain rfl:=Bj hs;refine pO 1111110 (J:=(s0 42 gl [(0,.rsl 0 0 l.length),(5,iG 0)] [ob 0 25 (W4 l)] 1 1)) [hr 19 b1,AA 38 (ac.sufZ 0 (l:=l) (i:=0) (y:=l) rfl),hcl 1 (clr (l:=l) (Nat.pos_of_ne_zero h0))] [hc (el l),hc (RH l)] ?_ [] [(0,0)] [(0,.row)];refine dSh 0 0 ?_;exact mt .ret (s0 42 gl [(4,.rsl 0 0 0)] [ob 0 25 []] 1 1) [.rsl 0 0 0] [AA 41 (ac.preZ 0 (l:=l) (i:=0) (y:=[]) rfl)] [hc (rfl:0=0),hc (ac.imm [])]
theorem Zy(l:Ba):∀g∈l.flatMap aj,∃v,g= .lit v:=by grind [aj]
theorem RI{g:Aj}{o:Bp}(h:∀x∈o.Past,(g.at_.get x).isSome=true)(hl:o.Past.length<1000000000):iV prog gl 190 [.ptr (Ag g) 0,.agg (aJ o)] 25 0 []:=by
 have hcl:cU o.Past=some o.Past:=by grind [cU,aT]
 refine OW func190 ?_;refine pO [1,0] (s0 10 gl [(2,.ptr [.ptr (Ag g) 0] 0),(3,.ptr (aJ o) 0)] [] 0 0) [] [hc (eB (gs:=[.ptr (Ag g) 0]) aH),hc (eB (gs:=aJ o) aH)] ?_;exact EI [ho 7 [aE aj o.Past] [] (jY gl hcl) (Zy _),tN 9 [0] 1 [ob 0 25 (o.Past.flatMap aj)] [.rsl 0 0 o.Past.length,Lj g] [ob 0 25 []] (TY gl h hl) ⟨⟨rfl,.inr ⟨rfl,ac.imm _⟩⟩,trivial⟩ ⟨⟨rfl,.inr ⟨rfl,ac.imm []⟩⟩,trivial⟩] (ac.imm [])
def hmu(R:Bq)(c:Nat){P:Br}{σ:aQ}{t:Bo}{gm gk g:G}{i:Nat}{ob:Ob}(h:dZ P σ t gm gk g=some (i,ob)):HP:=⟨some (.e 999999998 (.lit undef) i ob),dZ P (UO σ (fR gm)) t gm gk g=some (i,ob),(aab Hj).symm.trans h⟩
abbrev mE(m:Jq):oE:=m.es.map λe=>(ga e.1,iG e.2.1,e.2.2)
abbrev gMp(m:Jq):G:= .mp ((mE m).map (·.1)) ((mE m).map (·.2.1)) ((mE m).map (·.2.2)) m.clk
abbrev oM(m:Jq):Option Ob:=some ⟨108,[],some (.map (mE m) m.clk)⟩
abbrev oG(cs:Mi)(n:Nat)(j:Nat):Option Ob:=some ⟨111,[aE bv cs,.mref 1,.rsl j 0 n],none⟩
abbrev zQ(N:Ja):Option Ob:=some ⟨115,N.flatMap d7,none⟩
theorem RJ(m:Jq):FM.g ga iG m=gMp m:=by unfold FM.g gMp mE;simp only[IH];rfl
theorem lkP{m:Jq}{k:Ab}{b:Bool}{v:Int}(h1:(m.get k).getD 0=v)(h2:(m.get k).isSome=b):bL prog [(1,oM m)] 108 true (.mref 1) (.agg (aj k))=some (.tup [iG v,bG b]):=by
 subst h1 h2;have hm:(mE m).map (·.1)=(m.es.map (·.1)).map ga:=by rw[IH,IH];rfl
 have hz:((prog.info? 3).bind (·.zero)).map db=some (iG 0):=aH;obtain⟨z,hz,hv⟩:=DL.1 hz;unfold bL;rw[show pB prog 108=some (25,3) from by kernel_rfl,show cD (.agg (aj k))=some (ga k) from rfl];dsimp only;rw[show LB [(1,oM m)] (.mref 1)=some (1,108,mE m,m.clk) from rfl];dsimp only;rw[jt.chk,ax,hm,jt.key];grind [FM.get,fz]
theorem Zz{m:Jq}{k:Ab}{v:Int}(h1:(m.get k).getD 0=v):bL prog [(1,oM m)] 108 false (.mref 1) (.agg (aj k))=some (iG v):=by
 subst h1;have hm:(mE m).map (·.1)=(m.es.map (·.1)).map ga:=by rw[IH,IH];rfl
 have hz:((prog.info? 3).bind (·.zero)).map db=some (iG 0):=aH;obtain⟨z,hz,hv⟩:=DL.1 hz;unfold bL;rw[show pB prog 108=some (25,3) from by kernel_rfl,show cD (.agg (aj k))=some (ga k) from rfl];dsimp only;rw[show LB [(1,oM m)] (.mref 1)=some (1,108,mE m,m.clk) from rfl];dsimp only;rw[jt.chk,ax,hm,jt.key];grind [FM.get,fz]
def CW(m:Jq)(k:Ab)(n:Int):Jq:=⟨m.es++[(k,n,m.clk)],m.clk+1⟩
theorem aa6{m:Jq}{k:Ab}(h:m.get k=none)(n:Int):dZ prog [(1,oM m)] 108 (.mref 1) (.agg (aj k)) (iG n)=some (1,⟨108,[],some (.map (mE (CW m k n)) (CW m k n).clk)⟩):=by
 have hm:(mE m).map (·.1)=(m.es.map (·.1)).map ga:=by rw[IH,IH];rfl
 unfold dZ;rw[show pB prog 108=some (25,3) from by kernel_rfl,show cD (.agg (aj k))=some (ga k) from rfl,show LB [(1,oM m)] (.mref 1)=some (1,108,mE m,m.clk) from rfl];dsimp only;rw[jt.chk,ax,hm,jt.key];grind [fz,CW,FM.get]
def hlk(d:Nat){P:Br}{σ:aQ}{t:Bo}{ok:Bool}{i:Nat}{gk g:G}(h:bL P σ t ok (.mref i) gk=some g):HP:=⟨some (.m d g),bL P σ t ok (.mref i) gk=some g,h⟩
structure AdJ (cs:Mi) (m:Jq) (N:Ja) (o:Bp) (i:Ab) (c:DQ) (kk:Nat):Prop where
 chk:Abb o kk
 sm:Bg o
 cl:pG o=some o
 id:Rs o=some i
 fresh:m.get i=none
 room:N.length<200
 card:hY ⟨cs,m,N⟩ o.By=some (c,true)
 by_:o.By=c.Device
 sig:lq c.Sign (qc o) o.Sig=some true
 create:o.Kind=1->N=[]
 nPast:o.Past.length<1000000000
 par:∀x∈o.Past,∃n:Nat,m.get x=some (n:Int)/\n<200
abbrev z4:OP:=⟨0,0,0,0⟩
def Z6(m:Jq)(N:Ja)(l:Ba)(s:OP×OP×Int×Int×Int):Option ((OP×OP×Int×Int×Int)⊕(OP×OP×Int×Int)):=
 bif s.2.2.2.2<ah l then(aS l s.2.2.2.2).bind λx=>(aS N ((m.get x).getD 0)).bind λy=>some (.inl (yt s.1 ((m.get x).getD 0).toNat,RT s.2.1 y.past,E0 s.2.2.1 y.o.At,E0 s.2.2.2.1 (wI (y.level+1)),wI (s.2.2.2.2+1)))else some (.inr (s.1,s.2.1,s.2.2.1,s.2.2.2.1))
def ZA(s t:OP):Nat->OP
 |0=>s
 |1=>⟨bD s.a0 t.a0,s.a1,s.a2,s.a3⟩
 |2=>⟨bD s.a0 t.a0,bD s.a1 t.a1,s.a2,s.a3⟩
 |3=>⟨bD s.a0 t.a0,bD s.a1 t.a1,bD s.a2 t.a2,s.a3⟩
 |_=>⟨bD s.a0 t.a0,bD s.a1 t.a1,bD s.a2 t.a2,bD s.a3 t.a3⟩
def Z7(N:Ja)(o:Bp)(A:OP)(s:Int×Bool×Int):Option ((Int×Bool×Int)⊕(Int×Bool)):=
 bif s.2.2<ah N then(aS N s.2.2).bind λy=>bif y.o.By=o.By then(iX A s.2.2).bind λh=>bif h then some (.inl (E0 s.1 y.o.Seq,(bif s.2.1 then true else decide (y.o.Seq=wI (o.Seq-1))),wI (s.2.2+1)))else some (.inl (s.1,s.2.1,wI (s.2.2+1)))else some (.inl (s.1,s.2.1,wI (s.2.2+1)))else some (.inr (s.1,s.2.1))
section
variable {cs:Mi} {m:Jq} {N:Ja} {o:Bp} {i:Ab} {c:DQ} {kk:Nat}
abbrev Z8(cs:Mi)(m:Jq)(N:Ja):G:= .ptr [aE bv cs,gMp m,aE d7 N] 0
theorem AdJ.card'(h:AdJ cs m N o i c kk):ba prog fI 34 [Z8 cs m N,iG o.By] (.tup [.agg (bv c),bG true]):=by have:=uN fI h.card;grind [Ag,RJ]
theorem AdJ.lacks'(h:AdJ cs m N o i c kk):iV prog fI 190 [Z8 cs m N,.agg (aJ o)] 25 0 []:=by have:=RI fI (g:=⟨cs,m,N⟩) (o:=o) (λx hx=>by obtain⟨n,hn,_⟩:=h.par x hx;show(m.get x).isSome=true;rw[hn];rfl) h.nPast;grind [Ag,RJ]
theorem cf(m:Jq):∀e∈mE m,bB e.2.1:=by grind [mN]
abbrev aa7(o:Bp)(a k:Int):Fr:=[(0,.ref 0 0),(3,.ptr (aJ o) 0),(6,.ref 3 0),(11,.ref 4 0),(12,.ref 5 0),(13,iG a),(80,aE aj o.Past),(81,iG (ah o.Past)),(82,iG k)]
abbrev Z9(cs:Mi)(m:Jq)(N:Ja)(x:CY)(p b:OP):aQ:=[(0,oG cs N.length 2),(1,oM m),(2,zQ N),(3,OG x),(4,oA p),(5,oA b)]
theorem TZ(x:CY){n:Nat}(hn:n<256){r:Bool}(h:iX x.past (n:Int)=some r):ba prog fI 84 [.ptr (d7 x) 30,iG (n:Int)] (bG r):=by
 have hm:u9 (n:Int) 64=some ((n%64:Nat):Int):=by grind [u9]
 have hcn:wJ ((n%64:Nat):Int)=some (n%64):=by grind [wJ]
 have hq:∀q:Nat,n/64=q->Gg (n:Int) 64=some (q:Int):=by grind [Gg,Mx]
 have hd:wI (Int.tdiv (n:Int) 64)=((n/64:Nat):Int):=by grind [bM]
 have ht:Int.tmod (n:Int) 64=((n%64:Nat):Int):=by rw[Int.tmod_eq_emod_of_nonneg aa];rfl
 unfold iX at h;rw[hd,ht,hcn] at h;refine Gh func84 ?_;have h4:n/64=0\/n/64=1\/n/64=2\/n/64=3:=aa;rcases h4 with e|e|e|e
 .rw[e] at h;obtain rfl:=Bj h;exact Ar [hbb 7 (Tt (hq 0 e)),hbb 12 (KO hm),hV 13 (Am (P:=prog) (t:=23) x.past.a0 hcn),hV 14 (ju (P:=prog) (t:=23) (Ju x.past.a0 (n%64)) 1)] []
 .rw[e] at h;obtain rfl:=Bj h;exact Ar [hbb 7 (Tt (hq 1 e)),hbb 12 (KO hm),hV 13 (Am (P:=prog) (t:=23) x.past.a1 hcn),hV 14 (ju (P:=prog) (t:=23) (Ju x.past.a1 (n%64)) 1)] []
 .rw[e] at h;obtain rfl:=Bj h;exact Ar [hbb 7 (Tt (hq 2 e)),hbb 12 (KO hm),hV 13 (Am (P:=prog) (t:=23) x.past.a2 hcn),hV 14 (ju (P:=prog) (t:=23) (Ju x.past.a2 (n%64)) 1)] []
 .rw[e] at h;obtain rfl:=Bj h;exact Ar [hbb 7 (Tt (hq 3 e)),hbb 12 (KO hm),hV 13 (Am (P:=prog) (t:=23) x.past.a3 hcn),hV 14 (ju (P:=prog) (t:=23) (Ju x.past.a3 (n%64)) 1)] []
theorem W7(h:AdJ cs m N o i c kk){p b:OP}{top lev:Int}(h1:AB (Z6 m N o.Past) (z4,z4,0,1,0)=some (p,b,top,lev))(h2:ZA p b 4=z4)(h3:decide (o.At<top)=false){last:Int}{fol:Bool}(h4:AB (Z7 N o (RT b p)) (0,false,0)=some (last,fol))(h5:decide (o.Seq<=last)=false)(h6:1<o.Seq->fol=true):jg prog fI 101 [.ref 0 0,.agg (aJ o)] [(0,oG cs N.length 2),(1,oM m),(2,zQ N)] 3 (iG 0) [(0,oG cs (N++[(⟨o,i,RT b p,lev⟩:CY)]).length 3),(1,oM (CW m i N.length)),(3,zQ (N++[⟨o,i,RT b p,lev⟩]))] 4:=by
 have hro:=h.room;refine pP func101 ?_;refine pO 11111111100 (s0 234 fI [(0,.ref 0 0),(3,.ptr (aJ o) 0),(6,.ref 3 0)] [(0,oG cs N.length 2),(1,oM m),(2,zQ N),(3,OG ⟨o,i,z4,1⟩)] 4 3) [hf 24 (IW h.chk),hf 29 (Ds fI h.cl),hf 31 (TP fI h.sm h.id),hlk 40 (lkP (m:=m) (k:=i) (v:=0) (b:=false) (by rw[h.fresh];rfl) (by rw[h.fresh];rfl)),hr 49 (show decide (200<=(N.length:Int))=false from C6 aa),hq 54 [Z8 cs m N,iG o.By] [hc (cf m),hc (az.al N)] h.card',hf 61 (OD fI h.sm h.by_ h.sig)] [hc (eB (gs:=aJ o) aH),hc (el N),hc (cf m),hc (az.imm N)] ?_ [] [(0,0),(1,1),(2,2),(3,4)] [(2,.row)];refine Ix 1111111110 (s0 234 fI [(0,.ref 0 0),(3,.ptr (aJ o) 0),(6,.ref 3 0)] [(0,oG cs N.length 2),(1,oM m),(2,zQ N),(3,OG ⟨o,i,z4,1⟩)] 4 3) ?_ λd=>?_;rotate_left
 .by_cases hk1:o.Kind=1
  .have e0:decide (0<(N.length:Int))=false:=by rw[h.create hk1];rfl
   exact yl 1111111110 [hr 65 (C3 hk1),hr 72 e0] [hc (el N),hc (cf m),hc (az.imm N)] d [] [(0,0),(1,1),(2,2),(3,3)] [(2,.row)]
  .exact yl 1111111110 [hr 65 (C6 hk1)] [hc (el N),hc (cf m),hc (az.imm N)] d [] [(0,0),(1,1),(2,2),(3,3)] [(2,.row)]
 refine Ix 111111111111101 (s0 234 fI [(0,.ref 0 0),(3,.ptr (aJ o) 0),(6,.ref 3 0),(11,.ref 4 0),(12,.ref 5 0),(13,iG top)] (Z9 cs m N ⟨o,i,z4,lev⟩ p b) 6 3) ?_ λd=>?_;rotate_left
 .refine pN (λs:OP×OP×Int×Int×Int=>(s0 234 fI (aa7 o s.2.2.1 s.2.2.2.2) (Z9 cs m N ⟨o,i,z4,s.2.2.2.1⟩ s.1 s.2.1) 6 3)) 11111111111110122 h1 [ho 76 [Z8 cs m N,.agg (aJ o)] [hc (cf m),hc (az.al N)] h.lacks' (λg hg=>by cases hg)] [hc (el N),hc (cf m),hc (az.imm N)] (λB s w hs k5 j=>?_) [] [(0,0),(1,1),(2,2),(3,3),(4,5),(5,6)] [(2,.row)];unfold Z6 at hs;rcases bC hs with⟨c1,hs⟩|⟨c1,hs⟩
  .obtain⟨x,ex,hs⟩:=bS hs;obtain⟨n,l,hn⟩:=h.par x (bO (He ex).2);have ej:(m.get x).getD 0=(n:Int):=by rw[l];rfl
   rw[ej] at hs;obtain⟨y,a,hs⟩:=bS hs;obtain rfl:=Bj hs;exact jw [hr 83 c1,AA 84 (ac.ixZ ex),AA 85 (ac.ptZ aW ex),hlk 95 (Zz ej),AA 96 (az.ixrZ 2 a),hlk 102 (Zz ej),tN 103 [4] 7 [(4,oA s.1)] [.ref 4 0,iG (n:Int)] [(0,oA (yt s.1 n))] (W0 fI s.1 aa) ⟨⟨rfl,.inl rfl⟩,trivial⟩ ⟨⟨rfl,.inl rfl⟩,trivial⟩,AA 107 (az.fs0Z aap aaq 30 B5 a),tN 108 [5] 7 [(5,oA s.2.1)] [.ref 5 0,.agg (FSq y.past)] [(0,oA (RT s.2.1 y.past))] (TX fI s.2.1 y.past) ⟨⟨rfl,.inl rfl⟩,trivial⟩ ⟨⟨rfl,.inl rfl⟩,trivial⟩,AA 114 (az.fd0Z tZ 3 a),AA 121 (az.fd0Z tZ 34 a)] [hc (el N),hc (cf m),hc (az.imm N)] (k5 _ rfl) [] [(0,0),(1,1),(2,2),(3,3),(4,4),(5,5)] [(2,.row)]
  .obtain rfl:=Bj hs;have e:=j _ rfl;simp only[Gq] at e;obtain⟨rfl,rfl,rfl,rfl⟩:=e;exact yl 111111111111101 [hr 83 c1] [hc (el N),hc (cf m),hc (az.imm N)] d [] [(0,0),(1,1),(2,2),(3,3),(4,4),(5,5)] [(2,.row)]
 refine Ix 11111111111111101 (s0 234 fI [(0,.ref 0 0),(3,.ptr (aJ o) 0),(6,.ref 3 0),(11,.ref 4 0),(12,.ref 5 0),(13,iG top),(17,.ref 6 0)] (Z9 cs m N ⟨o,i,z4,lev⟩ p b++[(6,oA z4)]) 7 3) ?_ λd=>?_;rotate_left
 .refine pN (λk:Nat=>(s0 234 fI [(0,.ref 0 0),(3,.ptr (aJ o) 0),(6,.ref 3 0),(11,.ref 4 0),(12,.ref 5 0),(13,iG top),(17,.ref 6 0),(127,iG (k:Int))] (Z9 cs m N ⟨o,i,z4,lev⟩ p b++[(6,oA (ZA p b k))]) 7 3)) 1111111111111110122 Li [] [hc (el N),hc (cf m),hc (az.imm N)] (λB k v hs k5 j=>?_) [] [(0,0),(1,1),(2,2),(3,3),(4,4),(5,5),(6,6)] [(2,.row)];rcases k with _|_|_|_|k
  .cases hs;exact jw [hV 136 (ju (P:=prog) (t:=23) p.a0 b.a0)] [hc (el N),hc (cf m),hc (az.imm N)] (k5 _ rfl) [] [(0,0),(1,1),(2,2),(3,3),(4,4),(5,5),(6,6)] [(2,.row)]
  .cases hs;exact jw [hV 136 (ju (P:=prog) (t:=23) p.a1 b.a1)] [hc (el N),hc (cf m),hc (az.imm N)] (k5 _ rfl) [] [(0,0),(1,1),(2,2),(3,3),(4,4),(5,5),(6,6)] [(2,.row)]
  .cases hs;exact jw [hV 136 (ju (P:=prog) (t:=23) p.a2 b.a2)] [hc (el N),hc (cf m),hc (az.imm N)] (k5 _ rfl) [] [(0,0),(1,1),(2,2),(3,3),(4,4),(5,5),(6,6)] [(2,.row)]
  .cases hs;exact jw [hV 136 (ju (P:=prog) (t:=23) p.a3 b.a3)] [hc (el N),hc (cf m),hc (az.imm N)] (k5 _ rfl) [] [(0,0),(1,1),(2,2),(3,3),(4,4),(5,5),(6,6)] [(2,.row)]
  .have e:ZA p b (k+1+1+1+1)=z4:=h2;rw[e];exact yl 11111111111111101 [hr 128 (show decide (((k+1+1+1+1:Nat):Int)<4)=false from C6 aa)] [hc (el N),hc (cf m),hc (az.imm N)] d [] [(0,0),(1,1),(2,2),(3,3),(4,4),(5,5),(6,6)] [(2,.row)]
 refine Ix 11111111111111111111101 (s0 234 fI [(0,.ref 0 0),(3,.ptr (aJ o) 0),(6,.ref 3 0),(19,iG last),(20,bG fol)] [(0,oG cs N.length 2),(1,oM m),(2,zQ N),(3,OG ⟨o,i,RT b p,lev⟩)] 4 3) ?_ λd=>?_;rotate_left
 .refine pN (λs:Int×Bool×Int=>(s0 234 fI [(0,.ref 0 0),(3,.ptr (aJ o) 0),(6,.ref 3 0),(19,iG s.1),(20,bG s.2.1),(157,iG (ah N)),(158,iG s.2.2)] [(0,oG cs N.length 2),(1,oM m),(2,zQ N),(3,OG ⟨o,i,RT b p,lev⟩)] 4 3)) 1111111111111111111110122 h4 [hr 146 h3,tN 152 [3] 7 [(3,OG ⟨o,i,b,lev⟩)] [.ref 3 30,.agg (FSq p)] [(0,OG ⟨o,i,RT b p,lev⟩)] (RE fI ⟨o,i,b,lev⟩ p) ⟨⟨rfl,.inl rfl⟩,trivial⟩ ⟨⟨rfl,.inl rfl⟩,trivial⟩] [hc (el N),hc (cf m),hc (az.imm N)] (λB s w hs k5 j=>?_) [] [(0,0),(1,1),(2,2),(3,3)] [(2,.row)];obtain⟨la,q,k⟩:=s;unfold Z7 at hs;dsimp only at hs;rcases bC hs with⟨c1,hs⟩|⟨c1,hs⟩
  .obtain⟨y,a,hs⟩:=bS hs;obtain⟨n,hn⟩:∃n:Nat,k=(n:Int):=⟨k.toNat,by have:=(He a).1;omega⟩;rcases bC hs with⟨c2,hs⟩|⟨c2,hs⟩
   .obtain⟨hh,f,hs⟩:=bS hs;rw[hn] at f;have f:=TZ ⟨o,i,RT b p,lev⟩ (n:=n) (by have:=(cr (He a).2).1;omega) f;rw[<-hn] at f;cases hh
    .obtain rfl:=Bj hs;exact jw [hr 159 c1,AA 166 (az.ixrZ 2 a),AA 171 (az.fd0Z tZ 0 a),hr 174 c2,hq 178 [.ptr (d7 ⟨o,i,RT b p,lev⟩) 30,iG k] [] f] [hc (el N),hc (cf m),hc (az.imm N)] (k5 _ rfl) [] [(0,0),(1,1),(2,2),(3,3)] [(2,.row)]
    .obtain rfl:=Bj hs;cases q
     .exact jw [hr 159 c1,AA 166 (az.ixrZ 2 a),AA 171 (az.fd0Z tZ 0 a),hr 174 c2,hq 178 [.ptr (d7 ⟨o,i,RT b p,lev⟩) 30,iG k] [] f,AA 185 (az.fd0Z tZ 1 a),AA 193 (az.fd0Z tZ 1 a),hr 197 (rfl:decide (y.o.Seq=wI (o.Seq-1))=decide (y.o.Seq=wI (o.Seq-1)))] [hc (el N),hc (cf m),hc (az.imm N)] (k5 _ rfl) [] [(0,0),(1,1),(2,2),(3,3)] [(2,.row)]
     .exact jw [hr 159 c1,AA 166 (az.ixrZ 2 a),AA 171 (az.fd0Z tZ 0 a),hr 174 c2,hq 178 [.ptr (d7 ⟨o,i,RT b p,lev⟩) 30,iG k] [] f,AA 185 (az.fd0Z tZ 1 a)] [hc (el N),hc (cf m),hc (az.imm N)] (k5 _ rfl) [] [(0,0),(1,1),(2,2),(3,3)] [(2,.row)]
   .obtain rfl:=Bj hs;exact jw [hr 159 c1,AA 166 (az.ixrZ 2 a),AA 171 (az.fd0Z tZ 0 a),hr 174 c2] [hc (el N),hc (cf m),hc (az.imm N)] (k5 _ rfl) [] [(0,0),(1,1),(2,2),(3,3)] [(2,.row)]
  .obtain rfl:=Bj hs;have e:=j _ rfl;simp only[Gq] at e;obtain⟨rfl,rfl⟩:=e;exact yl 11111111111111111111101 [hr 159 c1] [hc (el N),hc (cf m),hc (az.imm N)] d [] [(0,0),(1,1),(2,2),(3,3)] [(2,.row)]
 refine pO 111111111111111111111100 (s0 234 fI [(0,.ref 0 0),(3,.ptr (aJ o) 0),(6,.ref 3 0),(19,iG last),(20,bG fol)] [(0,oG cs N.length 2),(1,oM m),(2,zQ N),(3,OG ⟨o,i,RT b p,lev⟩)] 4 3) [] [hc (el N),hc (cf m),hc (az.imm N)] ?_ [] [(0,0),(1,1),(2,2),(3,3)] [(2,.row)];refine Ix 11111111111111111111110 (s0 234 fI [(0,.ref 0 0),(3,.ptr (aJ o) 0),(6,.ref 3 0)] [(0,oG cs N.length 2),(1,oM m),(2,zQ N),(3,OG ⟨o,i,RT b p,lev⟩)] 4 3) ?_ λd=>?_;rotate_left
 .by_cases hs1:1<o.Seq
  .obtain rfl:=h6 hs1;exact yl 11111111111111111111110 [hr 203 h5,hr 207 (C3 hs1)] [hc (el N),hc (cf m),hc (az.imm N)] d [] [(0,0),(1,1),(2,2),(3,3)] [(2,.row)]
  .exact yl 11111111111111111111110 [hr 203 h5,hr 207 (C6 hs1)] [hc (el N),hc (cf m),hc (az.imm N)] d [] [(0,0),(1,1),(2,2),(3,3)] [(2,.row)]
 exact mt .ret (s0 234 fI [(4,iG 0)] [(0,oG cs (N++[(⟨o,i,RT b p,lev⟩:CY)]).length 3),(1,oM (CW m i N.length)),(3,zQ (N++[⟨o,i,RT b p,lev⟩]))] 4 3) [iG 0] [hmu [1] 4 (aa6 h.fresh N.length),Tn 231 az 392 N ⟨o,i,RT b p,lev⟩ aa] [hc (el (N++[⟨o,i,RT b p,lev⟩])),hc (cf (CW m i N.length)),hc (az.imm (N++[⟨o,i,RT b p,lev⟩]))] (ρ:=rI 3++[(3,5)]) (kd:=[(3,.row)])
end
theorem ZB(l:Mi):∀g∈l.flatMap bv,∃v,g= .lit v:=Gj (λx g hg=>by simp only[bv,EQ,Ll,or_false] at hg;rcases hg with rfl|rfl|rfl|rfl|rfl<;>exact⟨_,rfl⟩) l
theorem W8{cs:Mi}(h:xf cs):jg prog gl 100 [aE bv cs] [] 0 (.ref 0 0) [(0,oG cs 0 2),(1,oM ⟨[],0⟩),(2,zQ [])] 3:=by
 have hcl:Fl cs=some cs:=by unfold Fl aT;rw[Bu (by have:=h.1;simp;omega)];rfl
 refine pP func100 ?_;exact mt .ret (s0 15 gl [(2,.ref 0 0)] [(0,oG cs 0 2),(1,oM ⟨[],0⟩),(2,zQ [])] 3 0) [.ref 0 0] [ho 5 [aE bv cs] [] (tn gl hcl) (ZB _),hz 13 [0] (wS (i:=0) (c:=3) aH (Lh gl h) (aG 20 _ aH) (bT.imm cs) B5 (by rfl) (w5 (zr wZ)))] [hc (bT.al cs),hc (cf ⟨[],0⟩),hc (az.imm [])]
abbrev frG(r:AQ):Fr:=[(1,.ptr (aI r) 0),(3,.ref 0 0)]
structure Abc (r:AQ) (ms:Nat->Jq) (N:Ja):Prop where
 srt:xf r.Cards
 sml:r.L.length<=1000
 len:N.length=r.L.length
 m0:ms 0=⟨[],0⟩
 step:∀(k:Nat) (o:Bp),r.L[k]?=some o->jg prog fI 101 [.ref 0 0,.agg (aJ o)] [(0,oG r.Cards k 2),(1,oM (ms k)),(2,zQ (N.take k))] 3 (iG 0) [(0,oG r.Cards (k+1) 3),(1,oM (ms (k+1))),(3,zQ (N.take (k+1)))] 4
def Ai8(n k:Nat):Option (Nat⊕Unit):=if k<n then some (.inl (k+1))else if k=n then some (.inr ())else none
theorem CX(h:n<=1000):AB (Ai8 n) 0=some ():=T.eq (T.loop (λk=>k<=n) (λk=>n-k) aa aa λk hk=>by
 unfold Ai8;split
 .exact .some ⟨aa,aa⟩
 .rw[Bu aa];exact .some rfl)
theorem ZC{r:AQ}{ms:Nat->Jq}{N:Ja}(h:Abc r ms N):jg prog fI 43 [.agg (aI r)] [] 0 (.ref 0 0) [(0,oG r.Cards r.L.length 2),(1,oM (ms r.L.length)),(2,zQ (N.take r.L.length))] 3:=by
 have hn:=h.sml;refine pP func43 ?_;refine Ix 111101 (s0 26 fI (frG r) [(0,oG r.Cards r.L.length 2),(1,oM (ms r.L.length)),(2,zQ (N.take r.L.length))] 3 0) ?_ λa=>?_
 .exact mt .ret (s0 26 fI [(2,.ref 0 0)] [(0,oG r.Cards r.L.length 2),(1,oM (ms r.L.length)),(2,zQ (N.take r.L.length))] 3 0) [.ref 0 0] [] [hc (rfl:r.L.length=r.L.length),hc (cf (ms r.L.length)),hc (az.imm (N.take r.L.length))]
 have hw:jg prog fI 100 [aE bv r.Cards] [] 0 (.ref 0 0) [(0,oG r.Cards 0 2),(1,oM (ms 0)),(2,zQ [])] 3:=by rw[h.m0];exact W8 fI h.srt
 refine pN (λk:Nat=>(s0 26 fI [(1,.ptr (aI r) 0),(3,.ref 0 0),(4,iG (k:Int))] [(0,oG r.Cards k 2),(1,oM (ms k)),(2,zQ (N.take k))] 3 0)) 11110122 (CX hn) [tN 7 [] 1 [] [aE bv r.Cards] [ob 0 111 [aE bv r.Cards,.mref 2,.rsl 3 0 0],(1,oM (ms 0)),(2,zQ [])] hw trivial ⟨⟨rfl,.inl rfl⟩,⟨rfl,rfl,rfl,rfl,.inr ⟨rfl,cf _⟩⟩,⟨rfl,.inr ⟨rfl,az.imm []⟩⟩,trivial⟩] [hc (eB (gs:=aI r) aH),hc (rfl:0=0),hc (cf (ms 0)),hc (az.imm [])] (λB k v hs k5 b=>?_) [] [(0,1),(1,2),(2,3)] [(2,.row)];unfold Ai8 at hs;split at hs
 .rename_i hk;obtain rfl:=Bj hs;obtain⟨o,ho⟩:∃o,r.L[k]?=some o:=⟨_,DS hk⟩;have hz:aS r.L (k:Int)=some o:=by rw[au];exact ho
  exact jw [hr 14 (show decide ((k:Int)<(r.L.length:Int))=true from C3 aa),AA 21 (eJ.ixZ hz),AA 22 (eJ.ptZ GN hz),tN 23 [0,1,2] 3 [(0,oG r.Cards k 2),(1,oM (ms k)),(2,zQ (N.take k))] [.ref 0 0,.agg (aJ o)] [(0,oG r.Cards (k+1) 3),(1,oM (ms (k+1))),(2,none),(3,zQ (N.take (k+1)))] (h.step k o ho) ⟨⟨rfl,.inl rfl⟩,⟨rfl,rfl,rfl,rfl,.inr ⟨rfl,cf _⟩⟩,⟨rfl,.inr ⟨rfl,az.imm _⟩⟩,trivial⟩ ⟨⟨rfl,.inl rfl⟩,⟨rfl,rfl,rfl,rfl,.inr ⟨rfl,cf _⟩⟩,⟨rfl,.inr ⟨rfl,az.imm _⟩⟩,trivial⟩,hbb 16 (Xl (q:=k) aa)] [hc (rfl:k+1=k+1),hc (cf (ms (k+1))),hc (az.imm (N.take (k+1)))] (k5 _ rfl) [] [(0,0),(1,1),(2,3)] [(2,.row)]
 .rename_i hk;split at hs
  .rename_i he;subst he;obtain rfl:=Bj hs;exact yl 111101 [hr 14 (show decide ((r.L.length:Int)<(r.L.length:Int))=false from C6 aa)] [hc (rfl:r.L.length=r.L.length),hc (cf (ms r.L.length)),hc (az.imm (N.take r.L.length))] a [] [(0,0),(1,1),(2,2)] [(2,.row)]
  .cases hs
end
section
variable {α β ρ:Type}
theorem cL{c:Bool}{a b:α}:(bif c then some a else some b)=some (bif c then a else b):=by cases c<;>rfl
theorem T.bindc{x:Option α}{f:α->Option β}{Q:β->Prop}(h:T x λ_=>True)(k:∀v,x= .some v->T (f v) Q):T (x.bind f) Q:=by obtain⟨v,e,_⟩:=h;exact .bind ⟨v,e,k v e⟩
theorem T.for1{step:Int->Option (Int⊕ρ)}{Q:ρ->Prop}(n:Nat)(J:Fv)(hn:n<2305843009213693952)(h0:J 1)(h:∀k,1<=k->k<n->J k->T (step (k:Int)) (Rd (λs'=>s'=((k+1:Nat):Int)/\J (k+1)) Q))(he:∀k,n<=k->k<=n+1->J k->T (step (k:Int)) (Rd (λ_=>False) Q)):T (AB step 1) Q:=by
 refine T.loop (λs=>∃k:Nat,1<=k/\k<=n+1/\s=(k:Int)/\J k) (λs=>n+1-s.toNat) (by grind) cq ?_;rintro i ⟨k,h1,hk,hik,hj⟩;subst hik;rcases HB k n with hlt|hge
 .refine(h k h1 hlt hj).mono λr hr=>?_;cases r with
  |inl s'=>refine⟨⟨k+1,aa,aa,hr.1,hr.2⟩,?_⟩;rw[hr.1];simp;omega
  |inr r=>exact hr
 .refine(he k hge hk hj).mono λr hr=>?_;cases r with
  |inl s'=>exact hr.elim
  |inr r=>exact hr
theorem T.search{step:Int->Option (Int⊕(Unit⊕ρ))}(l:List α)(p:α->Bool)(g:Nat->α->ρ)(hn:l.length<2305843009213693952)(h:∀(k:Nat) (x:α),l[k]?= .some x->k<l.length->step (k:Int)= .some (bif p x then .inr (.inr (g k x))else .inl ((k+1:Nat):Int)))(he:step (l.length:Int)= .some (.inr (.inl ()))):T (AB step 0) (λr=>(r= .inl ()/\∀x∈l,p x=false)\/∃k x,l[k]?= .some x/\p x=true/\r= .inr (g k x)/\∀(j:Nat) (y:α),j<k->l[j]?= .some y->p y=false):=by
 refine T.forI l.length (λk=>∀(j:Nat) (y:α),j<k->l[j]?= .some y->p y=false) hn (by grind) (λk hk hj=>?_) λhj=>?_
 .have hx:l[k]?= .some (l[k]'hk):=DS hk;rw[h k _ hx hk];refine .some ?_;cases hp:p l[k] with
  |true=>exact .inr ⟨k,_,hx,hp,rfl,hj⟩
  |false=>constructor<;>grind
 .rw[he];refine .some (.inl ⟨rfl,λx hx=>?_⟩);grind [Hd]
end
theorem gT(n a b:Int):fB n a b=some (decide (a<=n/\n<=b)):=by grind [fB]
theorem Cq(n:Nat):AL n=some (decide (n<2305843009213693951)):=by unfold AL;congr 2;grind
def l7(i:Ab):Bool:=decide (1<=i.By/\i.By<=12/\1<=i.Seq/\i.Seq<=2147483647/\i.Sum<2305843009213693951)
def Cr(n:Nat):Bool:=decide (1<=n/\n<2305843009213693951)
theorem mY(i:Ab):iM i=some (l7 i):=by grind [iM,l7,gT,Cq]
theorem kS(n:Nat):Jn n=some (Cr n):=by grind [Jn,Cr]
def yZ(b:Hf):Bool:=Cr b.To&&Cr b.Eph&&decide (b.Body<2305843009213693951)&&decide (b.Tag<2305843009213693951)
theorem Cs{l:List Hf}(hn:l.length<=1000000):T (qw l) λb=>b=l.all yZ:=by
 unfold qw;refine .bind ((T.search l (λb=> !yZ b) (λ_ _=>false) aa (λk x hx hk=>?_) ?_).mono ?_)
 .unfold qv;rw[eA hk,ax,au,hx];simp only[aL,kS,Cq];grind [yZ,aq]
 .unfold qv;rw[eF,A9]
 .rintro r (⟨rfl,h⟩|⟨k,x,hx,hp,rfl,_⟩)
  .refine .some (Eq.symm (GV.2 λx hx=>?_));have:=h x hx;simpa using this
  .refine .some (Eq.symm (Bool.eq_false_iff.2 λh=>?_));have:=GV.1 h x (bO hx);rw[this] at hp;cases hp
theorem Ip{p:α->Bool}{step:Int->Option (Int⊕(Unit⊕Bool))}{next:Unit->Fo}{rest:Bool}(l:List α)(hl:l.length<=1000000)(h:∀(k:Nat) (x:α),l[k]?=some x->x∈l->k<l.length->step (k:Int)=some (bif p x then .inl ((k+1:Nat):Int)else .inr (.inr false)))(he:step (l.length:Int)=some (.inr (.inl ())))(hn:T (next ()) λb=>b=rest):T ((AB step 0).bind λx=>ma x next (λq=>some q)) λb=>b=(l.all p&&rest):=by
 refine .bind ((T.search l (λx=> !p x) (λ_ _=>false) aa (λk x hx hk=>?_) he).mono ?_)
 .grind
 .rintro r (⟨rfl,hr⟩|⟨k,x,hx,hp,rfl,_⟩)
  .have:l.all p=true:=by grind
   rw[this,Bool.true_and];exact hn
  .have:l.all p=false:=by grind
   rw[this,Bool.false_and];exact .some rfl
theorem Mq{p:α->Bool}{step:Int->Option (Int⊕(Unit⊕Bool))}{next:Unit->Fo}{rest:Bool}(l:List α)(hl:l.length<=1000000)(h:∀(k:Nat) (x:α),l[k]?=some x->x∈l->k<l.length->step (k:Int)=some (bif p x then .inr (.inr true)else .inl ((k+1:Nat):Int)))(he:step (l.length:Int)=some (.inr (.inl ())))(hn:T (next ()) λb=>b=rest):T ((AB step 0).bind λx=>ma x next (λq=>some q)) λb=>b=(l.any p||rest):=by
 refine .bind ((T.search l p (λ_ _=>true) aa (λk x hx hk=>?_) he).mono ?_)
 .grind
 .rintro r (⟨rfl,hr⟩|⟨k,x,hx,hp,rfl,_⟩)
  .have:l.any p=false:=by grind
   rw[this,Bool.false_or];exact hn
  .have:l.any p=true:=by grind
   rw[this,Bool.true_or];exact .some rfl
def yb(o:Bp):Bool:=o.Guards.all (λz=>decide (1<=z/\z<=12))&&(o.Refs.all (λn=>decide (n<2305843009213693951))&&(o.Past.all l7&&(o.Path.all (λn=>Cr n.Pub&&n.Boxes.all yZ)&&(o.Hist.all (λx=>l7 x.Of)&&o.Boxes.all yZ))))
theorem KA{o:Bp}(h:Bg o):T (vw o) λb=>b=yb o:=by
 have n1:=h.nPast;have n2:=h.nPath;have a:=h.nRefs;have c:=h.nGuards;have d:=h.nHist;have f:=h.nBoxes;unfold vw yb;refine Ip o.Guards aa (λk x hx hm hk=>?_) (by unfold qB;rw[eF,A9]) (Ip o.Refs aa (λk x hx hm hk=>?_) (by unfold qA;rw[eF,A9]) (Ip o.Past aa (λk x hx hm hk=>?_) (by unfold qz;rw[eF,A9]) (Ip o.Path aa (λk x hx hm hk=>?_) (by unfold qy;rw[eF,A9]) (Ip o.Hist aa (λk x hx hm hk=>?_) (by unfold qx;rw[eF,A9]) (by grind [Cs])))))
 .grind [qB,eA,au,aq,gT]
 .grind [qA,eA,au,aq,Cq]
 .grind [qz,eA,au,aq,mY]
 .have e:=(Cs (l:=x.Boxes) (by have:=(h.path x hm).n;omega)).eq;unfold qy;grind [eA,au,aq,kS]
 grind [qx,eA,au,aq,mY]
def Ct(o:Bp):Bool:=o.Path.any (λn=>decide (12<n.Boxes.length))||(o.Hist.any (λn=>decide (208<n.Body.length))||(decide (12<o.Past.length\/5<o.Path.length\/208<o.Body.length\/8<o.Refs.length\/20<o.Hist.length\/6<o.Guards.length)||(if o.Kind=7 then !decide (1<=o.Body.length/\o.Body.length<=20)else if o.Kind=9 then decide (o.Boxes.length≠o.Guards.length)else if o.Kind=10 then !decide (1<=o.Boxes.length/\o.Boxes.length<=6)else if o.Kind=11 then decide (o.Boxes.length≠1)else false)))
theorem Iq(l:List α)(n:Nat):decide ((n:Int)<ah l)=decide (n<l.length):=decide_eq_decide.2 (by unfold ah;omega)
theorem NZ{o:Bp}(h:Bg o):T (z6 o) λb=>b=Ct o:=by
 have n1:=h.nPast;have n2:=h.nPath;have a:=h.nHist;unfold z6 Ct;refine Mq o.Path aa (λk x hx hm hk=>?_) (by unfold tV;rw[eF,A9]) (Mq o.Hist aa (λk x hx hm hk=>?_) (by unfold tU;rw[eF,A9]) ?_)
 .grind [tV,au,aq,ah]
 .grind [tU,au,aq,ah]
 .have a1:decide ((12:Int)<ah o.Past)=decide (12<o.Past.length):=Iq o.Past 12;have a2:decide ((5:Int)<ah o.Path)=decide (5<o.Path.length):=Iq o.Path 5;have a3:decide ((208:Int)<ah o.Body)=decide (208<o.Body.length):=Iq o.Body 208;have a4:decide ((8:Int)<ah o.Refs)=decide (8<o.Refs.length):=Iq o.Refs 8;have a5:decide ((20:Int)<ah o.Hist)=decide (20<o.Hist.length):=Iq o.Hist 20;have a6:decide ((6:Int)<ah o.Guards)=decide (6<o.Guards.length):=Iq o.Guards 6;have b1:decide ((1:Int)<=ah o.Body/\ah o.Body<=20)=decide (1<=o.Body.length/\o.Body.length<=20):=decide_eq_decide.2 (by unfold ah;omega);have b2:decide ((1:Int)<=ah o.Boxes/\ah o.Boxes<=6)=decide (1<=o.Boxes.length/\o.Boxes.length<=6):=decide_eq_decide.2 (by unfold ah;omega);have b3:decide (ah o.Boxes≠ah o.Guards)=decide (o.Boxes.length≠o.Guards.length):=decide_eq_decide.2 (by unfold ah;omega);have b4:decide (ah o.Boxes≠1)=decide (o.Boxes.length≠1):=decide_eq_decide.2 (by unfold ah;omega);rw[a1,a2,a3,a4,a5,a6];simp only[gT,aL,b1,b2,b3,b4,cL];refine⟨_,rfl,?_⟩;grind
def AcT(o:Bp):Bool:=(mz o).getD false
theorem Cu(o:Bp):mz o=some (AcT o):=by
 have:T (mz o) λ_=>True:=by unfold mz;repeat'(first|exact T.some trivial|(refine T.bindc ?_ λv _=>?_)|(refine T.ite (λ_=>?_) λ_=>?_))
 obtain⟨b,e,_⟩:=this;unfold AcT;rw[e];rfl
def gU(o:Bp):Bool:=(Gf o).getD false
theorem jF(o:Bp):Gf o=some (gU o):=by
 have:T (Gf o) λ_=>True:=by unfold Gf;simp only[gT,mY,kS];repeat'(first|exact T.some trivial|(refine T.bindc ?_ λv _=>?_)|(refine T.ite (λ_=>?_) λ_=>?_))
 obtain⟨b,e,_⟩:=this;unfold gU;rw[e];rfl
def dt(a b:Ab):Bool:=if a.By≠b.By then decide (a.By<b.By)else if a.Seq≠b.Seq then decide (a.Seq<b.Seq)else decide (a.Sum<b.Sum)
theorem pJ(a b:Ab):oU a b=some (dt a b):=by unfold oU dt;rw[show decide ((a.Sum:Int)<(b.Sum:Int))=decide (a.Sum<b.Sum) from decide_eq_decide.2 aa];grind
structure Fp (o:Bp):Prop where
 kind:1<=o.Kind/\o.Kind<=13
 bare:AcT o=true
 numbers:gU o=true
 items:yb o=true
 long:Ct o=false
 past:∀(k:Nat) (a b:Ab),o.Past[k]?=some a->o.Past[k+1]?=some b->dt a b=true
 guards:∀(k:Nat) (a b:Int),o.Guards[k]?=some a->o.Guards[k+1]?=some b->a<b
 create:o.Past=[]↔o.Kind=1
theorem F7(h:1<=k)(h2:k<2305843009213693952):wI ((k:Int)-1)=((k-1:Nat):Int):=by grind [bM]
theorem Cv{o:Bp}(h:Bg o):T (qE o) λe=>e=0->Fp o:=by
 have n1:=h.nPast;have f:=h.nGuards;unfold qE;rw[cL,aL];refine .ite (by grind [T.some]) λhk=>?_;rw[Cu,aL];refine .ite (by grind [T.some]) λhb=>?_;rw[jF,aL];refine .then (v:= !(gU o)|| !(yb o)) ?_ ?_
 .cases hn:gU o with
  |false=>exact .some rfl
  |true=>exact .then (KA h) (.some aC)
 refine .ite (by grind [T.some]) λhn=>?_;refine .then (NZ h) (.ite (by grind [T.some]) λhl=>?_);refine .bind (T.for1 o.Past.length (λk=>∀(j:Nat) (a b:Ab),j+1<k->o.Past[j]?=some a->o.Past[j+1]?=some b->dt a b=true) aa (by grind) (λk h1 hk hj=>?_) λk hge _ hj=>?_)
 .obtain⟨a0,e0⟩:∃a0,o.Past[k-1]?=some a0:=⟨_,DS aa⟩;obtain⟨a1,e1⟩:∃a1,o.Past[k]?=some a1:=⟨_,DS hk⟩;unfold qD;rw[eA hk,ax,F7 h1 aa,au,au,e0,e1,aq aa];simp only[aL,pJ];refine .ite (λ_=> .some (.some (by grind))) λc=> .some ⟨rfl,λj a b d ha hb'=>?_⟩;grind
 unfold qD;rw[show decide ((k:Int)<ah o.Past)=false from C6 (by unfold ah;omega),A9];refine .some ?_;have hpast:∀(j:Nat) (a b:Ab),o.Past[j]?=some a->o.Past[j+1]?=some b->dt a b=true:=by grind
 clear hj;refine .bind (T.for1 o.Guards.length (λk=>∀(j:Nat) (a b:Int),j+1<k->o.Guards[j]?=some a->o.Guards[j+1]?=some b->a<b) aa (by grind) (λk h1 hk hj=>?_) λk hge _ hj=>?_)
 .obtain⟨a0,e0⟩:∃a0,o.Guards[k-1]?=some a0:=⟨_,DS aa⟩;obtain⟨a1,e1⟩:∃a1,o.Guards[k]?=some a1:=⟨_,DS hk⟩;unfold qC;rw[eA hk,ax,F7 h1 aa,au,au,e0,e1,aq aa];simp only[aL];refine .dec (λ_=> .some (.some (by grind))) λc=> .some ⟨rfl,λj a b d ha hb'=>?_⟩;grind
 unfold qC;rw[show decide ((k:Int)<ah o.Guards)=false from C6 (by unfold ah;omega),A9];refine .some ?_;have hguards:∀(j:Nat) (a b:Int),o.Guards[j]?=some a->o.Guards[j+1]?=some b->a<b:=λj a b ha hb'=>hj j a b (by grind) ha hb';rw[cL,cL,cL,aL];refine .ite (by grind [T.some]) λhc=> .some λ_=>⟨?_,?_,?_,?_,hl,hpast,hguards,?_⟩
 .grind
 .simpa using hb
 .grind
 .grind
 .have e:ah o.Past=0↔o.Past=[]:=by unfold ah;simp_all
  grind
theorem uW{x:Option α}{Q:α->Prop}(h:T x Q):T x λ_=>True:=h.mono (by grind)
theorem KB{p:Nat}{b:CO}{s:XU}(hp:fS p)(hS:fS s.S)(hb:b.length<=1073741824):T (jJ p b s) λ_=>True:=by
 unfold jJ;have e:fV=some 2305843009213693950:=rfl;simp only[e,aL];refine .bindc ?_ λj _=>?_
 .grind [T.some]
 .refine .ite (λ_=> .some trivial) λ_=>?_;refine .bind ((ka _ hS).mono (by grind [T.bind,T.mono,QE,ka,wL,T.some]))
section
variable {K:Type} [DecidableEq K]
theorem gb{k:K}:∀{l:List K} {n:Nat},bu k l=some n->l[n]?=some k/\∀j,j<n->l[j]?≠some k
 |[],n,h=>by cases h
 |x::r,n,h=>by
  unfold bu at h;split at h
  .grind
  .rename_i e;rw[DL] at h;obtain⟨a,h',rfl⟩:=h;obtain⟨h1,h2⟩:=gb h';grind
theorem jv{k:K}:∀{l:List K},bu k l=none↔k∉l
 |[]=>by simp[bu]
 |x::r=>by
  unfold bu;by_cases h:k=x
  .simp[h]
  .simp[h,jv (l:=r)]
theorem y0{k:K}{l:List K}(h:l[n]?=some k)(h2:∀j,j<n->l[j]?≠some k):bu k l=some n:=by
 cases hk:bu k l with
 |none=>grind [jv]
 |some m=>obtain⟨h3,h4⟩:=gb hk;grind
end
def gO(g:AQ)(id:Ab):Int:=match bu id g.IDs with
 |none=> -1
 |some k=>(k:Int)
theorem dC{g:AQ}(hn:g.IDs.length<=1000000)(id:Ab):fC g id=some (gO g id):=by
 unfold fC;refine T.eq (.bind ((T.search g.IDs (λx=>decide (x=id)) (λk _=>(k:Int)) aa (λk x hx hk=>?_) ?_).mono ?_))
 .grind [qF,eA,au,aq]
 .grind [qF,eF]
 .rintro r (⟨rfl,h⟩|⟨k,x,hx,hp,rfl,h⟩)
  .have:bu id g.IDs=none:=by grind [jv]
   refine .some ?_;grind [gO]
  .have hp:=DR hp;subst hp;have:bu x g.IDs=some k:=by grind [y0]
   refine .some ?_;grind [gO]
def UW:DQ:=⟨0,0,0,0,0⟩
def mZ(g:AQ)(d:Int):DQ×Bool:=match g.Cards.find? (λc=>decide (c.Device=d)) with
 |none=>(UW,false)
 |some c=>(c,true)
theorem Cw{g:AQ}(hn:g.Cards.length<=1000000)(d:Int):vz g d=some (mZ g d):=by
 unfold vz;refine T.eq (.bind (T.forA g.Cards.length (λk acc=>acc=UW/\∀(j:Nat) (c:DQ),j<k->g.Cards[j]?=some c->c.Device≠d) aa ⟨rfl,(by grind)⟩ (λk acc hk hj=>?_) λacc hj=>?_))
 .obtain⟨c,hc⟩:∃c,g.Cards[k]?=some c:=⟨_,DS hk⟩;unfold tX;dsimp only;rw[eA hk,ax,au,hc,aL];refine .dec (λh=>?_) λh=> .some ⟨aq aa,hj.1,λj c' a b=>?_⟩
  .refine .some (.some ?_);grind [mZ,List.find?_eq_some_iff_getElem]
  grind
 .unfold tX;dsimp only;rw[eF,A9];refine .some (.some ?_);unfold mZ;have:g.Cards.find? (λc=>decide (c.Device=d))=none:=by grind [Hd]
  rw[this];rfl
def QF(l:Bb)(n:Int):Bool:=l.any λx=>decide (x=n)
theorem cX{l:Bb}(hn:l.length<=1000000)(n:Int):fb l n=some (QF l n):=by unfold fb QF;refine T.eq ((Mq l hn (rest:=false) (next:=λ_=>some false) (λk x hx hm hk=>?_) ?_ (.some rfl)).mono λv hv=>by simpa using hv);all_goals grind [xq,eA,au,aq,eF]
def nA(l:Ba)(n:Ab):Bool:=l.any λx=>decide (x=n)
theorem kf(hn:l.length<=1000000)(n:Ab):jL l n=some (nA l n):=by unfold jL nA;refine T.eq ((Mq l hn (rest:=false) (next:=λ_=>some false) (λk x hx hm hk=>?_) ?_ (.some rfl)).mono λv hv=>by simpa using hv);all_goals grind [qJ,eA,au,aq,eF]
def Rh(g:AQ)(i k:Nat):Bool:=((g.In[i]?).bind λr=>r[k]?).getD false
structure Fs (g:AQ):Prop where
 nL:g.L.length<=200
 nI:g.IDs.length=g.L.length
 nU:g.Up.length=g.L.length
 nN:g.In.length=g.L.length
 nC:g.Cards.length<=1000
 cards:∀c∈g.Cards,c8 c.Device/\c8 c.Member/\fS c.Sign
 up:∀(i:Nat) (u:Bb),g.Up[i]?=some u->u.length<=12/\∀x∈u,0<=x/\x<(i:Int)
 rows:∀(i:Nat) (r:List Bool),g.In[i]?=some r->r.length=g.L.length
 inlt:∀i k,Rh g i k=true->k<i/\i<g.L.length
 ops:∀(i:Nat) (o:Bp),g.L[i]?=some o->Bg o/\Fp o/\fS o.Sig.S
 ids:∀(i:Nat) (o:Bp) (id:Ab),g.L[i]?=some o->g.IDs[i]?=some id->pV o=some id
 nd:g.IDs.Nodup
 one:∀(i k:Nat) (u:Bb),g.Up[i]?=some u->(k:Int)∈u->Rh g i k=true
 tr:∀(i j k:Nat) (u:Bb),Rh g i j=true->g.Up[j]?=some u->(k:Int)∈u->Rh g i k=true
 la:∀(i k:Nat),Rh g i k=true->∃u,g.Up[i]?=some u/\((k:Int)∈u\/∃j v,Rh g i j=true/\g.Up[j]?=some v/\(k:Int)∈v)
def HR(g:AQ)(up:Bb)(k:Nat):Prop:=(k:Int)∈up\/∃j:Nat,(j:Int)∈up/\Rh g j k=true
theorem yc{g:AQ}(w:Fs g){up:Bb}(h1:up.length<=1000)(h2:∀x∈up,0<=x/\x<(g.L.length:Int)):T (jA g up) λr=>r.length=g.L.length/\∀k,k<g.L.length->(r[k]?=some true↔HR g up k):=by
 have nL:=w.nL;unfold jA;refine .bind (.make (by unfold ah;omega) (by unfold ah;omega) (by unfold ah;omega) ?_);have e0:wI (ah g.L-1)=(g.L.length:Int)-1:=bM (by unfold ah;omega) (by unfold ah;omega);rw[e0];have e1:(ah g.L).toNat=g.L.length:=by unfold ah;omega
 rw[e1];refine .bind (T.loop (λs=> -1<=s.2/\s.2<g.L.length/\s.1.length=g.L.length/\(∀k:Nat,k<g.L.length->s.2<k->(s.1[k]?=some true↔HR g up k))/\∀k:Nat,(k:Int)<=s.2->(s.1[k]?=some true↔∃j v,s.2<(j:Nat)/\HR g up j/\j<g.L.length/\g.Up[j]?=some v/\(k:Int)∈v)) (λs=>(s.2+1).toNat) ⟨by simp only;omega,by simp only;omega,aC,λk hk hi=>by simp only at hi;omega,λk hk=>?_⟩ (by grind) ?_)
 .simp only at hk⊢;constructor
  .intro h;rw[List.getElem?_replicate] at h;split at h<;>cases h
  .rintro⟨j,v,hj,_,hjl,_⟩;omega
 rintro⟨r,i⟩ ⟨p,i1,f,l,a⟩;simp only at p i1 f l a;unfold AJ;dsimp only;refine .dec (λhi=>?_) λhi=> .some (.some ⟨f,λk hk=>l k hk aa⟩);obtain⟨n,rfl⟩:∃n:Nat,i=(n:Int):=⟨i.toNat,aa⟩;have hn:n<g.L.length:=aa;rw[cX aa,aL];have hUp:∃u,g.Up[n]?=some u:=⟨_,DS (by rw[w.nU];exact hn)⟩;obtain⟨u,hu⟩:=hUp;obtain⟨u1,o⟩:=w.up n u hu;have hbeh:∀k,HR g up k↔((k:Int)∈up\/∃j v,HR g up j/\g.Up[j]?=some v/\(k:Int)∈v):=λk=>by
  constructor
  .rintro(h|⟨j,hj,c⟩)
   .exact .inl h
   .obtain⟨v,hv,hk|⟨m,v',h3,h4,h5⟩⟩:=w.la j k c
    .exact .inr ⟨j,v,.inl hj,hv,hk⟩
    .exact .inr ⟨m,v',.inr ⟨j,hj,h3⟩,h4,h5⟩
  .rintro(h|⟨j,v,hj|⟨m,hm,d⟩,hv,hk⟩)
   .exact .inl h
   .exact .inr ⟨j,hj,w.one j k v hv hk⟩
   .exact .inr ⟨m,hm,w.tr m j k v d hv hk⟩
 have hlt:∀(j:Nat) (v:Bb) (k:Nat),g.Up[j]?=some v->(k:Int)∈v->k<j:=λj v k hv hk=>by have:=(w.up j v hv).2 _ hk;omega
 refine .bind (T.mono (Q:=λs=>s.length=g.L.length/\(∀k:Nat,k≠n->s[k]?=r[k]?)/\(s[n]?=some true↔HR g up n)) ?_ ?_)
 .have key:(r[n]?=some true\/(n:Int)∈up)↔HR g up n:=by grind [Fs.nU]
  refine .ite (λhh=>?_) λhh=>?_
  .have hm:(n:Int)∈up:=by obtain⟨x,hx,hb⟩:=List.any_eq_true.1 hh;grind
   grind [T.set,FF]
  grind [QF,T.some]
 .rintro s ⟨s1,s2,s3⟩;obtain⟨b,hb⟩:∃b,s[n]?=some b:=⟨_,DS aa⟩;rw[au,hb,aL];have ew:wI ((n:Int)-1)=(n:Int)-1:=bM aa aa;refine .ite (λhbt=>?_) λhbf=>?_
  .have hbt:b=true:=hbt;subst hbt;have hbn:=s3.1 hb;refine .bind (T.mono (Q:=λt=>t.length=g.L.length/\∀k:Nat,t[k]?=some true↔(s[k]?=some true\/(k:Int)∈u)) (T.forA u.length (λm t=>t.length=g.L.length/\∀k:Nat,t[k]?=some true↔(s[k]?=some true\/∃j,j<m/\u[j]?=some (k:Int))) aa ⟨s1,λk=>aC⟩ (λm t hm hj=>?_) λt hj=>?_) ?_)
   .obtain⟨x,hx⟩:∃x,u[m]?=some x:=⟨_,DS hm⟩;have e:=o x (bO hx);unfold tT;dsimp only;rw[au,hu,aL,eA hm,ax,aL,au,hx,aL];refine .bind (.set e.1 (by grind) (.some ⟨aq aa,by grind,λk=>?_⟩));obtain⟨y,rfl⟩:∃y:Nat,x=(y:Int):=⟨x.toNat,aa⟩;simp only[FF];by_cases hk:k=y
    .grind
    .rw[List.getElem?_set_ne (Ne.symm hk),hj.2 k];grind
   .unfold tT;dsimp only;rw[au,hu,aL,eF,A9];refine .some ⟨hj.1,λk=>?_⟩;rw[hj.2 k];constructor
    .grind
    .rintro(h|h)
     .exact .inl h
     .obtain⟨j,hj'⟩:=Hd h;grind
   .rintro t ⟨q,t2⟩;refine .some ⟨⟨?_,?_,q,λk hk hik=>?_,λk hk=>?_⟩,?_⟩
    .grind
    .grind
    .replace hik:wI ((n:Int)-1)<k:=hik;rw[ew] at hik;show t[k]?=some true↔_;rw[t2 k];have hku:(k:Int)∉u:=λh=>by have:=o _ h;omega
     rcases Nat.lt_trichotomy k n with h|rfl|h
     all_goals grind
    .replace hk:(k:Int)<=wI ((n:Int)-1):=hk;rw[ew] at hk;show t[k]?=some true↔∃j v,wI ((n:Int)-1)<(j:Nat)/\_;rw[ew,t2 k,s2 k aa,a k aa];grind
    .show(wI ((n:Int)-1)+1).toNat<_;rw[ew];omega
  .have hbf:b=false:=hbf;subst hbf;have hbn:¬HR g up n:=λh=>by have:=s3.2 h;rw[hb] at this;cases this
   refine .some ⟨⟨?_,?_,s1,λk hk hik=>?_,λk hk=>?_⟩,?_⟩
   .grind
   .grind
   .grind
   .replace hk:(k:Int)<=wI ((n:Int)-1):=hk;rw[ew] at hk;show s[k]?=some true↔∃j v,wI ((n:Int)-1)<(j:Nat)/\_;rw[ew,s2 k aa,a k aa];grind
   .show(wI ((n:Int)-1)+1).toNat<_;rw[ew];omega
end Go.Proofs.YtghphhhpagagbaaGreatDoor
