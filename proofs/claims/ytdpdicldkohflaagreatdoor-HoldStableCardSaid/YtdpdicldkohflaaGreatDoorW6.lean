/- Texts. -/
import Derived.Test.YtdpdicldkohflaaGreatDoorJ4
namespace Go.Proofs.YtdpdicldkohflaaGreatDoor
set_option linter.unusedSectionVars false
set_option linter.unusedVariables false
set_option linter.unusedSimpArgs false
open Go.RowKit Tryz
attribute [local irreducible] Tr dz Gp
variable (gl:CB)
variable {α:Type}{a:Code}{gg:Az}{N:IX}{j k n:Nat}{l r srt:List Aj}{I:Gi}{ids row v:Bb}{id x y:Ab}{D:Dx}{R:Ad}{o:Bq}{g:Ba}{ss:LQ}{d:Int}{ex:Exit}{fr:Fr}{ps:Array Tmp}
section
section
variable {P:Bu}
section
variable {ops:Array Oper} {K:St->Prop} {ty:Bk} {pos:String} {af:Array Edge} {rest:Hv} {n:Nat} {gl:CB} {fr:Fr} {σ:aQ} {c p d j:Nat} {bars:Br} {rr:Bool}
theorem AlI{op:Op}{gq:Option (Nat×Bool)}(hw:ce ⟨n,gl,fr,σ,c,p,rr⟩ ops ⟨some d,op,ty,pos,af,gq⟩=some false)(hd:d<n)(h:D8 P ops K rest ⟨n,gl,(d,.lit undef)::fr,σ,c,p,rr⟩):D8 P ops K (⟨some d,op,ty,pos,af,gq⟩::rest) ⟨n,gl,fr,σ,c,p,rr⟩:=by unfold D8;exact .inr ⟨hw,(by grind),h⟩
end
end
section
variable {P:Bu} {ops:Array Oper} {K:St->Prop} {op:Op} {ty:Bk} {pos:String} {af:Array Edge} {rest:Hv} {n:Nat} {gl:CB} {fr:Fr} {σ:aQ} {c p d j:Nat} {bars:Br} {rr:Bool} {gq:Option (Nat×Bool)}
theorem zn(h:D8 P ops K rest ⟨n,gl,(d,.lit undef)::fr,σ,c,p,rr⟩)(hw:ce ⟨n,gl,fr,σ,c,p,rr⟩ ops ⟨some d,op,ty,pos,af,gq⟩=some false:=by kernel_rfl)(hd:d<n:=by decide):D8 P ops K (⟨some d,op,ty,pos,af,gq⟩::rest) ⟨n,gl,fr,σ,c,p,rr⟩:=AlI hw hd h
end
end
theorem AnQ:bw prog 65=some 27:=aH
theorem Ajw(l:Mj):∀g∈l.flatMap bv,∃v,g= .lit v:=by grind [bv]
section
def HD(g:Az)(a:Ab):Option (Bq×Bool):=
 bif(!((g.at_.get a).isSome))then(some (⟨0,0,0,0,[],0,0,0,0,[],⟨0,0,0⟩,0,[],[],⟨0,0,0⟩,[],0,0,[],0,[],⟨0,0⟩⟩,false))else((aS g.nodes (FR (g.at_.get a))).bind λb=>(pG b.o).bind λe=>some (e,true))
theorem Nu{g id_}:DG prog gl (HD g id_) 59 [.ptr (Ag g) 0,.agg (aj id_)] (λr=> .tup [.agg (aJ r.1),bG r.2]):=
 cy func59 λK=>aw [hm 14 (H7 g.at_ id_)]<|aF 18 (rv K)<|CC 25 az.ixZ 27 (az.fsZ GN AnQ 0 Cd) λa=>BG 28 (Ds gl) λb=>rv K
def JU(g:Az):Option Mj:=
 (Fk g.cards).bind λv1=>some v1
theorem Rh{g}:M1 prog gl (JU g) 105 [.ptr (Ag g) 0] 145 bv:=
 gc func105 λK=>ak λv1 e2=>aw [ho 7 [aE bv g.cards] [] (tn gl e2) (Ajw v1)]<|mr c0 K (bT.imm _)
end
theorem sP(a:Ab):dt a a=false:=by grind [ye]
theorem AdY{a b:Ab}(h1:dt a b=false)(h2:dt b a=false):a=b:=by
 have n1:¬dt a b=true:=by rw[h1];simp
 have n2:¬dt b a=true:=by rw[h2];simp
 rw[ye] at n1 n2;obtain⟨a1,a2,a3⟩:=a;obtain⟨b1,b2,b3⟩:=b;grind
theorem Afl(hn:gg.cards.length<=1000)(d:Int):hY gg d=some (((gg.cards.find? λc=>decide (c.Device=d)).getD XP),(gg.cards.find? λc=>decide (c.Device=d)).isSome):=by
 unfold hY;refine T.eq (.bind (T.forA gg.cards.length (λk acc=>∀(j:Nat) (c:DQ),j<k->gg.cards[j]?=some c->c.Device≠d) aa (by grind) (λk acc hk hj=>?_) λacc hj=>?_))
 .obtain⟨x,hx⟩:∃x,gg.cards[k]?=some x:=⟨_,EA hk⟩;unfold ij;dsimp only;rw[eA hk,ax,au,hx,aL];refine .dec (λe=> .some (.some ?_)) λe=> .some ⟨aq aa,λj c' a b=>?_⟩
  .grind [List.find?_eq_some_iff_getElem]
  grind
 .unfold ij;dsimp only;rw[eF,Be];have hf:gg.cards.find? (λc=>decide (c.Device=d))=none:=by grind [GL]
  rw[hf];exact .some (.some rfl)
theorem Ahk{i:Int}{x:Dd}(hx:aS N i=some x)(hn:n<256){r:Bool}(h:iX x.past (n:Int)=some r):ba prog fI 68 [.ptr (N.flatMap d7) (i.toNat*35+30),iG (n:Int)] (bG r):=by
 have hm:u9 (n:Int) 64=some ((n%64:Nat):Int):=by grind [u9]
 have hcn:wJ ((n%64:Nat):Int)=some (n%64):=by grind [wJ]
 have hq:∀q:Nat,n/64=q->Gg (n:Int) 64=some (q:Int):=by grind [Gg,Mx]
 have hd:wI (Int.tdiv (n:Int) 64)=((n/64:Nat):Int):=by grind [bM]
 have ht:Int.tmod (n:Int) 64=((n%64:Nat):Int):=by rw[Int.tmod_eq_emod_of_nonneg aa];rfl
 unfold iX at h;rw[hd,ht,hcn] at h;refine Gh func68 ?_;have h4:n/64=0\/n/64=1\/n/64=2\/n/64=3:=aa;rcases h4 with e|e|e|e
 .rw[e] at h;obtain rfl:=Bo h;exact Ar [hbb 7 (Tt (hq 0 e)),AH 10 (az.fdZ tW 30 hx),hbb 12 (KO hm),hV 13 (Am (P:=prog) (t:=23) x.past.a0 hcn),hV 14 (ju (P:=prog) (t:=23) (Jq x.past.a0 (n%64)) 1)] []
 .rw[e] at h;obtain rfl:=Bo h;exact Ar [hbb 7 (Tt (hq 1 e)),AH 10 (az.fdZ tW 31 hx),hbb 12 (KO hm),hV 13 (Am (P:=prog) (t:=23) x.past.a1 hcn),hV 14 (ju (P:=prog) (t:=23) (Jq x.past.a1 (n%64)) 1)] []
 .rw[e] at h;obtain rfl:=Bo h;exact Ar [hbb 7 (Tt (hq 2 e)),AH 10 (az.fdZ tW 32 hx),hbb 12 (KO hm),hV 13 (Am (P:=prog) (t:=23) x.past.a2 hcn),hV 14 (ju (P:=prog) (t:=23) (Jq x.past.a2 (n%64)) 1)] []
 .rw[e] at h;obtain rfl:=Bo h;exact Ar [hbb 7 (Tt (hq 3 e)),AH 10 (az.fdZ tW 33 hx),hbb 12 (KO hm),hV 13 (Am (P:=prog) (t:=23) x.past.a3 hcn),hV 14 (ju (P:=prog) (t:=23) (Jq x.past.a3 (n%64)) 1)] []
theorem WY(h:Uq gg):Nk fI gg (RG gg) where
 op x:=by
  cases e:gg.at_.get x with
  |none=>
   have hr:HD gg x=some ((RG gg).o x,((RG gg).op x).isSome):=by grind [HD,Gi.o,RG,XT]
   exact Nu fI hr
  |some n=>
   obtain⟨k,y,rfl,hz,hn,hk,hm⟩:=Ur h e;have hr:HD gg x=some ((RG gg).o x,((RG gg).op x).isSome):=by grind [HD,Gi.o,RG,FR,Option.isSome_some,Uq.cl]
   exact Nu fI hr
 bef x y:=by
  refine Gh func21 ?_;refine pO [1,0] (s0 44 fI [(0,.ptr (Ag gg) 0),(4,.ref 0 0),(5,.ref 1 0)] [(0,O7 x),(1,O7 y)] 2 0) [] [] ?_ [] [(0,0),(1,1)];show Gp _ _ (tH _ _ (bG (Agb gg x y))) _ _ _ _;unfold Agb;have h1:=H7 gg.at_ x;have h2:=H7 gg.at_ y;unfold FR at h1 h2;cases e1:gg.at_.get x with
  |none=>rw[e1] at h1;exact Ar [hm 17 h1,hm 26 h2] []
  |some n=>
   rw[e1] at h1;cases e2:gg.at_.get y with
   |none=>rw[e2] at h2;rw[XT e2];exact Ar [hm 17 h1,hm 26 h2] []
   |some q=>rw[e2] at h2;obtain⟨k,b,rfl,hz,hn,hk,hmm⟩:=Ur h e2;obtain⟨j,a,rfl,_,_,hj,_⟩:=Ur h e1;rw[hn];exact Ar [hm 17 h1,hm 26 h2,AH 39 (az.ixZ hz),hf 42 (Ahk hz hj (Xa hj))] []
 lev x:=by
  refine Hw fI ?_;unfold Fi FR;cases e:gg.at_.get x with
  |none=>show _=some (match MT gg x with|some y=>y.level|none=>0);rw[XT e];rfl
  |some n=>obtain⟨k,y,rfl,hz,hn,hk,hm⟩:=Ur h e;show _=some (match MT gg x with|some y=>y.level|none=>0);grind
 cards:=by
  have hr:JU gg=some gg.cards:=by grind [JU,Fk,aT,Uq.nc]
  exact(Rh fI hr).fn aH (bT.len _) (bT.imm _)
 card d:=uN fI (Afl h.nc d)
section
section
variable {g:Ba} {m:I1} {N:IX}
theorem UB(w:GR g)(p:Oo g m N):Uq ⟨g.Cards,m,N⟩ where
 pos x n e:=by have e:m.get x=some n:=e;rw[p.get] at e;cases hk:bu x g.IDs<;>grind [AbD]
 cl y hy:=by grind [Oo,GL,RM,GR.ops]
 nc:=w.nC
end
end
section
theorem AdZ(a:Ab):¬Gu a a<0:=by grind [Q6,sP]
theorem W6{a b:Ab}:Ow I a b<0↔I.lev a<I.lev b\/(I.lev a=I.lev b/\dt a b=true):=by grind [Ow,Q6,AbE]
theorem SN(a:Ab):¬Ow I a a<0:=by grind [W6,sP]
theorem Xf(I:Gi):OrN (Ow I) λ_=>True:=by grind [OrN,W6,dt,EX]
section
variable {gl:CB}
end
end
theorem Acg(hl:ids.length<=1000000)(d s:Int):z9 ids d s=some (OR ids ⟨d,s⟩:Int):=by
 refine T.eq ?_;unfold z9;refine .bind ((T.forA ids.length (λk n=>n=(OR (ids.take k) ⟨d,s⟩:Int)) aa rfl (λk n hk hn=>?_) λn hn=>?_).mono (Q:=λn:Int=>n=(OR ids ⟨d,s⟩:Int)) λn hn=> .some hn)
 .obtain⟨y,hy,_⟩:=dk hk;unfold uf;simp only[eA hk,ax,au,hy,aL];have h1:=TB (ids.take k) y ⟨d,s⟩;have h2:=AgB (ids.take k) ⟨d,s⟩;rw[MG] at h2;rw[<-Rb hy] at h1;simp only[Bh.mk.injEq] at h1;have yes:y.By=d->y.Seq=s->wI (n+1)=(OR (ids.take (k+1)) ⟨d,s⟩:Int):=by grind [bM]
  have no:¬(y.By=d/\y.Seq=s)->n=(OR (ids.take (k+1)) ⟨d,s⟩:Int):=by grind
  by_cases c1:y.By=d
  .by_cases c2:y.Seq=s
   .simp only[c1,c2,decide_true,ax,aL];exact .some ⟨aq aa,yes c1 c2⟩
   .simp only[c1,c2,decide_true,decide_false,ax,Be,aL];exact .some ⟨aq aa,no λc=>c2 c.2⟩
  .simp only[c1,decide_false,Be,aL];exact .some ⟨aq aa,no λc=>c1 c.1⟩
 .unfold uf;dsimp only;rw[eF,Be];refine .some (show n=_ from ?_);rw[hn,EG]
def FsI(ids p:Bb)(d v:Int):Prop:=(v=0/\∀y∈p,y.By=d->¬2<=OR ids ⟨d,y.Seq⟩)\/(∃y∈p,y.By=d/\y.Seq=v/\2<=OR ids ⟨d,v⟩/\∀z∈p,z.By=d->2<=OR ids ⟨d,z.Seq⟩->v<=z.Seq)
theorem UC{ids:Bb}(hl:ids.length<=1000000)(hs:∀x∈ids,1<=x.Seq)(d:Int):T (qN ids d) (FsI ids ids d):=by
 unfold qN;refine .bind ((T.forA ids.length (λk v=>FsI ids (ids.take k) d v) aa (.inl ⟨rfl,λy hy=>by cases hy⟩) (λk v hk hv=>?_) λv hv=>?_).mono (Q:=FsI ids ids d) λv hv=> .some hv)
 .obtain⟨y,hy,hm⟩:=dk hk;unfold qM;simp only[eA hk,ax,au,hy,aL,Acg hl];have a:=hs y hm;have keep:(y.By=d->2<=OR ids ⟨d,y.Seq⟩->v≠0/\v<=y.Seq)->FsI ids (ids.take (k+1)) d v:=λh=>by
   rw[Rb hy];rcases hv with⟨h1,h2⟩|⟨z,h1,h2,h3,h4,h5⟩
   .refine .inl ⟨h1,λz hz hb hc=>?_⟩;rcases Jn.1 hz with hz|hz
    .exact h2 z hz hb hc
    .simp at hz;subst hz;exact(h hb hc).1 h1
   .refine .inr ⟨z,by simp[h1],h2,h3,h4,λw hw hb hc=>?_⟩;rcases Jn.1 hw with hw|hw
    .exact h5 w hw hb hc
    .simp at hw;subst hw;exact(h hb hc).2
  have new:y.By=d->2<=OR ids ⟨d,y.Seq⟩->(v=0\/y.Seq<v)->FsI ids (ids.take (k+1)) d y.Seq:=λhb hc h=>by
   rw[Rb hy];refine .inr ⟨y,aC,hb,rfl,hc,λw hw hb' b=>?_⟩;rcases Jn.1 hw with hw|hw
   .rcases hv with⟨h1,h2⟩|⟨z,h1,h2,h3,h4,h5⟩
    all_goals grind
   grind
  by_cases c1:y.By=d
  .by_cases c2:2<=OR ids ⟨d,y.Seq⟩
   .have c2':(1:Int)<(OR ids ⟨d,y.Seq⟩:Int):=aa;by_cases c3:v=0
    .simp only[c1,c2',c3,decide_true,ax,aL];exact .some ⟨aq aa,new c1 c2 (.inl c3)⟩
    .by_cases c4:y.Seq<v
     .simp only[c1,c2',c3,c4,decide_true,decide_false,ax,Be,aL];exact .some ⟨aq aa,new c1 c2 (.inr c4)⟩
     .simp only[c1,c2',c3,c4,decide_true,decide_false,ax,Be,aL];exact .some ⟨aq aa,keep λ_ _=>⟨c3,aa⟩⟩
   .have c2':¬(1:Int)<(OR ids ⟨d,y.Seq⟩:Int):=aa;simp only[c1,c2',decide_true,decide_false,ax,Be,aL];exact .some ⟨aq aa,keep λ_ h=>absurd h c2⟩
  .simp only[c1,decide_false,Be,aL];exact .some ⟨aq aa,keep λh=>absurd h c1⟩
 .unfold qM;dsimp only;rw[eF,Be];rw[EG] at hv;exact .some hv
theorem Ad0(hs:∀x∈ids,1<=x.Seq){v:Int}(h:FsI ids ids y.By v):voP ids y=(decide (0<v)&&decide (v<=y.Seq)):=by
 rw[Bool.eq_iff_iff];unfold voP;rw[List.any_eq_true];simp only[bA,decide_eq_true_eq];refine⟨λ⟨z,hz,h1,h2,h3⟩=>?_,λ⟨h1,h2⟩=>?_⟩
 .rcases h with⟨_,h5⟩|⟨w,k1,k2,k3,a,k5⟩
  all_goals grind
 .rcases h with⟨h5,_⟩|⟨w,k1,k2,k3,a,k5⟩
  all_goals grind
theorem Ach{ids:Bb}(hl:ids.length<=100000)(hd:ids.Nodup)(hs:∀x∈ids,1<=x.Seq):T (vJ ids) λr=>r.Perm (ids.filter (voP ids))/\r.Pairwise λx y=>Gu x y<0:=by
 unfold vJ;refine .bind ((T.forA ids.length (λk acc=>acc=(ids.take k).filter (voP ids)) aa aC (λk acc hk hj=>?_) λacc hj=>?_).mono (Q:=λacc=>acc=ids.filter (voP ids)) λx hx=> .bind ((kg ?_).mono λv hv=> .some ?_))
 .obtain⟨y,hy,hm⟩:=dk hk;unfold un;simp only[eA hk,ax,au,hy,aL];have hla:acc.length<=k:=by grind
  have e:(ids.take (k+1)).filter (voP ids)=acc++(if voP ids y then[y] else[]):=by rw[Rb hy,Ps,<-hj];cases hp:voP ids y<;>simp[hp]
  refine .bind ((UC aa hs y.By).mono λv hv=>?_);have hq:=Ad0 hs hv;by_cases c1:0<v
  .by_cases c2:v<=y.Seq
   .simp only[c1,c2,decide_true,ax,aL];rw[hq,C5 c1,C5 c2] at e;exact .bind (.app cq (.some ⟨aq aa,by rw[e];rfl⟩))
   .simp only[c1,c2,decide_true,decide_false,ax,Be,aL];rw[hq,C5 c1,Dk c2] at e;exact .some ⟨aq aa,by rw[e];simp⟩
  .simp only[c1,decide_false,Be,aL];rw[hq,Dk c1] at e;exact .some ⟨aq aa,by rw[e];simp⟩
 .unfold un;dsimp only;rw[eF,Be];refine .some (show acc=_ from ?_);rw[hj,EG]
 .grind
 .refine⟨hx▸hv.1,?_⟩;have hn:v.Nodup:=by grind
  refine(hv.2.and hn).imp λ{a b} h=>Q6.2 ?_;cases h1:dt a b with
  |true=>rfl
  |false=>exact absurd (AdY h1 h.1) h.2
section
section
variable {g:Ba} {m:I1} {N:IX}
theorem Aah(w:GR g)(p:Oo g m N){i:Nat}(h:g.IDs[i]?=some x):∃y,N[i]?=some y/\(CO g m N).lev x=y.level/\0<=y.level/\y.level<=(i:Int)+1:=by obtain⟨y,h1,h2,h3⟩:=AbD w p (N7 w h);refine⟨y,h1,?_,(p.nd i y h1).2.2.2⟩;show(match MT ⟨g.Cards,m,N⟩ x with|some y=>y.level|none=>0)=_;rw[Sq w p,N7 w h];grind
theorem Ad1(w:GR g)(p:Oo g m N):nZ g=some (N.map (·.level)):=by
 have nL:=w.nL;have nU:=w.nU;have pl:=p.len;refine T.eq ?_;unfold nZ;refine .bind (T.mono (Q:=λr=>r=N.map (·.level)) (T.forA g.L.length (λk acc=>acc=(N.take k).map (·.level)) aa aC (λk acc hk hj=>?_) λacc hj=>?_) λx hx=> .some hx)
 .obtain⟨u,hu,_⟩:=dk (l:=g.Up) (k:=k) aa;obtain⟨y,hy,_⟩:=dk (l:=N) (k:=k) aa;obtain⟨u1,e⟩:=w.up k u hu;have b:=p.lv k y u hy hu;unfold pd;dsimp only;rw[eA hk,ax];have hla:acc.length=k:=by grind
  have hin:AQ (iP g (acc,(k:Int))) (1,0)=some y.level:=by
   refine T.eq ?_;refine T.loop (λs=>∃j:Nat,j<=u.length/\s.2=(j:Int)/\s.1=lvF N (u.take j)) (λs=>u.length-s.2.toNat) ⟨0,aa,rfl,rfl⟩ cq ?_;rintro⟨a,i⟩ ⟨j,f,rfl,rfl⟩;unfold iP;simp only[au,hu,aL];rcases Je j u.length with hlt|hge
   .obtain⟨z,hz,hm⟩:=dk hlt;obtain⟨h,o⟩:=e z hm;obtain⟨n,rfl⟩:∃n:Nat,z=(n:Int):=⟨z.toNat,aa⟩;obtain⟨v,hv,_⟩:=dk (l:=N) (k:=n) aa;have hb:=(p.nd n v hv).2.2.2;have ha:acc[n]?=some v.level:=by grind
    rw[eA hlt,ax,hz,aL,au,ha,aL,bM aa aa];refine .some ⟨⟨j+1,aa,aq aa,?_⟩,?_⟩
    .rw[Rb hz,Abg];grind [lvN]
    grind [aq]
   .obtain rfl:j=u.length:=aa;rw[eF,Be,EG];exact .some b.symm
  rw[hin,aL];refine .bind (.app cq (.some ⟨aq aa,?_⟩));rw[Rb hy,List.map_append,hj];rfl
 .unfold pd;dsimp only;rw[eF,Be];refine .some (show acc=_ from ?_);rw[hj,<-pl,EG]
theorem Sa(w:GR g)(p:Oo g m N){i:Nat}(hx:g.IDs[i]?=some x)(hy:g.IDs[k]?=some y):vI g (N.map (·.level)) (i:Int) (k:Int)=some (decide (Ow (CO g m N) x y<0)):=by
 obtain⟨a,h1,h2,_⟩:=Aah w p hx;obtain⟨b,h3,h4,_⟩:=Aah w p hy;have e1:(N.map (·.level))[i]?=some a.level:=by rw[Nd,h1];rfl
 have e2:(N.map (·.level))[k]?=some b.level:=by rw[Nd,h3];rfl
 grind [vI,au,pJ,W6]
theorem Ajy{cmp:α->α->Int}(hO:OrN cmp λ_=>True){l:List α}{x:α}(hp:l.Pairwise λa b=>cmp a b<0)(h1:∀i y,i<j->l[i]?=some y->cmp y x<0)(h2:∀y,l[j]?=some y->¬cmp y x<0)(hx:x∉l):(l.take j++[x]++l.drop j).Pairwise λa b=>cmp a b<0:=by
 have hpj:(l.take j++l.drop j).Pairwise λa b=>cmp a b<0:=by rw[Pr];exact hp
 rw[List.pairwise_append] at hpj;have hlt:∀a∈l.take j,cmp a x<0:=by grind [GL]
 have hgt:∀b∈l.drop j,cmp x b<0:=by grind [OrN,List.drop_eq_nil_of_le,List.drop_eq_getElem_cons,List.pairwise_cons]
 grind
theorem UD(w:GR g)(p:Oo g m N)(hl:ids.length<=1000)(hd:ids.Nodup)(hm:∀x∈ids,x∈g.IDs):T (n8 g ids) λr=>r.Perm ids/\r.Pairwise λx y=>Ow (CO g m N) x y<0:=by
 have nL:=w.nL;have nI:=w.nI;unfold n8;rw[Ad1 w p,aL];refine .bind (T.mono (Q:=λx:Bp=>EF g x/\(IH g x).Perm ids/\(IH g x).Pairwise λx y=>Ow (CO g m N) x y<0) (T.forA ids.length (λk acc=>EF g acc/\(IH g acc).Perm (ids.take k)/\(IH g acc).Pairwise λx y=>Ow (CO g m N) x y<0) aa ⟨.nil,by simp[IH],.nil⟩ (λk acc hk hj=>?_) λacc hj=>?_) λf h4=>?_)
 .obtain⟨y,hy,l⟩:=dk hk;obtain⟨b,u,o⟩:=hj;obtain⟨i,hi⟩:=GL (hm y l);have hil:i<g.IDs.length:=(cr hi).1;have hpz:gO g y=(i:Int):=by unfold gO;rw[N7 w hi]
  have hal:acc.length<=k:=by grind [List.Perm.length_eq,GJ,MG]
  have hny:y∉IH g acc:=by grind [GL,M5]
  unfold qU;simp only[eA hk,ax,au,hy,aL,qR,dC (show g.IDs.length<=1000000 by omega),hpz];rw[show decide ((i:Int)<0)=false from Dk aa,Be];refine .bind (T.mono (Q:=λn:Int=>∃j:Nat,n=(j:Int)/\j<=acc.length/\(∀q z,q<j->(IH g acc)[q]?=some z->Ow (CO g m N) z y<0)/\∀z,(IH g acc)[j]?=some z->¬Ow (CO g m N) z y<0) (T.forI acc.length (λj=>∀q z,q<j->(IH g acc)[q]?=some z->Ow (CO g m N) z y<0) aa (λq z h=>aa) (λj hjl hq=>?_) λhq=>?_) λn hn=>?_)
  .obtain⟨z,hz,s⟩:=dk hjl;obtain⟨B,zn,rfl,t,a,hzz⟩:=Pm w b hz;unfold qT;simp only[eA hjl,ax,au,hz,aL,Sa w p a hi];refine .dec (λhc=> .some ⟨aq aa,λq C v hz'=>?_⟩) λhc=> .some ⟨j,rfl,aa,hq,λC hz'=>?_⟩;all_goals grind
  .unfold qT;dsimp only;rw[eF,Be,aL,Be];refine .some ⟨acc.length,rfl,Dl _,hq,λz hz=>?_⟩;grind
  .obtain⟨j,rfl,hjl,q1,A⟩:=hn;refine .bind (.pre aa aa (.bind (.app cq (.bind (.app cq (.bind (.suf aa aa (.bind (.app cq (.some ⟨aq aa,?_,?_⟩))))))))))
   .intro x hx;have:x∈acc++[(i:Int)]:=by grind
    exact b.snoc aa x this
   .have e:IH g ([]++acc.take (j:Int).toNat++[(i:Int)]++acc.drop (j:Int).toNat)=(IH g acc).take j++[y]++(IH g acc).drop j:=by grind [Fu,List.map_take,List.map_drop]
    rw[e];refine⟨?_,Ajy (Xf _) o q1 A hny⟩;grind [Rb,Cy]
 .unfold qU;dsimp only;rw[eF,Be];rw[EG] at hj;exact .some hj
 .obtain⟨h1,h2,h3⟩:=h4;refine .bind (T.mono (Q:=λr:Bb=>r=IH g f) (T.forA f.length (λk acc=>acc=(IH g f).take k) (by grind [List.Perm.length_eq,GJ]) aC (λk acc hk hj=>?_) λacc hj=>?_) (by grind [T.some]))
  .obtain⟨z,hz,s⟩:=dk hk;obtain⟨B,zn,rfl,t,a,hzz⟩:=Pm w h1 hz;have hxl:f.length<=1000:=by grind [List.Perm.length_eq]
   have hal:acc.length<=k:=by rw[hj,MG];omega
   unfold qS;simp only[eA hk,ax,au,hz,a,aL];refine .bind (.app cq (.some ⟨aq aa,?_⟩));rw[Rb hzz,hj]
  .unfold qS;dsimp only;rw[eF,Be];refine .some (show acc=_ from ?_);grind [GJ]
end
end
section
theorem Ade{N:IX}{u:Bp}:1<=lvF N u:=by
 have key:∀(l:Bp) (a:Int),1<=a->1<=l.foldl (λa j=>Ft a (lvN N j+1)) a:=by intro l;induction l<;>grind [Ft]
 exact key u 1 (Int.le_refl _)
theorem Abk{a b:Bb}(h:a.Perm b)(f:Bh):OR a f=OR b f:=(h.filter _).length_eq
theorem Afm{a b:Bb}(h:a.Perm b)(x:Ab):voP a x=voP b x:=by grind [voP,Abk]
section
variable {g:Ba} {m:I1} {N:IX} (P:Pg g m N)
include P
end
end
theorem Adf{gg:Az}{j:Nat}:∀(l:Bb) (s:ON),gW (l.foldl (λs x=>match MT gg x with|some y=>Rf s y.past|none=>s) s) j=(gW s j||l.any λx=>match MT gg x with|some y=>gW y.past j|none=>false)
 |[],s=>aC
 |x::l,s=>by rw[List.foldl_cons,Adf l,List.any_cons];grind [RP]
theorem Ahl{p:Nat->Bool}{N:IX}:x∈Vq p N↔∃(k:Nat) (y:Dd),N[k]?=some y/\p k=true/\y.id=x:=by unfold Vq;simp only[EH,IK,List.mem_zipIdx_iff_getElem?,Prod.exists];grind
theorem Ahm{p:Nat->Bool}{N:IX}:(Vq p N).Sublist (N.map (·.id)):=by
 have h:(N.zipIdx.map (·.1.id))=N.map (·.id):=by rw[show(λq:Dd×Nat=>q.1.id)=(λy:Dd=>y.id)∘Prod.fst from rfl,<-Hi,List.zipIdx_map_fst]
 rw[<-h];exact List.filter_sublist.map _
theorem Adg{I:Gi}{x:Ab}:∀{l p:Bb},x∈K3 I p l↔x∈p\/x∈l/\0<I.lev x
 |[],p=>by simp[K3]
 |y::l,p=>by have a:K3 I p (y::l)=K3 I (bif 0<I.lev y then bif p.any λz=>decide (y=z)then p else p++[y]else p) l:=rfl;rw[a,Adg];grind
theorem Afn{I:Gi}:∀{l p:Bb},p.Nodup->(K3 I p l).Nodup
 |[],p,h=>h
 |y::l,p,h=>by have a:K3 I p (y::l)=K3 I (bif 0<I.lev y then bif p.any λz=>decide (y=z)then p else p++[y]else p) l:=rfl;rw[a];refine Afn ?_;grind
section
variable {g:Ba} {m:I1} {N:IX} (P:Pg g m N)
include P
theorem Ajz:N.map (·.id)=g.IDs:=by
 refine List.ext_getElem? λk=>?_;have pl:=P.p.len;have nI:=P.w.nI;rw[Nd];cases hy:N[k]? with
 |none=>grind
 |some y=>rw[(P.p.nd k y hy).2.1];rfl
theorem Adh{l:Bb}(hj:j<256):gW (Se ⟨g.Cards,m,N⟩ l) j=true↔uX g l j:=by
 have z:gW z4 j=false:=by unfold gW z4;split<;>simp
 rw[show gW (Se ⟨g.Cards,m,N⟩ l) j=_ from Adf l z4,z,Bool.false_or,List.any_eq_true];unfold uX;refine⟨λ⟨x,hx,h⟩=>⟨x,hx,?_⟩,λ⟨x,hx,n,h1,h2⟩=>⟨x,hx,?_⟩⟩
 .rw[Sq P.w P.p] at h;cases hk:bu x g.IDs with
  |none=>rw[hk] at h;simp at h
  |some n=>
   rw[hk,aL] at h;cases hy:N[n]? with
   |none=>rw[hy] at h;simp at h
   |some y=>rw[hy] at h;exact⟨n,rfl,((P.p.nd n y hy).2.2.1 j hj).symm.trans h⟩
 .have hn:=(cr (gb h1).1).1;have pl:=P.p.len;have nI:=P.w.nI;obtain⟨y,hy⟩:∃y,N[n]?=some y:=⟨_,EA aa⟩;rw[Sq P.w P.p,h1,aL,hy];exact((P.p.nd n y hy).2.2.1 j hj).trans h2
theorem Ahn:0<(CO g m N).lev x↔x∈g.IDs:=by
 have pl:=P.p.len;have nI:=P.w.nI;cases hk:bu x g.IDs with
 |none=>
  have:(CO g m N).lev x=0:=by show(match MT ⟨g.Cards,m,N⟩ x with|some y=>y.level|none=>0)=_;rw[Sq P.w P.p,hk];rfl
  grind [jv]
 |some k=>have hid:=(gb hk).1;obtain⟨y,a,c,_⟩:=Aah P.w P.p hid;have hkl:=(cr hid).1;obtain⟨u,hu,_⟩:=dk (l:=g.Up) (k:=k) (by have:=P.w.nU;omega);have b:=P.p.lv k y u a hu;grind [Ade]
theorem AlJ(h14:g.L.length<=15){l:Bb}(hl:l.length<=1000):∃v p,M0 g l=some v/\E1 g v/\v.Nodup/\O6 Gu (Vq (gW (Se ⟨g.Cards,m,N⟩ l)) N)=some p/\p.length=(Vq (gW (Se ⟨g.Cards,m,N⟩ l)) N).length/\p.length<=15/\(K3 (CO g m N) p l).Perm v:=by
 have pl:=P.p.len;have nI:=P.w.nI;obtain⟨v,e,v1,v2,b,c⟩:=yf P.w (ids:=l) aa;have hs:=Ahm (p:=gW (Se ⟨g.Cards,m,N⟩ l)) (N:=N);rw[Ajz P] at hs;have hle:=hs.length_le;obtain⟨p,e2,a,d⟩:=Ut Qh (P.w.nd.sublist hs) aa;have hpl:=a.length_eq;refine⟨v,p,e,v1,v2,e2,hpl,aa,(List.perm_ext_iff_of_nodup (Afn (a.nodup_iff.2 (P.w.nd.sublist hs))) v2).2 λx=>?_⟩;rw[Adg,b,a.mem_iff,Ahl,Ahn P];refine or_congr_left ⟨λ⟨k,y,h1,h2,h3⟩=>?_,λ⟨k,h1,h2⟩=>?_⟩
 .have hk:=(cr h1).1;exact⟨k,h3▸(P.p.nd k y h1).2.1,(Adh P aa).1 h2⟩
 .have hk:=(cr h1).1;obtain⟨y,hy⟩:∃y,N[k]?=some y:=⟨_,EA aa⟩;have:=(P.p.nd k y hy).2.1;grind [Adh]
end
theorem AjA{gl:CB}{gg:Az}{o:Bq}{s:Bb}(hn:s.length<=15)(hp:s.Perm v)(hs:∀x∈v,1<=x.Seq):∃fr fk w,ba prog gl 225 [.ptr (Ag gg) 0,aE aj s] (aE Bv fr)/\Aa6 fr (λf=>JB f o)=some fk/\qN v o.By=some w/\fk=(decide (0<w)&&decide (w<=o.Seq)):=by
 obtain⟨fs,hq,hi⟩:=AiT hn;have hl:=AaL (ids:=s) aa;have hI:=AgC s aa;have hfl:fs.length=(Uu s).2.es.length:=by rw[hq.length_eq,GJ]
 have hF:=(AbN (gl:=gl) (gg:=gg) (ids:=s) (r:=fs) (n:=fs.length) aa aa hfl.symm hi).fn Bi.sz (Bi.len _) (Bi.imm _);obtain⟨w,e,hw⟩:=UC (ids:=v) (by have:=hp.length_eq;omega) hs o.By;refine⟨fs,_,w,hF,?_,e,rfl⟩;rw[show(λf=>JB f o)=λf=>some (decide (f.Device=o.By)&&decide (f.Seq<=o.Seq)) from funext λf=>by unfold JB;cases decide (f.Device=o.By)<;>rfl,Abu (p:=λf:Bh=>decide (f.Device=o.By)&&decide (f.Seq<=o.Seq)) aa λ_ _=>rfl];congr 1;rw[Bool.eq_iff_iff,List.any_eq_true];simp only[bA,decide_eq_true_eq];have hm:∀f:Bh,f∈fs↔(Uu s).2.get f.Device=some f.Seq:=λf=>by rw[hq.mem_iff,TC]
 have hc:∀f,OR v f=OR s f:=λf=>(Abk hp f).symm;have hex:∀{d q:Int},2<=OR s ⟨d,q⟩->∃y∈v,y.By=d/\y.Seq=q:=λ{d q} h=>by unfold OR at h;obtain⟨y,hy⟩:=List.exists_mem_of_length_pos (l:=s.filter λx=>decide (x.By=d)&&decide (x.Seq=q)) (Nat.lt_of_lt_of_le Cd h);rw[IK] at hy;have:=hy.2;simp only[bA,decide_eq_true_eq] at this;exact⟨y,hp.mem_iff.1 hy.1,this.1,this.2⟩
 unfold FsI at hw;simp only[hc] at hw;refine⟨λ⟨f,hf,h1,h2⟩=>?_,λ⟨h1,h2⟩=>?_⟩
 .rw[hm] at hf;have h3:=hI.a _ _ hf;obtain⟨y,g,c,i⟩:=hex h3;rw[h1] at h3 c;rcases hw with⟨_,h5⟩|⟨z,k1,k2,k3,j,k5⟩
  .exact absurd (i▸h3) (h5 y g c)
  .have a:=k5 y g c (i▸h3);have b:=hs z k1;omega
 .rcases hw with⟨h5,_⟩|⟨z,k1,k2,k3,j,k5⟩
  .omega
  .obtain⟨q,q1,k⟩:=hI.b _ _ j;exact⟨⟨o.By,q⟩,(hm _).2 q1,rfl,by show q<=o.Seq;omega⟩
theorem AlK{D':Dx}{o:Bq}{i:Ab}(h:o7 D o i=some D'):D'.In=D.In:=by grind [o7,Gd]
theorem AiA(h:Rr R D)(hR:Bj R)(d:Int):PL R d=decide (d∈HA R):=by
 have hp:=(Nj hR).2.1;have hi:=h.in_ d;unfold PL EQ;rw[Bool.eq_iff_iff,decide_eq_true_iff,hp.mem_iff,EH];by_cases c:d∈D.In
 .grind [Gq]
 .rw[BU c] at hi;rw[hi];refine⟨(by grind),λ⟨q,hq,e⟩=>?_⟩;have hg:=JF hR.ci (k:=q.1) (v:=q.2.1) (n:=q.2.2) hq;grind
theorem af0{a b:Bp}(h1:a.length<=1000)(h2:b.length<=1000):AQ (qn a b) ([],0)=some (b.filter (QF a)):=by
 refine T.eq (T.forA b.length (λk acc=>acc=(b.take k).filter (QF a)) aa aC (λk acc hk hj=>?_) λacc hj=>?_)
 .obtain⟨y,hy,hm⟩:=dk hk;subst hj;have hl:((b.take k).filter (QF a)).length<=1000:=by grind
  unfold qn;simp only[eA hk,ax,au,hy,aL,cX (show a.length<=1000000 by omega)];refine .ite (λc=> .bind (.app cq (.some ⟨aq aa,?_⟩))) λc=> .some ⟨aq aa,?_⟩
  .grind [Rb]
  .rw[Rb hy,Ps];simp[c]
 .unfold qn;dsimp only;rw[eF,Be];subst hj;exact .some (show _=_ by rw[EG])
theorem af1{a b x:Bp}(h0:x.length<=1000)(h1:a.length<=1000)(h2:b.length<=1000):AQ (qm a b) (x,0)=some (x++a.filter λd=> !QF b d):=by
 refine T.eq (T.forA a.length (λk acc=>acc=x++(a.take k).filter λd=> !QF b d) aa aC (λk acc hk hj=>?_) λacc hj=>?_)
 .obtain⟨y,hy,hm⟩:=dk hk;subst hj;have hl:((a.take k).filter λd=> !QF b d).length<=1000:=by grind
  unfold qm;simp only[eA hk,ax,au,hy,aL,cX (show b.length<=1000000 by omega)];refine .ite (λc=> .bind (.app cq (.some ⟨aq aa,?_⟩))) λc=> .some ⟨aq aa,?_⟩
  .grind [Rb]
  .rw[Rb hy,Ps];simp[c]
 .unfold qm;dsimp only;rw[eF,Be];subst hj;exact .some (show _=_ by rw[EG])
section
variable {g:Ba} {m:I1} {N:IX} (P:Pg g m N)
include P
theorem AlL(k:RkS g 1000 D)(h:Rr R D)(hR:Bj R){i:Ab}(so:Bg o)(hp:VB o i):∃D',DM D o i=some D'/\lu D'=some (HA (VA R o i))/\∀d,PL (VA R o i) d=decide (d∈HA (VA R o i)):=by
 have z:=ZQ P k Cd h hR;have hQ:=R2 hR hp;by_cases c:o.Kind=9
 .have eD:DM D o i=o7 D o i:=by unfold DM;rw[ofE z.z,aL];obtain⟨a,e3,_⟩:=Yi z.z h (Ye D.Cards o.By);grind
  obtain⟨D',e,_⟩:=Ak2 z h (o:=o) (i:=i);have ei:=AlK e;have eQ:(VA R o i).in_=R.in_:=by grind [VA,Aaq]
  have e1:HA (VA R o i)=HA R:=by grind [HA]
  have e2:lu D'=lu D:=by grind [lu]
  refine⟨D',eD.trans e,by grind [Ai3,Sy.z],λd=>?_⟩;rw[e1,<-AiA h hR d];grind [PL]
 .obtain⟨D',e,h2,q⟩:=doE z h hR (o:=o) (i:=i) (by grind);exact⟨D',e,Ai3 (AcQ h2 hQ (by rw[q.c,k.cards];exact P.w.nC) (by have:=q.v;have:=k.nV;omega)).z h2 hQ,AiA h2 hQ⟩
end
theorem Aci(hR:Bj R)(h:Uo R o=0):1<=o.By/\o.By<=6:=by
 unfold Uo at h;split at h
 .grind [Bj,DE]
 .cases c:PL R o.By with
  |false=>grind
  |true=>
   unfold PL EQ at c;cases hg:R.in_.get o.By with
   |none=>grind
   |some v=>grind [Bj,Gq]
section
variable {g:Ba} {m:I1} {N:IX} (P:Pg g m N)
include P
theorem Aai(h14:g.L.length<=15)(c:∀(i:Nat) (o:Bq) (x:Ab),g.L[i]?=some o->g.IDs[i]?=some x->x.Seq=o.Seq)(v1:E1 g v)(v2:v.Nodup):∃row vs:Bb,n8 g v=some row/\row.Perm v/\(row.Pairwise λx y=>Ow (CO g m N) x y<0)/\vJ v=some vs/\vs.Perm (v.filter (voP v))/\vs.length<=1000/\Aeg fI (UU ⟨g.Cards,m,N⟩ row vs) (CO g m N)/\(∀x∈row,x∈g.IDs)/\(∀x∈vs,x∈g.IDs)/\row.Nodup/\row.length<=15/\∀s:Bb,s.Perm v->ba prog fI 57 [.ptr (Ag ⟨g.Cards,m,N⟩) 0,aE aj s] (aE aj row)/\ba prog fI 276 [.ptr (Ag ⟨g.Cards,m,N⟩) 0,aE aj s] (aE aj vs):=by
 have w:=P.w;have nI:=w.nI;have hG:=UB w P.p;have hI:=WY hG;have opx:∀x∈g.IDs,∃(i:Nat) (o:Bq),g.IDs[i]?=some x/\g.L[i]?=some o/\FF o:=by grind [GL,GR.op]
 have hseq:∀x∈g.IDs,1<=x.Seq/\x.Seq<=2147483647:=λx hx=>by obtain⟨i,o,h1,h2,q⟩:=opx x hx;rw[c i o x h2 h1];exact(T1 q.numbers).seq
 have hv14:v.length<=15:=by have:=EC v2 v1.sub;omega
 obtain⟨row,j,b,f⟩:=UD w P.p aa v2 v1.sub;have hrl:row.length<=15:=by rw[b.length_eq];exact hv14
 have hrn:row.Nodup:=b.nodup_iff.2 v2;have hrm:∀x∈row,x∈g.IDs:=λx hx=>v1.sub x (b.mem_iff.1 hx);have hO:∀s:Bb,s.Perm v->ba prog fI 57 [.ptr (Ag ⟨g.Cards,m,N⟩) 0,aE aj s] (aE aj row):=λs a=>by
  have hs14:s.length<=15:=by rw[a.length_eq];exact hv14
  obtain⟨r,e,h,d⟩:=Ut (Xf (CO g m N)) (a.nodup_iff.2 v2) hs14;have:r=row:=Q9 (Xf (CO g m N)).tr SN (h.trans (a.trans b.symm)) d f;grind [AbJ,List.Perm.length_eq]
 obtain⟨vs,k,l,n⟩:=Ach (ids:=v) aa v2 (by grind [E1.sub]);have hvm:∀x∈vs,x∈g.IDs:=by grind [E1.sub]
 have hvl:vs.length<=1000:=by grind [List.Perm.length_eq,M7]
 have hV:∀s:Bb,s.Perm v->ba prog fI 276 [.ptr (Ag ⟨g.Cards,m,N⟩) 0,aE aj s] (aE aj vs):=λs a=>by
  have hs14:s.length<=15:=by rw[a.length_eq];exact hv14
  obtain⟨r,e,h,d⟩:=Aii (gl:=fI) (gg:=⟨g.Cards,m,N⟩) hs14 (a.nodup_iff.2 v2) (by grind [E1.sub,List.Perm.mem_iff]);have hq:(s.filter (voP s)).Perm (v.filter (voP v)):=by rw[show voP s=voP v from funext (Afm a)];grind
  have:r=vs:=Q9 Qh.tr AdZ (by grind) d n;exact this▸e
 have hod:∀x∈row,VB ((CO g m N).o x) x:=λx hx=>by obtain⟨i,o,h1,h2,_⟩:=opx x (hrm x hx);rw[(P.op h2 h1).2];grind [Pg.od]
 exact⟨row,vs,j,b,f,k,l,hvl,⟨hI,P.cd,hod,by show row.length<=1000;omega⟩,hrm,hvm,hrn,hrl,λs hs=>⟨hO s hs,hV s hs⟩⟩
def Aho(g:Ba)(m:I1)(N:IX)(v:Bb)(R:Ad)(sen:Bp):Prop:=∃row vs cs:Bb,n8 g v=some row/\vJ v=some vs/\(∀x∈row,x∈v)/\Aem (CO g m N) (UU ⟨g.Cards,m,N⟩ row vs) (NQ (CO g m N) row)=some cs/\cs.Sublist row/\R=aal (CO g m N) cs/\sen=NQ (CO g m N) row
theorem Abl(h14:g.L.length<=15)(b:∀(i:Nat) (o:Bq) (x:Ab),g.L[i]?=some o->g.IDs[i]?=some x->x.Seq=o.Seq)(v1:E1 g v)(v2:v.Nodup):∃(R:Ad) (D:Dx) (sen:Bp),zY g v=some D/\Rr R D/\Bj R/\RkS g 1000 D/\(∀s:Bb,s.Perm v->TG prog fI 40 [.ptr (Ag ⟨g.Cards,m,N⟩) 0,aE aj s] [] 0 0 (.ref 0 0) (BW f0 R)/\ba prog fI 229 [.ptr (Ag ⟨g.Cards,m,N⟩) 0,aE aj s] (aE cZ sen))/\sen.Nodup/\sen.length<=12/\jn g v=some sen/\Aho g m N v R sen:=by
 obtain⟨row,vs,c,f,_,h,_,hvl,hL,hrm,hvm,hrn,hrl,hS⟩:=Aai P h14 b v1 v2;have hI:=WY (UB P.w P.p);obtain⟨s1,s2⟩:=Aiq P hrm;have d:=XX hI (hS row f).1 aa;have e:=Aa0 P c aa hrm;obtain⟨D,k,cs,j,l,n,q,d6⟩:=Anm P (ids:=v) v1 c hrn aa hrm h hvl hvm;have hod:=hL.o;have hcl:cs.length<=1000:=by grind
 exact⟨_,D,_,k,n,q,d6,λs a=>⟨Ah0 hI P.cd (ac.fo (Aen (I:=CO g m N) (ids:=s) (row:=row) (s:=NQ (CO g m N) row) (r:=cs) hL (hS s a).1 (hS s a).2 hvl d aa j)) (by grind [UU]) hcl,XX hI (hS s a).1 aa⟩,s1,s2,e,row,vs,cs,c,h,λx hx=>f.mem_iff.1 hx,j,l,rfl,rfl⟩
theorem Ad2(h14:g.L.length<=15)(j:∀(i:Nat) (o:Bq) (x:Ab),g.L[i]?=some o->g.IDs[i]?=some x->x.Seq=o.Seq)(so:Bg o){i:Ab}(hid:pV o=some i)(n:ba prog fI 77 [.agg (aJ o)] (.agg (aj i)))(hp:1<=o.By/\o.By<=6->VB o i):∃(l:Bp) (v:Bb) (R:Ad) (fk:Bool) (sen:Bp),(iV prog fI 130 [.ptr (Ag ⟨g.Cards,m,N⟩) 0,.agg (aJ o)] 3 l.length (l.flatMap cZ)/\qo g o=some l/\l.length<=12/\l.Nodup)/\M0 g o.Past=some v/\l=AdX fk R o i sen/\Bj R/\(∃D,Rr R D/\Aho g m N v R sen/\∃f,qN v o.By=some f/\fk=(decide (0<f)&&decide (f<=o.Seq)))/\∀s:Bb,s.Perm v->TG prog fI 40 [.ptr (Ag ⟨g.Cards,m,N⟩) 0,aE aj s] [] 0 0 (.ref 0 0) (BW f0 R):=by
 have w:=P.w;have hpl:=so.nPast;have hgl:o.Guards.length<=1000000:=by grind [Bg.nGuards]
 have nI:=w.nI;have pl:=P.p.len;have hG:=UB w P.p;have hI:=WY hG;obtain⟨v,p,e1,v1,v2,e2,pe,y,a⟩:=AlJ P h14 hpl;have hv14:v.length<=15:=by have:=EC v2 v1.sub;omega
 obtain⟨R,D,sen,A,k,b,d6,c,s1,s2,q,r⟩:=Abl P h14 j v1 v2;have B:=Ahh (gl:=fI) hG (by show N.length<=15;omega) (ids:=o.Past) aa e2 pe;have hS:=Afj hI B aa;generalize K3 (CO g m N) p o.Past=s at hS a;have hs14:s.length<=15:=by rw[a.length_eq];exact hv14
 obtain⟨fr,fk,f,f1,f2,t,C⟩:=AjA (gl:=fI) (gg:=⟨g.Cards,m,N⟩) (o:=o) hs14 a (λx hx=>by obtain⟨i,h1⟩:=GL (v1.sub x hx);obtain⟨o,h2,_,E⟩:=w.op (i:=i) (by have:=(cr h1).1;omega);rw[j i o x h2 h1];exact(T1 E.numbers).seq.1)
 obtain⟨h1,hN⟩:=c s a;have hA:=Afk hS f1 f2 b h1 n hgl (by grind [Aci]) hN aa;refine⟨_,v,R,fk,sen,⟨hA,?_,?_⟩,e1,rfl,b,⟨D,k,r,f,t,C⟩,λs h=>(c s h).1⟩;all_goals clear hA c hN h1
 .unfold qo AdX;rw[e1,aL,t,aL];have hj:(bif 0<f then(some (decide (f<=o.Seq)))else(some false))=some fk:=by grind
  rw[hj,aL];cases fk with
  |true=>rfl
  |false=>
  rw[Be,Be,A,aL,hid,aL,AkV (ZQ P d6 aa k b).z k b hgl i,aL];cases cm:decide (Uo R o≠0) with
  |true=>rfl
  |false=>
  have hp:=hp (Aci b (Decidable.of_not_not (Mu cm)));obtain⟨D',k1,k2,k3⟩:=AlL P d6 k b so hp;have hQ:=R2 b hp;generalize VA R o i=Q at k2 k3 hQ;have hdl:(HA Q).length<=1000:=by rw[(Nj hQ).2.1.length_eq,GJ];grind [Bj.len]
  rw[Be,Be,k1,aL,k2,aL,q,aL,af0 hdl aa,aL,af1 (by grind) hdl aa,aL];have a1:sen.filter (QF (HA Q))=haS Q sen:=by grind [List.filter_congr,Lx]
  rw[a1];congr 2;grind [List.filter_congr,Lx]
 .unfold AdX;cases fk with
  |true=>simp
  |false=>
  cases cm:decide (Uo R o≠0) with
  |true=>simp
  |false=>
  have hQ:=R2 b (hp (Aci b (Decidable.of_not_not (Mu cm))));generalize VA R o i=Q at hQ;obtain⟨_,u,_⟩:=Nj hQ;have dn:(HA Q).Nodup:=u.nodup_iff.2 hQ.ci.kd;have hn:(haS Q sen++(HA Q).filter (Abj (haS Q sen))).Nodup:=by grind
  refine⟨Ak4 hn λd hd=>?_,hn⟩;have i6:=hQ.i6;rcases Jn.1 hd with h|h
  .have h:=(IK.1 h).2;unfold PL EQ at h;cases hg:Q.in_.get d with
   |none=>grind
   |some v=>grind [Gq]
  .obtain⟨e,he,rfl⟩:=EH.1 (u.mem_iff.1 (IK.1 h).1);have:=i6 e he;omega
theorem Afp(h14:g.L.length<=15)(a:∀(i:Nat) (o:Bq) (x:Ab),g.L[i]?=some o->g.IDs[i]?=some x->x.Seq=o.Seq)(so:Bg o){i:Ab}(hid:pV o=some i)(b:ba prog fI 77 [.agg (aJ o)] (.agg (aj i)))(hp:1<=o.By/\o.By<=6->VB o i):∃l:Bp,iV prog fI 130 [.ptr (Ag ⟨g.Cards,m,N⟩) 0,.agg (aJ o)] 3 l.length (l.flatMap cZ)/\qo g o=some l/\l.length<=12/\l.Nodup:=by obtain⟨l,_,_,_,_,h,_⟩:=Ad2 P h14 a so hid b hp;exact⟨l,h⟩
end
def Pq{α:Type}(x:Option α)(Q:α->Prop):Prop:=∀v,x=some v->Q v
section
variable {α β:Type} {x:Option α} {f:α->Option β} {Q:β->Prop} {R:α->Prop}
theorem Pq.b(h:∀v,Pq (f v) Q):Pq (x.bind f) Q:=λw e=>by obtain⟨v,_,e⟩:=Gd.1 e;exact h v w e
theorem Pq.m(h:Pq x R)(k:∀v,R v->Pq (f v) Q):Pq (x.bind f) Q:=λw e=>by obtain⟨v,e',e⟩:=Gd.1 e;exact k v (h v e') w e
theorem Pq.i{c:Bool}{a b:Option α}(h1:c=true->Pq a R)(h2:c=false->Pq b R):Pq (bif c then a else b) R:=by grind
theorem Pq.s{v:α}(h:R v):Pq (some v) R:=λw e=>(by grind)
end
theorem Pq.of{α:Type}{x:Option α}{Q:α->Prop}(h:T x Q):Pq x Q:=λv e=>by obtain⟨w,e',h⟩:=h;grind
def Kn(o:Bq):Prop:=o.Kind=9->1<=o.Need/\o.Need<=1000000
theorem Ad3{n:Int}(h0:0<=n)(h1:n<=1000000):Pq (sc g ids o n) Kn:=by
 unfold sc;refine .b λv1=> .b λj=> .b λk=> .i (λc=>?_) λc=>?_
 .refine .b λl=> .b λa=> .m (R:=λq=>0<=q/\q<=1) (λq e=>?_) λd hq=> .b λh=> .s λ_=>?_
  .grind [bM,u9,iI,ah]
  grind [bM]
 .have c':=Mu c;refine .b λ_=> .b λ_=> .b λ_=> .b λ_=> .b λ_=> .b λ_=> .i (λ_=> .s λe=>absurd e c') λ_=> .s λe=>absurd e c'
theorem Ahp{n m:Int}(hm:c8 m):Pq (sd g n m) Kn:=by
 unfold sd;refine .b λv1=> .m (.of (eX hm Cd)) λj h3=> .b λw=> .i (λ_=> .s λe=>(by grind)) λ_=> .b λa=> .b λl=> .b λj12=> .b λo=> .b λp=>?_;have hk:0<=wI (j.tdiv 20)/\wI (j.tdiv 20)<=1000000:=by grind [bM]
 have no:∀{k:Int},decide (a.Kind=k)=true->k≠9->∀{q:Int},a.Kind=9->1<=q/\q<=1000000:=by grind
 refine .m (R:=λx:Bq×Bb=>Kn x.1) (.i (λc=> .b λ_=> .s λe=>(by grind)) λ_=> .m (R:=λx:Bq×Bb=>Kn x.1) (.i (λc=> .b λ_=> .s λe=>(by grind)) λ_=> .m (R:=λx:Bq×Bb=>Kn x.1) (.i (λc=> .s λe=>(by grind)) λ_=> .m (R:=λx:Bq×Bb=>Kn x.1) (.i (λc=> .b λ_=> .b λ_=> .b λ_=> .s λe=>(by grind)) λ_=> .m (R:=λx:Bq×Bb=>Kn x.1) (.i (λc=> .s λe=>(by grind)) λ_=> .m (R:=λx:Bq×Bb=>Kn x.1) (.i (λc=> .s λe=>(by grind)) λ_=> .m (R:=λb:Bool=>a.Kind=9->b=true) (by grind [Pq.s]) λr t=> .m (R:=λx:Bq×Bb=>Kn x.1) (.i (λ_=> .m (Ad3 hk.1 hk.2) λu h=> .b λ_=> .s h) λc=> .s λe=>(by grind)) λ_ h=> .s h) λ_ h=> .s h) λ_ h=> .s h) λ_ h=> .s h) λ_ h=> .s h) λ_ h=> .s h) λv d=>?_;exact .b λ_=> .b λ_=> .b λ_=> .b λ_=> .b λ_=> .s d
def R5(l:Mj):Bool:=decide (l.length<=12)&&(List.range 12).all λk=>match l[k]?,l[k+1]? with
 |some a,some b=>decide (a.Device<=b.Device)&&(decide (0<=a.Device)&&decide (b.Device<=1000000))
 |_,_=>true
theorem OM{l:Mj}(h:R5 l=true):xf l:=by unfold R5 at h;simp only[bA,decide_eq_true_eq] at h;refine⟨h.1,λk a b ha hb=>?_⟩;have hk:=(cr ha).1;have:=GK.1 h.2 k (List.mem_range.2 aa);rw[ha,hb] at this;simpa using this
theorem Ls:xf u7:=OM aH
structure Aae (r:Ba) (ms:Nat->I1) (N:IX):Prop where
 wf:GR r
 ne:r.L≠[]
 run:Abf r ms N
 pg:Oo r (ms r.L.length) N
 gr:Lu g0 r
 gC:r.Cards=u7
 n14:r.L.length<=14
abbrev oN3(N:IX)(n:Nat):Option Ob:=zQ (N.take n)
theorem PH{i:Ab}(so:Bg o)(h:pV o=some i):i.By=o.By/\i.Seq=o.Seq:=by obtain⟨j,e,a,b,_⟩:=wN so;grind
theorem Acn{b:Ba}(h:Lu b g)(hb:b.L=[]):∀(i:Nat) (o:Bq),g.L[i]?=some o->∃c∈g.Cards,c.Device=o.By:=by
 induction h with
 |base=>grind
 | @step g o id up row gr w sm _ e a hid hrow ih=>
  intro i d ho;have ho:(g.L++[o])[i]?=some d:=ho;rcases je ho with⟨_,h⟩|⟨_,rfl⟩
  .exact ih i d h
  .obtain⟨c,hc,_⟩:=a.card;exact⟨c,yd hc⟩
theorem Adj{cs:Mj}(h:cs.all KK=true){c:DQ}(hc:c∈cs):1<=c.Device/\c.Device<=6/\1<=c.Member/\c.Member<=3:=by grind [KK]
theorem AlP:u7.map (·.Device)=[1,2,3,4,5,6]:=aH
section
variable {r:Ba} {ms:Nat->I1} {N:IX}
theorem Afs{b:Ba}{m:I1}(w:GR r)(p:Oo r m N)(gr:Lu b r)(hb:b.L=[])(hl:r.Cards.length<=1000)(h6:r.Cards.all KK=true)(hn:(r.Cards.map (·.Device)).Nodup):Pg r m N:=by have hcd:=Acn gr hb;refine⟨w,p,λi o x ho hx=>?_,(by grind),⟨hl,λc hc=>Adj h6 hc⟩,hn⟩;grind [GR.ops,T1,FF.numbers,Bg.nGuards,VB,PH,GR.ids,On.k9,ah,Adj]
theorem AlQ(h:Aae r ms N):Pg r (ms r.L.length) N:=Afs h.wf h.pg h.gr rfl (by rw[h.gC,KL];decide) (h.gC▸Og) (by rw[h.gC,AlP];decide)
end
theorem Adk{m:I1}(P:Pg g m N)(h14:g.L.length<=15)(so:Bg o)(hk:Kn o):∃l:Bp,iV prog fI 130 [Z8 g.Cards m N,.agg (aJ o)] 3 l.length (l.flatMap cZ)/\qo g o=some l/\l.length<=12/\l.Nodup:=by
 obtain⟨i,e,hi⟩:=TU so;have hb:=PH so hi;have hg:o.Guards.length<=1000000:=by grind [Bg.nGuards]
 have:=Afp P h14 (λi o x ho hx=>(PH (P.w.ops i o ho).1 (P.w.ids i o x ho hx)).2) so hi (TP fI so e) λb=>⟨hb.1,hg,hk,b⟩;grind [Ag,RJ]
theorem AlR{r:Ba}{ms:Nat->I1}(h:Aae r ms N)(ho:r.L[k]?=some o):Bg o/\Kn o:=by obtain⟨sm,a,_⟩:=h.wf.ops k o ho;have f:=T1 a.numbers;have:=sm.nGuards;refine⟨sm,λhk=>?_⟩;grind [On,ah]
theorem AlS{x:Option α}{Q:α->Prop}(h:T x Q):T x λv=>x=some v/\Q v:=by obtain⟨v,e,q⟩:=h;exact⟨v,e,e,q⟩
theorem Iv(h:T (qo g o) λl=>l.length<=3000):T (jm g o) λl=>l.length<=200000:=by unfold jm;refine .bindc (zh _) λv1 _=> .ite (λ_=> .some aC) λ_=> .bind (h.mono λa h4=>?_);grind [cX,T.some,Od]
theorem Oh{l:Bp}(hl:l.length<=9223372036854775807)(hi:∀x∈l,c8 x){most:Int}(hm:most<=14)(hk:k<=1000)(w:GR g)(gr:Lu g0 g)(hg:g.L.length<=k):T (ly l most (g,(k:Int))) (Rd (λs'=>s'.2=((k+1:Nat):Int)/\(k:Int)<most/\GR s'.1/\Lu g0 s'.1/\(g.L≠[]->s'.1.L≠[])/\s'.1.L.length<=g.L.length+1) λv=>v=g/\(k=0->most<=0)):=by
 have e2:wI (2*(k:Int))=((2*k:Nat):Int):=by grind [bM]
 have e3:wI (((2*k:Nat):Int)+1)=((2*k+1:Nat):Int):=aq aa;have at_:∀(n:Nat) {Q:Int->Prop},(∀v,c8 v->Q v)->T (bif (n:Int)<ah l then((aS l (n:Int)).bind λp=>some p)else(some 0)) Q:=λn Q q=>by refine .dec (λhp=>?_) λ_=> .some (q 0 dP);refine .bind (.ixl aa (by unfold ah at hp;omega) λy _ hy=> .some (q y (hi y hy)))
 unfold ly;simp only[e2,e3];refine .bind (T.mono (Q:=λb:Bool=>(b=true->(k:Int)<most)/\(b=false->k=0->most<=0)) (.dec (λhp=>?_) λhp=> .some ⟨λe=>(by cases e),λ_ e=>(by subst e;exact Int.not_lt.1 hp)⟩) λb hb=> .ite (λe=>?_) λe=> .some ⟨rfl,hb.2 e⟩)
 .have:(k:Int)<most:=hp;refine .ite (λ_=> .some ⟨λ_=>this,λe=>(by cases e)⟩) λh4=> .some ⟨λ_=>this,λ_ e=>?_⟩;subst e;exact absurd h4 (λe=>Bool.noConfusion e)
 have hk':=hb.1 e;have hw:wI ((k:Int)+1)=((k+1:Nat):Int):=aq aa;refine .bind (at_ (2*k) λD t=> .bind (at_ (2*k+1) λE f=>?_));obtain⟨ms,N,u,_,_,h4⟩:=OL gr rfl rfl Ls;have P:=Afs w h4 gr rfl (by rw[u];show u7.length<=1000;rw[KL];decide) (u▸Og) (by rw[u];show(u7.map (·.Device)).Nodup;rw[AlP];decide);refine .bind (T.mono (AlS (N2 w t f)) λo ⟨z,c⟩=> .bind ((Iv (by obtain⟨_,_,e,h⟩:=Adk P aa c.nopath (Ahp f o z);exact⟨_,e,aa⟩)).mono λF H=> .bindc (uW (eX f Cd)) λI _=> .bindc (.ite (λ_=> .some trivial) λ_=> .some trivial) λJ _=> .bindc (zh _) λK _=>?_));refine .bind (T.mono (Q:=λx:List Fm=>x.length<=1000/\∀y∈x,I4 y) (T.loop (λs=>∃j:Nat,s.2=(j:Int)/\j<=5/\s.1.length<=j/\∀y∈s.1,I4 y) (λs=>6-s.2.toNat) ⟨0,rfl,aa,aC,aC⟩ aC ?_) λA B=>?_)
 .rintro⟨a,i⟩ ⟨j,rfl,hj,ha,hs⟩;simp only at ha hs;have hwj:wI ((j:Int)+1)=((j+1:Nat):Int):=aq aa;unfold lw;refine .bind (T.mono (Q:=λb:Bool=>b=true->j<5) (.ite (λ_=> .ite (λ_=> .some λe=>?_) λ_=> .some λe=>by cases e) λ_=> .some λe=>by cases e) λb hb=> .ite (λe=>?_) λ_=> .some ⟨by grind,hs⟩)
  .grind
  .have:=hb e;refine .bind (.bind (.app cq (.some (.some ⟨⟨j+1,hwj,aa,by simp;omega,λy hy=>?_⟩,?_⟩))))
   .rcases Jn.1 hy with hy|hy
    .grind
    .simp at hy;subst hy;exact⟨Mp _,aC,aC⟩
   grind
 .have so:Bg {o with Path:=A}:=He c.iBy c.iSeq c.iKind c.iAt c.sPast c.iDevice c.iOld c.iMember c.iRole B c.epoch c.iN c.nBody c.sRefs c.of_ c.sGuards c.iNeed c.iWait c.sBoxes c.pub c.sHist;refine .bind ((Io so).mono λM C=>?_);obtain⟨s,rfl,hr,hs⟩:=C;refine .bind ((QG w (so.sig s) hs).mono λm d=> .dec (λh0=> .some ⟨hw,hk',d.1,?_,?_,?_⟩) λ_=> .some ⟨hw,hk',w,gr,λh=>h,Nat.le_succ _⟩)
  .rcases d.2 with⟨h,_⟩|⟨id,up,row,_,a,hid,hrow,hg⟩
   .grind
   .show Lu g0 m.1;rw[hg];exact .step gr w (so.sig s) hr hs a hid hrow
  .rcases d.2 with⟨h,_⟩|⟨id,up,row,_,a,hid,hrow,hg⟩
   .grind
   .intro _;show m.1.L≠[];rw[hg];show g.L++[_]≠[];simp
  .rcases d.2 with⟨h,_⟩|⟨id,up,row,_,a,hid,hrow,hg⟩
   .grind
   .show m.1.L.length<=_;rw[hg];show(g.L++[_]).length<=_;simp
theorem Wf{l:Bp}(hl:l.length<=9223372036854775807)(hi:∀x∈l,c8 x){most:Int}(h0:0<most)(hm:most<=14):T (vq l most) λg=>GR g/\Lu g0 g/\g.L≠[]/\(g.L.length:Int)<=most:=by
 unfold vq r8;rw[aL,Oe,aL];unfold Jf;rw[aL];refine .bind (T.mono (Q:=λg:Ba=>GR g/\Lu g0 g/\g.L≠[]/\(g.L.length:Int)<=most) (T.loop (λs=>∃k:Nat,s.2=(k:Int)/\k<=1000/\GR s.1/\Lu g0 s.1/\(k=0->s.1=g0)/\(k≠0->s.1.L≠[])/\s.1.L.length<=k/\(k:Int)<=most) (λs=>1001-s.2.toNat) ⟨0,rfl,aa,Yu,.base,λ_=>rfl,(by grind),Nat.zero_le _,by grind⟩ aC ?_) λv hv=> .some hv);rintro⟨g,i⟩ ⟨k,rfl,hk,w,gr,hz,a,hlk,b⟩;have hlk:g.L.length<=k:=hlk;obtain⟨r,e,hr⟩:=Oh hl hi hm hk w gr hlk;refine⟨r,e,?_⟩;cases r with
 |inr v=>obtain⟨rfl,h⟩:=hr;constructor<;>grind
 |inl s=>obtain⟨h1,h2,h3,h4,h5⟩:=hr;refine⟨⟨k+1,h1,aa,h3,h4,(by grind),λ_=>?_,by grind,aa⟩,?_⟩;all_goals grind [KM]
theorem Xe{l:Bp}(hl:l.length<=9223372036854775807)(hi:∀x∈l,c8 x):∃r ms N,vq l 14=some r/\Aae r ms N:=by obtain⟨r,e,w,g,ne,hn⟩:=Wf hl hi (most:=14) Cd Cd;obtain⟨ms,N,a,_,h3,h4⟩:=OL g rfl rfl Ls;exact⟨r,ms,N,e,w,ne,h3,h4,g,a,aa⟩
section
variable {gl:CB}
abbrev DnV(gl:CB)(fi:FuncId)(fa fc:Bn)(p:Ab->Bool):Prop:=Ud prog gl fi fa fc (λx:Ab=>[.agg (aj x)]) (λx:Bool=>bG x) (λk=>some (p k))
theorem Afq{p:Ab->Bool}{fi:FuncId}{fa fc:Bn}(hv:DnV gl fi fa fc p){l:Bb}(hn:l.length<=1000000):iV prog gl 56 [aE aj l,.clo (.func fi) fa fc] 25 (l.filter p).length ((l.filter p).flatMap aj):=by
 refine OW func56 ?_;refine dLl (l:=l) aa (λk:Nat=>(s0 23 gl [(1,.clo (.func fi) fa fc),(5,.rsl 0 0 ((l.take k).filter p).length),(8,aE aj l),(9,iG (ah l)),(10,iG (k:Int))] [(0,BA ((l.take k).filter p))] 1 0)) 1110122 [] [hc hv.im,hc (ac.imm [])] (λB k x hx hz k5=>?_) (λB=>?_)
 .have hlt:=(cr hx).1;have hl:((l.take k).filter p).length<=k:=LC (M7 _ _) (by rw[MG];omega);rw[Jk,hx,Option.toList_some,Ps] at k5;generalize (l.take k).filter p=q at k5 hl⊢;have hcs:=hv.cs (c:=2) (x:=x) rfl (aY (aG 20 (.agg (aj x)) aH) bf);cases hp:p x with
  |true=>rw[hp] at hcs;rw[List.filter_cons_of_pos hp,List.filter_nil] at k5;exact jw [hr 11 (C7 hx),AH 12 (ac.ixZ hz),AH 13 (ac.ptZ aW hz),Go.Proofs.YtdpdicldkohflaaGreatDoor.hz 16 [] hcs,Tn 20 ac 24 q x aa,hbb 21 (Xl (q:=k) aa)] [hc hv.im,hc (el (q++[x])),hc (ac.imm (q++[x]))] k5
  |false=>rw[hp] at hcs;rw[List.filter_cons_of_neg (by simp[hp]),List.filter_nil,KS] at k5;exact jw [hr 11 (C7 hx),AH 12 (ac.ixZ hz),AH 13 (ac.ptZ aW hz),Go.Proofs.YtdpdicldkohflaaGreatDoor.hz 16 [] hcs,hbb 21 (Xl (q:=k) aa)] [hc hv.im,hc (el q),hc (ac.imm q)] k5
 .rw[EG];exact EI [hr 11 (DZ (s:=l))] (ac.imm (l.filter p))
section
variable {gg:Az}
theorem Adi{l:Bp}{b:Bool}{ss:LQ}(hc:ba prog gl 128 [iG o.Kind] (bG b))(hA:b=true->ba prog gl 130 [.ptr (Ag gg) 0,.agg (aJ o)] (aE cZ l))(a:b=true->ba prog gl 129 [aE cZ l,iG o.By] (aE Jc ss)):ba prog gl 60 [.ptr (Ag gg) 0,.agg (aJ o)] (aE Jc (bif b then ss else[])):=by
 refine Gh func60 ?_;cases b with
 |false=>exact Ar [hf 7 hc] []
 |true=>exact Ar [hf 7 hc,hf 11 (hA rfl),hf 14 (a rfl)] []
theorem Afr(h:Nk gl gg I)(hS:ba prog gl 60 [.ptr (Ag gg) 0,.agg (aJ (I.o x))] (aE Jc ss)):ba prog gl 16 [.ptr (Ag gg) 0,.agg (aj x)] (aE Jc (bif(I.op x).isSome then ss else[])):=by
 have ho:=h.op x;refine Gh func16 ?_;generalize (I.op x).isSome=b at ho⊢;cases b with
 |false=>exact Ar [hf 10 ho] []
 |true=>exact Ar [hf 10 ho,hf 17 hS] []
def Acj(n:Nat)(o:Bq):Bool:=bif (0:Int)<(n:Int)then decide ((n:Int)=ah o.Path)else false
theorem Ahq(h:Nk gl gg I)(hS:ba prog gl 60 [.ptr (Ag gg) 0,.agg (aJ (I.o x))] (aE Jc ss)):ba prog gl 58 [.agg (aj x),.ptr [.ptr (Ag gg) 0] 0] (bG (Acj ss.length (I.o x))):=by
 have ho:=h.op x;refine Gh func58 ?_;unfold Acj;cases c:decide ((0:Int)<(ss.length:Int)) with
 |false=>exact Ar [hf 10 ho,hf 15 hS,hr 18 c] []
 |true=>exact Ar [hf 10 ho,hf 15 hS,hr 18 c] []
theorem Ack(h:Nk gl gg I){ss:Ab->LQ}(hS:∀x,ba prog gl 60 [.ptr (Ag gg) 0,.agg (aJ (I.o x))] (aE Jc (ss x)))(hO:ba prog gl 57 [.ptr (Ag gg) 0,aE aj ids] (aE aj row))(hn:row.length<=1000):ba prog gl 14 [.ptr (Ag gg) 0,aE aj ids] (aE aj (row.filter λx=>Acj (ss x).length (I.o x))):=by have hv:DnV gl 58 [] [.ptr [.ptr (Ag gg) 0] 0] (λx=>Acj (ss x).length (I.o x)):=⟨aH,bf,aY (aG 20 (.ptr [.ptr (Ag gg) 0] 0) aH) bf,λx r e=>by cases e;exact Ahq h (hS x)⟩;have hF:=Afq hv (l:=row) aa;refine Gh func14 ?_;exact Ar [hf 7 hO,ho 9 [aE aj row,.clo (.func 58) [] [.ptr [.ptr (Ag gg) 0] 0]] [] hF (kF _)] [hc (ac.al (row.filter λx=>Acj (ss x).length (I.o x)))]
end
end
def Ajr(k:Int):Bool:=(E7 k).getD false
theorem Ae9{k:Int}(h:0<=k/\k<=13):E7 k=some (Ajr k)/\ba prog fI 128 [iG k] (bG (Ajr k)):=by
 have:k=0\/k=1\/k=2\/k=3\/k=4\/k=5\/k=6\/k=7\/k=8\/k=9\/k=10\/k=11\/k=12\/k=13:=aa;rcases this with rfl|rfl|rfl|rfl|rfl|rfl|rfl|rfl|rfl|rfl|rfl|rfl|rfl|rfl
 all_goals
  refine⟨aH,Gh func128 ?_⟩
  exact Ar [] []
def Afa(g:Ba)(o:Bq):Bp:=(qo g o).getD []
def stL(g:Ba)(o:Bq):LQ:=bif Ajr o.Kind then tpL o.By (Afa g o) else[]
theorem Afb{m:I1}(P:Pg g m N)(h14:g.L.length<=15){o:Bq}(so:Bg o)(hk:Kn o)(h13:0<=o.Kind/\o.Kind<=13):ba prog fI 60 [.ptr (Ag ⟨g.Cards,m,N⟩) 0,.agg (aJ o)] (aE Jc (stL g o))/\jm g o=some (stL g o)/\Aaa o.By (stL g o)/\ba prog fI 130 [.ptr (Ag ⟨g.Cards,m,N⟩) 0,.agg (aJ o)] (aE cZ (Afa g o))/\qo g o=some (Afa g o)/\(Afa g o).length<=12:=by
 obtain⟨l,hA,e,hl,hn⟩:=Adk P h14 so hk;obtain⟨c1,c2⟩:=Ae9 h13;have hA':ba prog fI 130 [.ptr (Ag ⟨g.Cards,m,N⟩) 0,.agg (aJ o)] (aE cZ l):=by grind [A3.fo,rZ,Ag,RJ]
 grind [Afa,stL,Adi,Ae8,jm,cX,Lx,Ae7,tpL,Aab,Ajq]
section
variable {g:Ba} {m:I1} {N:IX} (P:Pg g m N) (h14:g.L.length<=15) (hkn:∀(k:Nat) (o:Bq),g.L[k]?=some o->Kn o)
include P h14 hkn
theorem Afc(x:Ab):ba prog fI 60 [.ptr (Ag ⟨g.Cards,m,N⟩) 0,.agg (aJ ((CO g m N).o x))] (aE Jc (stL g ((CO g m N).o x)))/\Aaa x.By (stL g ((CO g m N).o x))/\(x∉g.IDs->stL g ((CO g m N).o x)=[])/\Aac g x=some (stL g ((CO g m N).o x)):=by
 have w:=P.w;have nI:=w.nI;have nL:=w.nL;by_cases hx:x∈g.IDs
 .obtain⟨i,o,e1,e2,e3,_,so,a⟩:=w.place (lj.2 hx);obtain⟨h1,h2,h3,_⟩:=Afb P h14 so (hkn i o e3) (by have:=a.kind;omega);rw[(P.op e3 e2).2];rw[<-(PH so (w.ids i o x e3 e2)).1] at h3;refine⟨h1,h3,λh=>absurd hx h,?_⟩;unfold Aac;rw[dC aa,aL,e1,show decide ((i:Int)<0)=false from Dk aa,Be,au,e3,aL,h2];rfl
 .have e:(CO g m N).o x=ip:=by unfold Gi.o;rw[Agf w P.p,jv.2 hx];rfl
  have hp:gO g x<0:=Int.not_le.1 λh=>hx (lj.1 h);have e2:stL g ip=[]:=rfl;rw[e,e2];refine⟨Adi (b:=false) (l:=[]) (ss:=[]) (Ae9 (k:=0) Cd).2 (λh=>by cases h) (λh=>by cases h),Aab,λ_=>rfl,?_⟩;unfold Aac;rw[dC aa,aL,C5 hp,ax]
theorem AlD(x:Ab):ba prog fI 16 [.ptr (Ag ⟨g.Cards,m,N⟩) 0,.agg (aj x)] (aE Jc (stL g ((CO g m N).o x))):=by
 obtain⟨h1,_,h2,_⟩:=Afc P h14 hkn x;have h:=Afr (WY (UB P.w P.p)) h1;by_cases hx:x∈g.IDs
 .obtain⟨i,o,_,e2,e3,_⟩:=P.w.place (lj.2 hx);rw[show((CO g m N).op x).isSome=true by rw[(P.op e3 e2).1];rfl] at h;exact h
 .rw[show((CO g m N).op x).isSome=false by rw[Agf P.w P.p,jv.2 hx];rfl] at h;rw[h2 hx];exact h
include P h14 hkn
def isC(g:Ba)(I:Gi)(x:Ab):Bool:=Acj (stL g (I.o x)).length (I.o x)
theorem Abd(hv:E1 g v)(a:v.Nodup):∃row:Bb,ba prog fI 14 [.ptr (Ag ⟨g.Cards,m,N⟩) 0,aE aj v] (aE aj (row.filter (isC g (CO g m N))))/\Sd g v=some (row.filter (isC g (CO g m N)))/\row.Perm v/\(row.Pairwise λx y=>Ow (CO g m N) x y<0)/\row.length<=15:=by
 have w:=P.w;have nI:=w.nI;have hI:=WY (UB w P.p);have hv14:v.length<=15:=by have:=EC a hv.sub;omega
 obtain⟨row,j,b,f⟩:=UD w P.p aa a hv.sub;have hrl:row.length<=15:=by rw[b.length_eq];exact hv14
 have hO:ba prog fI 57 [.ptr (Ag ⟨g.Cards,m,N⟩) 0,aE aj v] (aE aj row):=by obtain⟨r,e,l,q⟩:=Ut (Xf (CO g m N)) a hv14;have:r=row:=Q9 (Xf (CO g m N)).tr SN (l.trans b.symm) q f;grind [AbJ,UB,Pg.p,List.Perm.length_eq]
 refine⟨row,Ack hI (by grind [Afc]) hO aa,?_,b,f,hrl⟩;unfold Sd;rw[j,aL];refine T.eq (.bind (T.mono (T.forA (Q:=λr:Bb=>r=row.filter (isC g (CO g m N))) row.length (λk acc=>acc=(row.take k).filter (isC g (CO g m N))) aa aC (λk acc hk hj=>?_) λacc hj=>?_) λ_ h=> .some h))
 .obtain⟨x,hx⟩:∃x,row[k]?=some x:=by simp_all
  obtain⟨i,o,e1,e2,e3,_,so,s⟩:=w.place (lj.2 (hv.sub x (b.mem_iff.1 (bO hx))));obtain⟨_,hS,hl,_⟩:=Afb P h14 so (hkn i o e3) (by grind [FF]);have hl:=hl.n;have ha:acc.length<=15:=by grind
  unfold Ni;dsimp only;rw[eA hk,ax,au,hx,aL,dC aa,aL,e1,show decide ((i:Int)<0)=false from(by simp_all),Be,au,e3,aL,hS,aL];have hc:(bif 0<ah (stL g o)then(((some o:Option Bq)).bind λd=>some (decide (ah (stL g o)=ah d.Path)))else(some false))=some (isC g (CO g m N) x):=by unfold isC;rw[(P.op e3 e2).2];grind [Acj,ah]
  rw[hc,aL,Jk,hx,Option.toList_some,Ps];cases c:isC g (CO g m N) x with
  |true=>rw[ax,aL,show List.filter (isC g (CO g m N)) [x]=[x] by simp[c]];exact .bind (.app (by grind) (.some ⟨aq aa,by rw[hj]⟩))
  |false=>rw[Be,show List.filter (isC g (CO g m N)) [x]=[] by simp[c],KS];exact .some ⟨aq aa,hj⟩
 .unfold Ni;dsimp only;rw[eF,Be];exact .some (show acc=_ by grind)
end
structure AoW where
 Set:Bp
 Pub:Nat
 By:Ab
 N:Int
def Y5(set:Bp)(d:Int):Bool:=decide (d∈set)
section
variable {gl:CB}
theorem AlE{set:Bp}(hs:set.length<=1000000)(d:Int):ba prog gl 66 [aE cZ set,iG d] (bG (Y5 set d)):=DD gl (by grind [SP,Y5])
end
section
variable {g:Ba} {m:I1} {N:IX} (P:Pg g m N)
include P
end
section
variable {g:Ba} {m:I1} {N:IX} (P:Pg g m N) (h14:g.L.length<=15) (hkn:∀(k:Nat) (o:Bq),g.L[k]?=some o->Kn o)
include P h14
theorem Ajs:∃al,ba prog fI 15 [.ptr (Ag ⟨g.Cards,m,N⟩) 0] (aE aj al)/\al.Perm g.IDs/\E1 g al/\al.Nodup:=by
 have w:=P.w;have nI:=w.nI;have pl:=P.p.len;have e:Vq (λ_=>true) N=g.IDs:=by
  refine List.ext_getElem? λi=>?_;unfold Vq;rw[List.filter_eq_self.2 aC,Nd,List.getElem?_zipIdx];cases h:N[i]? with
  |none=>rw[List.getElem?_eq_none_iff] at h;exact(List.getElem?_eq_none aa).symm
  |some y=>exact(P.p.nd i y h).2.1.symm
 obtain⟨r,h1,h2,_⟩:=Ut Qh (l:=g.IDs) w.nd aa;refine⟨r,Ahe (gg:=⟨g.Cards,m,N⟩) (by show N.length<=15;omega) (by show O6 Gu (Vq _ N)=_;rw[e];exact h1) (by show r.length=(Vq _ N).length;rw[e];exact h2.length_eq),h2,⟨λx hx=>h2.mem_iff.1 hx,by rw[h2.length_eq];omega⟩,h2.nodup_iff.2 w.nd⟩
include hkn
end
section
set_option maxHeartbeats 2000000
def LR(g:Ba)(a:Ab)(b:Ab):Fl:=
 (fC g a).bind λv1=>(fC g b).bind λe=>(bif 0<=v1 then(bif 0<=e then((aS g.In (Ft e 0)).bind λc=>(aS c (Ft v1 0)).bind λd=>some d)else(some false))else(some false)).bind λf=>some f
theorem Om{g a b}:DG prog gl (LR g a b) 49 [.agg (aI g),.agg (aj a),.agg (aj b)] bG:=
 cy func49 λK=>BG 11 (dX gl) λv1=>BG 14 (dX gl) λh=>cN 11110 (sp [] [(3,.ref 0 0),(7,iG v1),(8,iG h)] [ob 0 33 (aI g)] 1) []<|cC 11110 (λe=>sk [] [(6,bG e)] [] 0) (λe=>rv K) λe f=>aF 16 (aF 20 (ak λi c=>ak λj d=>aw [AH 26 (zV.ixZ c),AH 27 (zV.p1Z Vt c),AH 30 (rO.ixZ d),AH 31 (rO.p1Z tO d)]<|rx f)<|rx f)<|rx f
end
def bj(x:Aj):Bn:=[iG x.commit.By,iG x.commit.Seq,uG x.commit.Sum,iG x.n]
theorem ee:fg prog 117=some true:=aH
def f7(x:Aj):List Value:=[.int .i64 x.commit.By,.int .i64 x.commit.Seq,.int .u64 (x.commit.Sum:Int),.int .i64 x.n]
section
variable {P:Bu}
theorem Qs{d:Nat}{xs ys us vs:Array Value}{f:Field}{fs:List Field}{r:Bool}(hn:f.name≠ "_")(hx:bt P (part f.type xs f.offset)=some (.agg us))(hy:bt P (part f.type ys f.offset)=some (.agg vs))(he:bt P (Op.equalIn d f.type (.agg us) (.agg vs))=some r):bt P (Op.eqFields d xs ys (f::fs))=if r=true then bt P (Op.eqFields d xs ys fs)else some false:=by rw[Op.eqFields,BB hn,fP hx,fP hy,fP he,Qr];cases r<;>rfl
end
theorem wy(d:Nat)(i j:Aj):bt prog (Op.equalIn (d+4) 117 (.agg (f7 i).toArray) (.agg (f7 j).toArray))=some (decide (i=j)):=by obtain⟨a0,a1⟩:=i;obtain⟨b0,b1⟩:=j;unfold f7;rw[xV (fs:= #[⟨ "commit",25,0,false, "", "huddle/hold",0⟩,⟨ "n",3,3,false, "", "huddle/hold",24⟩]) aH aH];simp only[Array.toList];rw[Qs (d:=d+3) (f:=⟨ "commit",25,0,false, "", "huddle/hold",0⟩) (fs:=[⟨ "n",3,3,false, "", "huddle/hold",24⟩]) (us:=(Pe a0).toArray) (vs:=(Pe b0).toArray) Cd aH aH (Pf d a0 b0)];rw[uJ (k:= .i64) (k':= .i64) (a:=a1) (b:=b1) Cd aH aH aH];simp only[Aj.mk.injEq];by_cases h0:a0=b0<;>by_cases h1:a1=b1<;>simp[h0,h1,Op.eqFields,bz]
theorem yV(i j:Aj){r:Bool}(h:decide (i=j)=r):∀p q:DC,b8 prog .eql 117 p q (.agg (bj i)) (.agg (bj j))=some (bG r):=λp q=>by subst h;exact Eo (us:=f7 i) (vs:=f7 j) aH aH aH (wy 9996 i j)
theorem KF(i j:Aj){r:Bool}(h:(!decide (i=j))=r):∀p q:DC,b8 prog .neq 117 p q (.agg (bj i)) (.agg (bj j))=some (bG r):=λp q=>by subst h;exact Cb (us:=f7 i) (vs:=f7 j) aH aH aH (wy 9996 i j)
def bU(x:Aj):Value:= .agg (f7 x).toArray
theorem LB:LX prog 117 bU:=Qw (d:= .struct #[⟨ "commit",25,0,false, "", "huddle/hold",0⟩,⟨ "n",3,3,false, "", "huddle/hold",24⟩]) aH (λb k=>by cases b<;>(show _=_;kernel_rfl)) (λa b=>rfl) (λa b=>wy 9996 a b)
theorem Alh(k:Aj):Instr.sameBits 10000 (bU k) (bU k)=true:=by unfold bU f7;simp[Instr.sameBits]
theorem AA:A3 prog 126 117 4 bj:=⟨aH,aH,Cd,λ_=>rfl,λ_=>rfl⟩
abbrev GI:Bk:=118
abbrev uGn(x:Nat):G:=uG x
abbrev eI(m:FM Aj Nat):Option Ob:=some (M3 GI bU uGn m)
abbrev oH(d:Int)(j:Nat):Option Ob:=some ⟨120,[iG d,.mref j],none⟩
abbrev pU(l:List Aj):Option Ob:=some ⟨117,l.flatMap bj,none⟩
theorem JH(m:FM Aj Nat):∀e∈UF bU uGn m,bB e.2.1:=Ou λv=>mN _
abbrev NR:Aj:=⟨⟨0,0,0⟩,0⟩
def O4(k:Nat):FM Aj Nat:=⟨[(NR,k,0)],1⟩
theorem Lm(d:Int)(k:Nat):jg prog gl 13 [iG d,uG k] [] 0 (.ref 0 0) [(0,oH d 1),(1,eI (O4 k))] 2:=by refine pP func13 ?_;exact Hf .ret (s0 12 gl [(4,.ref 0 0)] [(0,oH d 1),(1,eI (O4 k))] 2 0) [.ref 0 0] [] [hc (JH (O4 k))] (ρ:=[(0,1),(1,0)])
theorem RT{m:FM Aj Nat}(i:Ab)(n:Int)(p:Nat):jg prog gl 18 [.ref 0 0,.agg (aj i),iG n,uG p] [(0,oH d 1),(1,eI m)] 2 (.tup []) [(0,oH d 1),(1,eI (CA m ⟨i,n⟩ p))] 2:=by refine pP func18 ?_;exact Hf .normal (s0 16 gl [] [(0,oH d 1),(1,eI (CA m ⟨i,n⟩ p))] 2 2) [] [hmu [1] 3 (Acx (P:=prog) (σ:=[(1,eI m)]) (i:=1) (t:=GI) (t':=GI) (et:=23) (vg:=uGn) LB Alh aH (k:=⟨i,n⟩) (gk:= .agg (bj ⟨i,n⟩)) rfl (m:=m) Nw p)] [hc (JH (CA m ⟨i,n⟩ p))] (ρ:=[(0,0),(1,1)])
theorem yW{a b}:DG prog gl (wz a b) 135 [.agg (bj a),.agg (bj b)] iG:=
 cy func135 λK=>ak λv1 e2=>kV (λb3=>aw [hf 10 (cF (Hs gl e2) b3)]<|rv K) λb3=>ak λd e5=>aw [hf 10 (cF (Hs gl e2) b3)]<|kV (λc=>aw [hf 16 (cF (Hs gl e5) c)]<|rv K) λc=>aw [hf 16 (cF (Hs gl e5) c)]<|rv K
abbrev oP:G:= .clo (.func 135) [] []
theorem aa9{c d:List Aj}{i j:Int}{a b:Aj}(h1:ji l i b=some c)(h2:ji c j a=some d):fh prog 126 (.rsl 0 0 l.length) j=some (.ref 0 (0+j.toNat*4)):=by rw[hZ h1];exact AA.ixsZ 0 h2
theorem T9(h:So l=some r):jg prog gl 375 [.rsl 0 0 l.length,iG 0,iG (ah l),oP] [(0,pU l)] 1 (.tup []) [(0,pU r)] 1:=by
 unfold So at h;refine pP func375 ?_;refine pN (λs:List Aj×Int=>(s0 53 gl [(0,.rsl 0 0 s.1.length),(1,iG 0),(2,iG (ah l)),(3,oP),(8,iG s.2)] [(0,pU s.1)] 1 1)) 1122 h [] [hc (el l),hc (aG 20 oP aH),hc (AA.imm l)] (λB s w hs k5 g=>?_) [] [(0,0)] [(0,.row)];obtain⟨l1,i⟩:=s;unfold Ln at hs;dsimp only at hs;rcases bC hs with⟨b1,hs⟩|⟨b1,hs⟩
 .obtain⟨l2,e2,hs⟩:=bS hs;obtain rfl:=Bo hs;refine Ix 11221021 (s0 53 gl [(0,.rsl 0 0 l2.length),(1,iG 0),(2,iG (ah l)),(3,oP),(8,iG i)] [(0,pU l2)] 1 1) ?_ λkk=>?_
  .exact jw [] [hc (el l2),hc (aG 20 oP aH),hc (AA.imm l2)] (k5 _ rfl) [] [(0,0)] [(0,.row)]
  refine pN (λs:List Aj×Int=>(s0 53 gl [(0,.rsl 0 0 s.1.length),(1,iG 0),(2,iG (ah l)),(3,oP),(8,iG i),(9,iG s.2)] [(0,pU s.1)] 1 1)) 1122102122 e2 [hr 14 b1] [hc (el l1),hc (aG 20 oP aH),hc (AA.imm l1)] (λn z v hz k d=>?_) [] [(0,0)] [(0,.row)];obtain⟨l3,j⟩:=z;unfold GD at hz;dsimp only at hz;rcases bC hz with⟨b2,hz⟩|⟨b2,hz⟩
  .obtain⟨a,c,hz⟩:=bS hz;obtain⟨b,eb,hz⟩:=bS hz;obtain⟨o,f,hz⟩:=bS hz;rcases bC hz with⟨b3,hz⟩|⟨b3,hz⟩
   .obtain⟨m,e1,hz⟩:=bS hz;obtain⟨e,e3,hz⟩:=bS hz;obtain rfl:=Bo hz;exact jw [hr 20 b2,AH 25 (AA.ixrZ 0 c),AH 26 (AA.pt0Z ee c),AH 30 (AA.ixrZ 0 eb),AH 31 (AA.pt0Z ee eb),hf 32 (yW gl f),hr 33 b3,AH 45 (AA.ixrZ 0 eb),AH 46 (AA.pt0Z ee eb),AH 49 (AA.ixrZ 0 c),AH 50 (AA.pt0Z ee c),AH 51 (AA.ixsZ 0 e1),hw 51 (m.flatMap bj) (AA.putZ e1),AH 52 (aa9 e1 e3),hw 52 (e.flatMap bj) (AA.putZ e3)] [hc ((hZ e1).trans (hZ e3)),hc (aG 20 oP aH),hc (AA.imm e)] (k _ rfl) [] [(0,0)] [(0,.row)]
   .obtain rfl:=Bo hz;obtain rfl:=d _ rfl;exact yl 11221021 [hr 20 b2,AH 25 (AA.ixrZ 0 c),AH 26 (AA.pt0Z ee c),AH 30 (AA.ixrZ 0 eb),AH 31 (AA.pt0Z ee eb),hf 32 (yW gl f),hr 33 b3] [hc (el l3),hc (aG 20 oP aH),hc (AA.imm l3)] kk [] [(0,0)] [(0,.row)]
  .obtain rfl:=Bo hz;obtain rfl:=d _ rfl;exact yl 11221021 [hr 20 b2] [hc (el l3),hc (aG 20 oP aH),hc (AA.imm l3)] kk [] [(0,0)] [(0,.row)]
 .obtain rfl:=Bo hs;obtain rfl:=g _ rfl;exact Hf .normal (s0 53 gl [] [(0,pU l1)] 1 1) [] [hr 14 b1] [hc (AA.imm l1)] (ρ:=[(0,0)]) (kd:=[(0,.row)])
theorem Ua(hl:l.length<=12)(h:So l=some r)(k:Int):jg prog gl 322 [.rsl 0 0 l.length,iG 0,iG (ah l),iG k,oP] [(0,pU l)] 1 (.tup []) [(0,pU r)] 1:=by
 have e:wI (ah l-0)=ah l:=by rw[bM (by unfold ah;omega) (by unfold ah;omega)];omega
 have hd:decide (wI (ah l-0)<=12)=true:=by rw[e];exact C5 (by unfold ah;omega)
 refine pP func322 ?_;refine pN (λ_:Unit=>(s0 148 gl [(0,.rsl 0 0 l.length),(1,iG 0),(2,iG (ah l)),(3,iG k),(4,oP)] [(0,pU l)] 1 1)) 11122 Lg [] [hc (el l),hc (aG 20 oP aH),hc (AA.imm l)] (λa z v hz2 b c=>?_) [] [(0,0)] [(0,.row)];exact Hf .ret (s0 148 gl [] [(0,pU r)] 1 1) [] [hr 25 hd,tN 30 [0] 1 [(0,pU l)] [.rsl 0 0 l.length,iG 0,iG (ah l),oP] [(0,pU r)] (T9 gl h) ⟨⟨rfl,.inr ⟨rfl,AA.imm l⟩⟩,trivial⟩ ⟨⟨rfl,.inr ⟨rfl,AA.imm r⟩⟩,trivial⟩] [hc (AA.imm r)] (ρ:=[(0,0)]) (kd:=[(0,.row)])
theorem RU(hl:l.length<=12)(h:So l=some r):jg prog gl 234 [.rsl 0 0 l.length,oP] [(0,pU l)] 1 (.tup []) [(0,pU r)] 1:=by
 have e:wU (ah l)=l.length:=by unfold ah;rw[gP];omega
 have hb:ba prog gl 218 [uG (wU (ah l):Int)] (iG (WZ l.length:Int)):=by rw[e];exact RC gl aa
 refine pP func234 ?_;exact Hf .normal (s0 14 gl [] [(0,pU r)] 1 1) [] [AH 10 (C8 (ah l)),hf 11 hb,tN 13 [0] 1 [(0,pU l)] [.rsl 0 0 l.length,iG 0,iG (ah l),iG (WZ l.length:Int),oP] [(0,pU r)] (Ua gl hl h (WZ l.length:Int)) ⟨⟨rfl,.inr ⟨rfl,AA.imm l⟩⟩,trivial⟩ ⟨⟨rfl,.inr ⟨rfl,AA.imm r⟩⟩,trivial⟩] [hc (AA.imm r)] (ρ:=[(0,0)]) (kd:=[(0,.row)])
abbrev Xc(clock:Nat)(seen:Br):Option Ob:=some ⟨GI,[],some (.iter (some 1) clock seen clock)⟩
abbrev OJ(i:Nat):G:= .clo (.func 235) [] [.ref i 0]
abbrev C3:Option Ob:=some ⟨GI,[.mref 1],none⟩
abbrev ZI(g:G):Option Ob:=some ⟨126,[g],none⟩
abbrev KSH(m:FM Aj Nat):Type:={ks:List Aj//ks.Perm (m.es.map (·.1))}
noncomputable abbrev Ub:Code:=bq 11012 (ai Tryz.f321)
noncomputable abbrev RW(st:LoopState):Option Ob:=some ⟨0,[],some (.loop st none 13 [(2,.ref 2 0)] (Dy Ub) (Dz Ub) (DA Ub))⟩
abbrev ZJ:Fr:=[(0,.yld 3),(5,.ref 4 0)]
noncomputable abbrev σK(m:FM Aj Nat)(seen:Br)(l:List Aj):aQ:=[(0,C3),(1,eI m),(2,ZI (.rsl 5 0 l.length)),(3,RW .ready),(4,Xc m.clk seen),(5,pU l)]
abbrev ZK(x:Aj):Option Ob:=some ⟨117,bj x,none⟩
noncomputable abbrev σK2(m:FM Aj Nat)(seen:Br)(x:Aj)(a:List Aj):aQ:=[(0,C3),(1,eI m),(2,ZI (.rsl 7 0 a.length)),(3,RW .busy),(4,Xc m.clk seen),(6,ZK x),(7,pU a)]
theorem Lo{m:FM Aj Nat}(hm:FxOk m)(hn:m.es.length<=1000):Xx prog gl 321 [.lit (.slice none 0 0),OJ 0] [(0,C3),(1,eI m)] 2 (ι:=KSH m) (λx=> .rsl 2 0 x.1.length) (λx=>[(0,C3),(1,eI m),(2,pU x.1)]) (λ_=>3):=by
 refine dMF func321 ?_;refine YR [1,0,1,2] (s0 13 gl [(2,.ref 2 0),(6,OJ 0)] [(2,ZI (.lit (.slice none 0 0))),(0,C3),(1,eI m)] 3 2) [] ?_;refine Xt (fst:=[]) (cap:=[.ref 0 0]) Tryz.f235 func235 ?_;refine pO [0] (s0 14 gl [(0,.yld 3),(1,.ref 0 0)] [(0,C3),(1,eI m),(2,ZI (.lit (.slice none 0 0))),(3,RW .ready)] 4 4) [] [hc (JH m)] ?_ [] [(0,0),(1,1),(2,2),(3,3)];refine yl (Bs':=[]) [0] (J:=(s0 14 gl ZJ (σK m [] []) 6 4)) [] [hc (JH m),hc (AA.imm [])] ?_ (vs:=[117]) (ρ:=rI 6) (kd:=[(5,.row)]);refine dNx [1] ?_;refine dMw 5 6 7 0 (iti:=4) (mi:=1) (clock:=m.clk) (since:=m.clk) (T:=GI) (ty:=GI) (es:=UF bU uGn m) (λseen=>(s0 14 gl ZJ (σK m seen (ksQ m seen)) 6 4)) (KsQ m) Vv (λe he=>by obtain⟨x,hx,rfl⟩:=EH.1 he;exact hm.lt x hx) rfl (Le.refl _) (λseen=>rfl) (λseen=>rfl) (λseen=>⟨show 6<14 by decide,show 7<14 by decide⟩) (λB seen k g n hI Y6 hns c=>?_) (λseen hI hs=>?_)
 .obtain⟨e,he,d⟩:=EH.1 Y6;simp only[Fq] at d;obtain⟨rfl,rfl,rfl⟩:=d;have hl:=Aau hI;have c:=c (Vx hI he hns);rw[Aat hm he] at c;generalize ksQ m seen=l at hl c⊢;have hge:jr ((4,Xc m.clk (seen++[e.2.2]))::σK m seen l) (.ref 4 0)=some (.tup [db (bU e.1),uGn e.2.1]):=yo (iti:=4) (mi:=1) (since:=m.clk) (clock:=m.clk) (T:=GI) (ty:=GI) (seen:=seen) rfl rfl (by rw[Hi];exact hm.nd) Y6;refine pO 112211210 (s0 14 gl ((3,.ref 6 0)::ZJ) (σK m (seen++[e.2.2]) l++[(6,ZK e.1)]) 7 4) [YT 8 hge] [hc (JH m),hc (rfl:l.length=l.length),hc (AA.imm l)] ?_ [] [(0,0),(1,1),(2,2),(3,3),(4,4),(5,5),(6,6)] [(5,.row)];refine Xw (i:=3) (j:=2) (n:=13) (t:=0) (t2:=0) (pe:=none) (fr:=[(2,.ref 2 0)]) (ps:=Dy Ub) (a:=Dz Ub) (b:=DA Ub) (s1:=(s0 14 gl ([(11,.agg (bj e.1)),(10,.yld 3),(3,.ref 6 0)]++ZJ) (σK m (seen++[e.2.2]) l++[(6,ZK e.1)]) 7 4))
   (s3:=(s0 14 gl ([(13,bG false),(12,bG true),(11,.agg (bj e.1)),(10,.yld 3),(3,.ref 6 0)]++ZJ) ((3,RW .ready)::σK2 m (seen++[e.2.2]) e.1 (l++[e.1])) 8 4))
   (σK2 m (seen++[e.2.2]) e.1 (l++[e.1])) 8 (.loop .ready none 13 [(2,.ref 2 0)] (Dy Ub) (Dz Ub) (DA Ub)) [] [] ?_ ?_
  .refine C9 .normal ⟨13,gl,[(2,.ref 2 0),(5,.ref 7 0)],σK m (seen++[e.2.2]) l++[(6,ZK e.1),(7,ZK e.1)],8,7,true⟩ [] [hc (JH m),hc (rfl:l.length=l.length),hc (AA.imm l)] (Xv Tryz.f321 ?_ rfl) (ρ:=rI 8) (kd:=[(5,.row)]);exact C9 .normal ⟨13,gl,[],σK2 m (seen++[e.2.2]) e.1 (l++[e.1]),8,7,true⟩ [Tn 11 AA 32 l e.1 aa] [hc (JH m),hc (el (l++[e.1])),hc (AA.imm (l++[e.1]))] (by grind [jy]) (ρ:=rI 7++[(7,9)]) (kd:=[(7,.row)])
  .exact jw [] [hc (JH m),hc (el (l++[e.1])),hc (AA.imm (l++[e.1]))] c (ρ:=rI 5++[(5,7)]) (kd:=[(5,.row)])
 .have hp:=Abw hm hI λe he=>hs _ (EH.2 ⟨e,he,rfl⟩);generalize ksQ m seen=l at hp⊢;refine C9 .normal (s0 14 gl [] [(0,C3),(1,eI m),(2,ZI (.rsl 5 0 l.length)),(3,RW .ready),(5,pU l)] 6 4) [] [hc (JH m),hc (rfl:l.length=l.length),hc (AA.imm l)] (Xu ?_ rfl) (ρ:=rI 4++[(5,5)]) (kd:=[(5,.row)]);exact C9 .ret (s0 13 gl [(4,.rsl 2 0 l.length)] [(0,C3),(1,eI m),(2,pU l)] 3 2) [] [hc (rfl:l.length=l.length),hc (JH m),hc (AA.imm l)] (YY ⟨l,hp⟩ (Wo (gs:=[.rsl 2 0 l.length]) rfl aH rfl rfl rfl rfl)) (ρ:=[(0,0),(1,1),(2,5)]) (kd:=[(2,.row)])
theorem I3{m:FM Aj Nat}(hm:FxOk m)(hn:m.es.length<=1000):Xx prog gl 233 [OJ 0] [(0,C3),(1,eI m)] 2 (ι:=KSH m) (λx=> .rsl 2 0 x.1.length) (λx=>[(0,C3),(1,eI m),(2,pU x.1)]) (λ_=>3):=by refine dMF func233 ?_;refine pO [1,0] (s0 5 gl [(0,OJ 0)] [(0,C3),(1,eI m)] 2 2) [] [hc (JH m)] ?_ [] [(0,0),(1,1)] [(999999,.clo)];refine dCl 3 4 2 (fst:=[]) (cap:=[]) (gs:=[.lit (.slice none 0 0),OJ 0]) (U6 (g:=λx:KSH m=> .rsl 2 0 x.1.length) (c:=2) (c':=λ_=>3) (σR:=[(0,C3),(1,eI m)]) [0,1] (λx:KSH m=>[(0,C3),(1,eI m),(2,pU x.1)]) (Lo gl hm hn) ⟨⟨rfl,.inl rfl⟩,⟨rfl,rfl,rfl,rfl,.inr ⟨rfl,JH m⟩⟩,trivial⟩ (λx=>⟨⟨rfl,.inl rfl⟩,⟨rfl,rfl,rfl,rfl,.inr ⟨rfl,JH m⟩⟩,⟨rfl,.inr ⟨rfl,AA.imm x.1⟩⟩,trivial⟩) (hcov:=λ_=>rfl) (hg:=λ_=>rfl) (hc:=λ_=>rfl)) λx=>?_;exact C9 .ret (s0 5 gl [(2,.rsl 2 0 x.1.length)] [(0,C3),(1,eI m),(2,pU x.1)] 3 2) [] [hc (rfl:x.1.length=x.1.length),hc (JH m),hc (AA.imm x.1)] (YY x (Wo (gs:=[.rsl 2 0 x.1.length]) rfl aH rfl rfl rfl rfl)) (ρ:=rI 3) (kd:=[(2,.row)])
theorem Lq{m:FM Aj Nat}(hm:FxOk m)(hn:m.es.length<=12)(hs:∀a:List Aj,a.Perm (m.es.map (·.1))->So a=some srt)(hsl:srt.length=m.es.length):jg prog gl 133 [OJ 0,oP] [(0,C3),(1,eI m)] 2 (.rsl 2 0 srt.length) [(0,C3),(1,eI m),(2,pU srt)] 3:=by
 refine pP func133 ?_;refine pO [1,0] (s0 12 gl [(0,OJ 0),(1,oP)] [(0,C3),(1,eI m)] 2 2) [] [hc (JH m)] ?_ [] [(0,0),(1,1)] [(999999,.clo)];refine dCl 6 7 5 (fst:=[]) (cap:=[]) (gs:=[OJ 0]) (U6 (g:=λx:KSH m=> .rsl 2 0 x.1.length) (c:=2) (c':=λ_=>3) (σR:=[(0,C3),(1,eI m)]) [0,1] (λx:KSH m=>[(0,C3),(1,eI m),(2,pU x.1)]) (I3 gl hm aa) ⟨⟨rfl,.inl rfl⟩,⟨rfl,rfl,rfl,rfl,.inr ⟨rfl,JH m⟩⟩,trivial⟩ (λx=>⟨⟨rfl,.inl rfl⟩,⟨rfl,rfl,rfl,rfl,.inr ⟨rfl,JH m⟩⟩,⟨rfl,.inr ⟨rfl,AA.imm x.1⟩⟩,trivial⟩) (hcov:=λ_=>rfl) (hg:=λ_=>rfl) (hc:=λ_=>rfl)) λx=>?_;have hx:=hs x.1 x.2;have hxl:x.1.length<=12:=by rw[x.2.length_eq,GJ];exact hn
 have hsl:srt.length=x.1.length:=by rw[hsl,x.2.length_eq,GJ]
 rw[show(G.rsl 2 0 srt.length)= .rsl 2 0 x.1.length by rw[hsl]];exact Hf .ret (s0 12 gl [(4,.rsl 2 0 x.1.length)] [(0,C3),(1,eI m),(2,pU srt)] 3 2) [.rsl 2 0 x.1.length] [tN 10 [2] 3 [(2,pU x.1)] [.rsl 2 0 x.1.length,oP] [(0,pU srt)] (RU gl hxl hx) ⟨⟨rfl,.inr ⟨rfl,AA.imm x.1⟩⟩,trivial⟩ ⟨⟨rfl,.inr ⟨rfl,AA.imm srt⟩⟩,trivial⟩] [hc (rfl:x.1.length=x.1.length),hc (JH m),hc (AA.imm srt)] (ρ:=rI 3) (kd:=[(2,.row)])
theorem Uf(m:FM Aj Nat):jg prog gl 134 [.mref 0] [(0,eI m)] 1 (OJ 1) [(0,eI m),(1,some ⟨GI,[.mref 0],none⟩)] 2:=by refine pP func134 ?_;exact Hf .ret (s0 4 gl [(2,OJ 1)] [(0,eI m),(1,some ⟨GI,[.mref 0],none⟩)] 2 1) [OJ 1] [] [hc (JH m)] (ρ:=[(0,0),(1,1)]) (kd:=[(999999,.clo)])
theorem RZ{m:FM Aj Nat}(hm:FxOk m)(hn:m.es.length<=12)(hs:∀a:List Aj,a.Perm (m.es.map (·.1))->So a=some srt)(hsl:srt.length=m.es.length):jg prog gl 63 [.ref 0 0] [(0,oH d 1),(1,eI m)] 2 (.rsl 2 0 srt.length) [(0,oH d 1),(1,eI m),(2,pU srt)] 3:=by refine pP func63 ?_;exact Hf .ret (s0 9 gl [(2,.rsl 2 0 srt.length)] [(0,oH d 1),(1,eI m),(2,pU srt)] 3 2) [.rsl 2 0 srt.length] [tN 7 [1] 2 [(1,eI m)] [.mref 1] [(0,eI m),(1,C3)] (Uf gl m) ⟨⟨rfl,rfl,rfl,rfl,.inr ⟨rfl,JH m⟩⟩,trivial⟩ ⟨⟨rfl,rfl,rfl,rfl,.inr ⟨rfl,JH m⟩⟩,⟨rfl,.inl rfl⟩,trivial⟩,tN 8 [2,1] 3 [(2,C3),(1,eI m)] [OJ 2,oP] [(0,C3),(1,eI m),(2,pU srt)] (Lq gl hm hn hs hsl) ⟨⟨rfl,.inl rfl⟩,⟨rfl,rfl,rfl,rfl,.inr ⟨rfl,JH m⟩⟩,trivial⟩ ⟨⟨rfl,.inl rfl⟩,⟨rfl,rfl,rfl,rfl,.inr ⟨rfl,JH m⟩⟩,⟨rfl,.inr ⟨rfl,AA.imm srt⟩⟩,trivial⟩] [hc (rfl:srt.length=srt.length),hc (JH m),hc (AA.imm srt)] (ρ:=[(0,0),(1,1),(2,3)]) (kd:=[(2,.row)])
structure YF (m:FM Aj Nat) (srt:List Aj):Prop where
 ok:QN m
 n:m.es.length<=12
 sr:∀ks:List Aj,ks.Perm (m.es.map (·.1))->So ks=some srt
 len:srt.length=m.es.length
theorem YF.names{m:FM Aj Nat}{srt:List Aj}(h:YF m srt)(d:Int):jg prog gl 63 [.ref 0 0] [(0,oH d 1),(1,eI m)] 2 (.rsl 2 0 srt.length) [(0,oH d 1),(1,eI m),(2,pU srt)] 3:=RZ gl h.ok.toFxOk h.n h.sr h.len
abbrev Ug(m:FM Aj Nat):G:= .mp ((UF bU uGn m).map (·.1)) ((UF bU uGn m).map (·.2.1)) ((UF bU uGn m).map (·.2.2)) m.clk
def C4(d:Int)(x:Aj):MY:=bif x=NR then⟨1,⟨0,0,0⟩,d,0⟩ else⟨3,x.commit,x.n,0⟩
theorem R3(d:Int)(g:G)(x:Aj):ba prog gl 67 [.ptr [iG d,g] 0,.agg (bj x)] (.agg (fT (C4 d x))):=by
 refine Gh func67 ?_;unfold C4;cases c:decide (x=NR) with
 |true=>exact Ar [hV 7 (yV x NR c)] []
 |false=>exact Ar [hV 7 (yV x NR c)] []
theorem fL:A3 prog 49 53 6 fT:=⟨aH,aH,Cd,λ_=>rfl,λ_=>rfl⟩
abbrev oTm(l:List MY):Option Ob:=some ⟨53,l.flatMap fT,none⟩
abbrev σH(d:Int)(m:FM Aj Nat):aQ:=[(0,oH d 1),(1,eI m)]
theorem AdK{d:Int}{m:FM Aj Nat}:w6 (vi [0,1]) (σH d m) (σH d m) 0 [0,1]:=⟨⟨rfl,.inl rfl⟩,⟨rfl,rfl,rfl,rfl,.inr ⟨rfl,JH m⟩⟩,trivial⟩
abbrev hnm(d:Int)(D c:Nat){m:FM Aj Nat}{srt:List Aj}(h:YF m srt)(hlt:[0,1].all (λi=>Nat.blt i c)=true:=by kernel_rfl):HP:=tN D [0,1] c (σH d m) [.ref 0 0] [(0,oH d 1),(1,eI m),(2,pU srt)] (h.names gl d) AdK ⟨⟨rfl,.inl rfl⟩,⟨rfl,rfl,rfl,rfl,.inr ⟨rfl,JH m⟩⟩,⟨rfl,.inr ⟨rfl,AA.imm srt⟩⟩,trivial⟩ hlt
theorem R4{d:Int}{m:FM Aj Nat}(h:YF m srt):jg prog gl 20 [.ref 0 0] (σH d m) 2 (.rsl 2 0 (srt.map (C4 d)).length) [(0,oH d 1),(1,eI m),(2,oTm (srt.map (C4 d)))] 3:=by
 have hn:srt.length<=1000:=by have:=h.n;have:=h.len;omega
 refine pP func20 ?_;refine dLl (l:=srt) aa (λk:Nat=>(s0 21 gl [(0,.ref 0 0),(3,.rsl 3 0 ((srt.take k).map (C4 d)).length),(7,.rsl 2 0 srt.length),(8,iG (ah srt)),(9,iG (k:Int))] [(0,oH d 1),(1,eI m),(2,pU srt),(3,oTm ((srt.take k).map (C4 d)))] 4 2)) 1110122 [hnm gl d 7 2 h] [hc (el srt),hc (JH m),hc (AA.imm srt),hc (fL.imm [])] (λB k x hx hz k5=>?_) (λB=>?_) [53] [(0,0),(1,1),(2,2),(3,3)] [(2,.row),(3,.row)]
 .have hk:=(cr hx).1;have e:(srt.take (k+1)).map (C4 d)=(srt.take k).map (C4 d)++[C4 d x]:=by rw[Jk,hx,List.map_append];rfl
  have hl:((srt.take k).map (C4 d)).length<=1000:=by rw[GJ,MG];omega
  rw[e] at k5;generalize (srt.take k).map (C4 d)=l at hl k5⊢;exact jw [hr 10 (C7 hx),AH 11 (AA.ixrZ 2 hz),AH 12 (AA.pt0Z ee hz),hq 16 [.ptr [iG d,Ug m] 0,.agg (bj x)] [hc (JH m)] (R3 gl d (Ug m) x),Tn 18 fL 48 l (C4 d x) aa,hbb 19 (Xl (q:=k) aa)] [hc (el (l++[C4 d x])),hc (el srt),hc (JH m),hc (AA.imm srt),hc (fL.imm (l++[C4 d x]))] k5 [] [(0,0),(1,1),(2,2),(3,6)] [(2,.row),(3,.row)]
 .rw[EG];generalize srt.map (C4 d)=l;exact Hf .ret (s0 21 gl [(2,.rsl 2 0 l.length)] [(0,oH d 1),(1,eI m),(2,oTm l)] 3 2) [.rsl 2 0 l.length] [hr 10 (DZ (s:=srt))] [hc (el l),hc (JH m),hc (fL.imm l)] (ρ:=[(0,0),(1,1),(2,3)]) (kd:=[(2,.row)])
theorem Xd{m:FM Aj Nat}{k:Aj}{v:Nat}(h1:(m.get k).getD 0=v):bL prog [(1,eI m)] GI false (.mref 1) (.agg (bj k))=some (uGn v):=by subst h1;rw[Q2 (P:=prog) (et:=23) (vg:=uGn) (m:=m) LB aH (k:=k) rfl Nw];have h:∀σ,bL prog σ GI false (FM.g bU uGn m) (.agg (bj k))=some (uGn ((m.get k).getD 0)):=FM.look1 (et:=23) LB aH aH m k rfl;exact h _
def mg(s:Nat):Fo:=j7 37 s
theorem yv{s r:Nat}(h:mg s=some r):ba prog gl 54 [uG s] (uG r):=by refine Gh func54 ?_;exact Ar [hf 4 (mX gl h)] []
def MZ(m:FM Aj Nat)(srt:List Aj)(pub:Nat)(k:Nat):Option (Nat⊕(Unit⊕Nat)):=match srt[k]? with
 |none=>some (.inr (.inl ()))
 |some x=>(mg ((m.get x).getD 0)).bind λq=>bif (q:Int)=(pub:Int)then some (.inr (.inr ((m.get x).getD 0)))else some (.inl (k+1))
theorem Uh{d:Int}{m:FM Aj Nat}(h:YF m srt){pub:Nat}{x:Unit⊕Nat}{a:Nat}{is:Bool}(b:AQ (MZ m srt pub) 0=some x)(h1:x= .inl ()->a=0/\is=false)(h2:∀v,x= .inr v->a=v/\is=true):jg prog gl 53 [.ref 0 0,uG pub] (σH d m) 2 (.tup [uG a,bG is]) (σH d m) 2:=by
 have hn:srt.length<=1000:=by have:=h.n;have:=h.len;omega
 refine pP func53 ?_;refine pN (λk:Nat=>(s0 28 gl [(0,.ref 0 0),(1,uG pub),(10,.rsl 2 0 srt.length),(11,iG (ah srt)),(12,iG (k:Int))] [(0,oH d 1),(1,eI m),(2,pU srt)] 3 2)) 110122 b [hnm gl d 10 2 h] [hc (el srt),hc (JH m),hc (AA.imm srt)] (λB k v hs k5 c=>?_) [] [(0,0),(1,1),(2,2)] [(2,.row)];unfold MZ at hs;cases hx:srt[k]? with
 |none=>rw[hx] at hs;obtain rfl:=Bo hs;obtain⟨rfl,rfl⟩:=h1 (c _ rfl).symm;have:srt.length<=k:=List.getElem?_eq_none_iff.1 hx;exact Hf .ret (s0 28 gl [(4,uG (0:Nat)),(5,bG false)] (σH d m) 2 2) [uG (0:Nat),bG false] [hr 13 (show decide ((k:Int)<(srt.length:Int))=false from Dk aa)] [hc (JH m)] (ρ:=[(0,0),(1,1)])
 |some y=>
  rw[hx] at hs;have hz:=Bt hx;have hk:=(cr hx).1;obtain⟨q,e,hs⟩:=bS hs;rcases bC hs with⟨b1,hs⟩|⟨b1,hs⟩
  .obtain rfl:=Bo hs;obtain⟨rfl,rfl⟩:=h2 _ (c _ rfl).symm;exact Hf .ret (s0 28 gl [(4,uG ((m.get y).getD 0:Nat)),(5,bG true)] (σH d m) 2 2) [uG ((m.get y).getD 0:Nat),bG true] [hr 13 (C7 hx),AH 14 (AA.ixrZ 2 hz),AH 15 (AA.pt0Z ee hz),hlk 21 (Xd (m:=m) (k:=y) rfl),hf 23 (yv gl e),hr 25 b1] [hc (JH m)] (ρ:=[(0,0),(1,1)])
  .obtain rfl:=Bo hs;exact jw [hr 13 (C7 hx),AH 14 (AA.ixrZ 2 hz),AH 15 (AA.pt0Z ee hz),hlk 21 (Xd (m:=m) (k:=y) rfl),hf 23 (yv gl e),hr 25 b1,hbb 27 (Xl (q:=k) aa)] [hc (el srt),hc (JH m),hc (AA.imm srt)] (k5 _ rfl) [] [(0,0),(1,1),(2,2)] [(2,.row)]
section
set_option maxHeartbeats 2000000
theorem O9:fg prog 53=some true:=aH
def vM(x:MY):List Value:=[.int .i64 x.Kind,.int .i64 x.Of.By,.int .i64 x.Of.Seq,.int .u64 (x.Of.Sum:Int),.int .i64 x.N,.int .i64 x.M]
theorem Pl(d:Nat)(i j:MY):bt prog (Op.equalIn (d+4) 53 (.agg (vM i).toArray) (.agg (vM j).toArray))=some (decide (i=j)):=by obtain⟨a0,a1,a2,a3⟩:=i;obtain⟨b0,b1,b2,b3⟩:=j;unfold vM;rw[xV (fs:= #[⟨ "Kind",3,0,false, "", "",0⟩,⟨ "Of",25,1,false, "", "",8⟩,⟨ "N",3,4,false, "", "",32⟩,⟨ "M",3,5,false, "", "",40⟩]) aH aH];simp only[Array.toList];rw[uJ (k:= .i64) (k':= .i64) (a:=a0) (b:=b0) Cd aH aH aH];rw[Qs (d:=d+3) (f:=⟨ "Of",25,1,false, "", "",8⟩) (fs:=[⟨ "N",3,4,false, "", "",32⟩,⟨ "M",3,5,false, "", "",40⟩]) (us:=(Pe a1).toArray) (vs:=(Pe b1).toArray) Cd aH aH (Pf d a1 b1)];rw[uJ (k:= .i64) (k':= .i64) (a:=a2) (b:=b2) Cd aH aH aH];rw[uJ (k:= .i64) (k':= .i64) (a:=a3) (b:=b3) Cd aH aH aH];simp only[MY.mk.injEq];by_cases h0:a0=b0<;>by_cases h1:a1=b1<;>by_cases h2:a2=b2<;>by_cases h3:a3=b3<;>simp[h0,h1,h2,h3,Op.eqFields,bz]
theorem LK(i j:MY){r:Bool}(h:(!decide (i=j))=r):∀p q:DC,b8 prog .neq 53 p q (.agg (fT i)) (.agg (fT j))=some (bG r):=λp q=>by subst h;exact Cb (us:=vM i) (vs:=vM j) aH aH aH (Pl 9996 i j)
def R6(g:Ba)(device:Int)(v1:Bb)(s3:Ab×Int):Option ((Ab×Int)⊕((Int×Int×Nat)⊕(Ab×Bool))):=
 bif s3.2<ah v1 then((aS v1 s3.2).bind λb=>(qR g b).bind λc=>(aS g.L c).bind λd=>(LJ d).bind λa=>(bif 0<a then(some (decide (a=device)))else(some false)).bind λe=>bif e then((aS v1 s3.2).bind λf=>some (.inr (.inr (f,true))))else(some (.inl (s3.1,wI (s3.2+1)))))else(some (.inr (.inl (s3.1.By,s3.1.Seq,s3.1.Sum))))
def Vm(g:Ba)(ids:Bb)(device:Int):Option (Ab×Bool):=
 (n8 g ids).bind λv1=>(AQ (R6 g device v1) (⟨0,0,0⟩,0)).bind λa=>ma a (λb=>some (⟨0,0,0⟩,false)) (λq=>some q)
theorem Ab1{g ids device}:DG prog gl (Vm g ids device) 48 [.agg (aI g),aE aj ids,iG device] (λr=> .tup [.agg (aj r.1),bG r.2]):=
 cy func48 λK=>ak λv1 e2=>aw [hf 13 (ac.fo (G7 gl e2))]<|qf 11101 1110122 (λa=>sp [] [(6,.ref 0 0)] [ob 0 25 (aj (⟨a.1,a.2.1,a.2.2⟩:Ab))] 1) (λs3=>sp [2] [(3,.ref 0 0),(6,.ref 1 0),(8,aE aj v1),(9,iG s3.2)] [ob 0 33 (aI g),ob 1 25 (aj s3.1)] 2) [] K (λa=>aP c0 K []) λs3 j k6 k8=>aF 17 (ak λk c=>ak λl e16=>ak λm d=>ak λh i=>aw [AH 25 (ac.ixZ c),AH 26 (ac.ptZ aW c),hf 27 (yG gl e16),AH 28 (eJ.ixZ d),AH 29 (eJ.ptZ GN d),hf 30 (Pk gl i)]<|cN 111012210210 (sf [] [(10,iG h)]) []<|cC 111012210210 (λb=>sf [10] [(37,bG b)]) (λb=>eH [37] (ak λn e=>aw [AH 40 (ac.ixZ e),AH 41 (ac.ptZ aW e)]<|aP c3 k8 [])<|cj j []) λb f=>aF 32 (aA c0 f [])<|aA c0 f [])<|aA c2 k6 [] (ρ:=[(0,1)])
def Lz(g:Ba)(b:Ab)(k:Bp)(c:Int)(a:Bool×Int):Option ((Bool×Int)⊕(Bool)):=
 bif a.2<ah g.IDs then((aS g.IDs a.2).bind λd=>(aS k c).bind λe=>(bif a.1 then(some true)else(bif d.By=e then((aS g.IDs a.2).bind λf=>bif f=b then(some true)else((aS g.IDs a.2).bind λh=>(LR g b h).bind λi=>some i))else(some false))).bind λj=>some (.inl (j,wI (a.2+1))))else(some (.inr a.1))
def LA(g:Ba)(c:Ab)(d:Bp)(b:Int):Option ((Int)⊕(Unit⊕Bool)):=
 bif b<ah d then((xt g).bind λe=>(aS d b).bind λf=>(Vm g e f).bind λa=>((aS d b).bind λh=>bif h=c.By then(some true)else(bif a.2 then(bif a.1=c then(some true)else(bif a.2 then((LR g c a.1).bind λi=>some i)else(some false)))else(bif a.2 then((LR g c a.1).bind λj=>some j)else(some false)))).bind λk=>(AQ (Lz g c d b) (k,0)).bind λl=>bif(!l)then(some (.inr (.inr false)))else(some (.inl (wI (b+1)))))else(some (.inr (.inl ())))
def Nn(g:Ba)(a:Ab):Fl:=
 (fC g a).bind λv1=>bif v1<0 then(some false)else((xt g).bind λd=>(zY g d).bind λe=>(lu e).bind λf=>(AQ (LA g a f) 0).bind λb=>ma b (λc=>some true) (λq=>some q))
theorem aaZ{g id_}:DG prog gl (Nn g id_) 9 [.agg (aI g),.agg (aj id_)] bG:=
 cy func9 λK=>ak λv1 e2=>aw [hf 14 (dX gl e2)]<|aF 15 (aP c0 K [])<|ak λO e5=>ak λP e7=>ak λD E=>aw [hf 18 (ac.fo (DK gl e5)),hf 19 (Jh gl e7),hf 20 (rZ.fo (Dc gl E))]<|qf 111101 11110122 (λi=>sg [] []) (λj=>sp [] [(2,.ref 0 0),(3,.ref 1 0),(5,aE cZ D),(6,iG j)] [ob 0 33 (aI g),ob 1 25 (aj id_)] 2) [] K (λi=>aP c0 K []) λj s k13 t=>aF 24 (ak λF u=>ak λH k=>ak λc v=>aw [hf 30 (ac.fo (DK gl u)),AH 33 (rZ.ixZ k),AH 34 (rZ.p1Z tZ k),hf 35 (Ab1 gl v)]<|cN 1111012210210 (so [] [(7,.ref 2 0),(8,bG c.2)] [ob 2 25 (aj c.1)] 3) []<|cC 1111012210210 (λd=>sx [7,8] [(9,bG d)] [ob 0 33 (aI g),ob 1 25 (aj id_)] 2) (λd=>rdL 111101221021101 11110122102110122 (λl=>sf [] [(9,bG l)]) (λe=>sf [] [(9,bG e.1),(10,iG e.2)]) [] (λl=>aF 104 (aP c3 t [])<|cj s []) λe w x=>aF 66 (ak λy m=>ak λz n=>aw [AH 72 (ac.ixZ m),AH 74 (ac.fdZ tZ 0 m),AH 77 (rZ.ixZ n),AH 78 (rZ.p1Z tZ n)]<|cN 111101221021101221021 (sf [] [(11,bG (decide (y.By=z)))]) []<|cC 111101221021101221021 (λf=>sf [11] [(9,bG f)]) (λf=>cj w []) λf b=>aF 80 (aA c0 b [])<|aF 82 (ak λo p=>aw [AH 87 (ac.ixZ p),AH 88 (ac.ptZ aW p)]<|kV (λh=>aw [hV 90 (cV (dU o id_ rfl) h)]<|aA c0 b []) λh=>ak λI q=>ak λJ A=>aw [hV 90 (cV (dU o id_ rfl) h),AH 97 (ac.ixZ q),AH 98 (ac.ptZ aW q),hf 99 (Om gl A)]<|aA c0 b [])<|aA c0 b [])<|aA c1 x []) λd a=>ak λL r=>aw [AH 40 (rZ.ixZ r),AH 41 (rZ.p1Z tZ r)]<|aF 44 (aA c0 a [])<|aF 46 (aw [hV 50 (dU c.1 id_ rfl)]<|aF 52 (aA c0 a [])<|aF 54 (ak λM B=>aw [hf 59 (Om gl B)]<|aA c0 a [])<|aA c0 a [])<|aF 54 (ak λN C=>aw [hf 59 (Om gl C)]<|aA c0 a [])<|aA c0 a [])<|aA c2 k13 []
def gX(a:List MY)(b:List MY)(s2:Int):Option ((Int)⊕(Unit⊕Bool)):=
 bif s2<ah a then((aS a s2).bind λc=>(aS b s2).bind λd=>bif(!decide (c=d))then(some (.inr (.inr false)))else(some (.inl (wI (s2+1)))))else(some (.inr (.inl ())))
def pi(a:List MY)(b:List MY):Fl:=
 bif ah a≠ah b then(some false)else((AQ (gX a b) 0).bind λc=>ma c (λd=>some true) (λq=>some q))
theorem zx{a b}:DG prog gl (pi a b) 31 [aE fT a,aE fT b] bG:=
 cy func31 λK=>aF 10 (aP c0 K [])<|qf 11101 1110122 (λh=>sg [] []) (λs2=>sf [] [(5,iG s2)]) [] K (λh=>aP c0 K []) λs2 k6 k5 i=>aF 14 (ak λd e=>ak λf g=>aw [AH 19 (fL.ixZ e),AH 20 (fL.ptZ O9 e),AH 23 (fL.ixZ g),AH 24 (fL.ptZ O9 g)]<|kV (λc=>aw [hV 25 (cV (LK d f rfl) c)]<|aP c3 i []) λc=>aw [hV 25 (cV (LK d f rfl) c)]<|cj k6 [])<|aA c2 k5 []
end
section
variable {P:Bu} [M:Mix P] {st:St} {Q:Exit->St->Prop}
theorem AdE{s:St}{i:Nat}{σ2:aQ}{c2:Nat}{d:Qt}{t2:Bk}{ls:LoopState}{pe:Option Code}{b:Code}(he:ex= .ret)(hgl:s.gl=st.gl)(ho:ag s.σ i=some ⟨t2,[],some (.loop ls pe n fr ps a b)⟩)(e: .loop .done (some .ret) n fr ps a b=d)(f:s.σ=σ2)(hc:s.c=c2):rE P st i (Tx σ2 c2 d t2) ex s:=
 ⟨hgl,some .ret,t2,ls,pe,n,fr,ps,a,b,by rw[he];rfl,ho,by rw[<-e];rfl,e,rfl,f,hc⟩
section
attribute [local semireducible] Tr dz Gp
theorem Vc{Q:Exit->St->Prop}{s:St}(h:Q .ret s):∀K:List Kf,dz P K Q .ret s
 |[]=>⟨s,Le.refl _,h⟩
 | .thn _::K=>by have:=Vc h K;unfold dz uE;exact this
 | .blk _::K=>by have:=Vc h K;unfold dz pu;exact this
 | .lp _::K=>by have:=Vc h K;unfold dz uE;exact this
end
theorem AeH{s:St}{t:Bk}{b:Code}{K:List Kf}(he:tc ex=true)(hgl:s.gl=st.gl)(ho:ag s.σ st.c=some ⟨t,[],some (.loop .done (some .ret) n fr ps a b)⟩)(h:Q .ret {st with σ:=(st.c,none)::(st.c,some ⟨t,[],some (.loop .exhausted (some .ret) n fr ps a b)⟩)::s.σ,c:=s.c}):sI P st (dz P K Q) ex s:=
 ⟨eO he,hgl,t,.done,some .ret,n,fr,ps,a,b,ho,(λe=>by cases e),PW (Vc h K)⟩
end
def cmT(I:Gi)(row:Bb)(d:Int)(k:Nat):Option (Nat⊕(Ab×Bool)):=
 bif k<row.length then(row[k]?).bind λx=>bif LL (I.o x)=some d then some (.inr (x,true))else some (.inl (k+1))else some (.inr (⟨0,0,0⟩,false))
section
variable {gl:CB} {gg:Az}
abbrev oDe(d:Int):Option Ob:=some ⟨3,[iG d],none⟩
abbrev oBv(b:Bool):Option Ob:=some ⟨4,[bG b],none⟩
noncomputable abbrev cCm:Code:=bq 11012 (ai Tryz.f43)
abbrev aaX:Fr:=[(5,.ref 0 0),(6,.ref 1 0),(7,.ref 2 0)]
noncomputable abbrev YB(st:LoopState)(q:Option Code):Option Ob:=some ⟨0,[],some (.loop st q 20 aaX (Dy cCm) (Dz cCm) (DA cCm))⟩
abbrev Alc(gg:Az)(row:Bb)(k:Nat):Fr:=[(0,.yld 3),(1,.ptr [.ptr (Ag gg) 0] 0),(11,aE aj row),(12,iG (ah row)),(13,iG (k:Int))]
noncomputable abbrev σCm(d:Int):aQ:=[(0,oDe d),(1,O7 ⟨0,0,0⟩),(2,oBv false),(3,YB .ready none)]
noncomputable abbrev Ai4(gl:CB)(gg:Az)(row:Bb)(d:Int)(k:Nat):St:=(s0 40 gl (Alc gg row k) (σCm d) 4 4)
noncomputable abbrev YC(gl:CB)(gg:Az)(row:Bb)(d:Int)(k:Nat)(x:Ab)(e:Int):St:=(s0 40 gl ((5,.ref 4 0)::(8,iG e)::Alc gg row k) (σCm d++[(4,O7 x)]) 5 4)
abbrev ρM3:DF:=[(0,0),(1,1),(2,2),(3,3)]
abbrev ρM4:DF:=[(0,0),(1,1),(2,2),(3,3),(4,4)]
theorem AeI(h:Nk gl gg I)(hO:ba prog gl 57 [.ptr (Ag gg) 0,aE aj ids] (aE aj row))(hn:row.length<=1000){r:Ab×Bool}(hr0:AQ (cmT I row d) 0=some r):ba prog gl 43 [.ptr (Ag gg) 0,aE aj ids,iG d] (.tup [.agg (aj r.1),bG r.2]):=by
 refine Gh func43 ?_;refine YR [1,0,1,2] (s0 20 gl (aaX++[(12,Agn gg ids)]) [(2,oBv false),(1,O7 ⟨0,0,0⟩),(0,oDe d)] 3 0) [hf 12 (Ady (gl:=gl) (gg:=gg) ids)] ?_;refine Xt (fst:=[]) (cap:=[.ptr [.ptr (Ag gg) 0] 0,.ptr [aE aj ids] 0]) Tryz.f188 func188 ?_;refine pN (λk:Nat=>Ai4 gl gg row d k) [1,2,2] hr0 [hf 11 hO] [] (λB k w hs k5 g=>?_) (ρ:=ρM3) (kd:=[]);unfold cmT at hs;rcases bC hs with⟨b0,hs⟩|⟨b0,hs⟩
 .have hlt:=DS b0;obtain⟨x,hx,hs⟩:=bS hs;have f:=Bt hx;have ho:=h.op x;have hb2:k<1000000:=aa;have fin:∀e,LL (I.o x)=some e->Gp prog Tryz.f188 (sI prog (s0 20 gl (aaX++[(12,Agn gg ids)]) [(2,oBv false),(1,O7 ⟨0,0,0⟩),(0,oDe d)] 3 0) (dz prog (bE [1,0,1,2] (ai Tryz.f43) [] []) (tH prog Tryz.f43 (.tup [.agg (aj r.1),bG r.2])))) [B] false [1,2,2,1,1,0,2,1,1,1,1,0] (YC gl gg row d k x e):=λe he=>by
   rw[he] at hs;rcases bC hs with⟨c1,hs⟩|⟨c1,hs⟩
   .obtain rfl:=Bo hs;obtain rfl:=g _ rfl;obtain rfl:=Bo (DS c1);have c2:decide (e=e)=true:=C5 rfl;refine Xw (i:=3) (j:=3) (n:=20) (t:=0) (t2:=0) (pe:=none) (fr:=aaX) (ps:=Dy cCm) (a:=Dz cCm) (b:=DA cCm) (s1:=(s0 40 gl ([(36,iG e),(35,.agg (aj x)),(34,.yld 3)]++(YC gl gg row e k x e).fr) ((YC gl gg row e k x e).σ) 5 4))
     (s3:=(s0 40 gl ([(38,bG true),(37,bG false),(36,iG e),(35,.agg (aj x)),(34,.yld 3)]++(YC gl gg row e k x e).fr) ((3,YB .done (some .ret))::[(0,oDe e),(1,O7 x),(2,oBv true),(3,YB .busy none)]) 5 4))
     [(0,oDe e),(1,O7 x),(2,oBv true),(3,YB .busy none)] 5 (.loop .done (some .ret) 20 aaX (Dy cCm) (Dz cCm) (DA cCm)) [] [] ?_ ?_
    .refine C9 .normal ⟨20,gl,aaX++[(8,.ref 5 0),(9,iG e)],σCm e++[(5,O7 x)],6,5,true⟩ [] [] (Xv Tryz.f43 ?_ rfl) (ρ:=ρM4++[(5,5)]) (kd:=[]);exact C9 .ret ⟨20,gl,[],[(0,oDe e),(1,O7 x),(2,oBv true),(3,YB .busy none)],5,5,true⟩ [hr 17 c2] [] (AdE rfl rfl rfl rfl rfl rfl) (ρ:=ρM4) (kd:=[])
    .exact C9 .ret (s0 40 gl [] [(0,oDe e),(1,O7 x),(2,oBv true),(3,YB .done (some .ret))] 4 4) [] [] (AeH rfl rfl rfl (by unfold tH;exact⟨.inr rfl,[.agg (aj x),bG true],aH,jB (aG 20 _ aH)⟩)) (ρ:=ρM3) (kd:=[])
   .obtain rfl:=Bo hs;have c2:decide (e=d)=false:=Dk λc=>Mu c1 (by rw[c]);have k5:=k5 _ rfl;refine Xw (i:=3) (j:=3) (n:=20) (t:=0) (t2:=0) (pe:=none) (fr:=aaX) (ps:=Dy cCm) (a:=Dz cCm) (b:=DA cCm) (s1:=(s0 40 gl ([(36,iG e),(35,.agg (aj x)),(34,.yld 3)]++(YC gl gg row d k x e).fr) ((YC gl gg row d k x e).σ) 5 4))
     (s3:=(s0 40 gl ([(38,bG false),(37,bG true),(36,iG e),(35,.agg (aj x)),(34,.yld 3)]++(YC gl gg row d k x e).fr) ((3,YB .ready none)::[(0,oDe d),(1,O7 ⟨0,0,0⟩),(2,oBv false),(3,YB .busy none)]) 5 4))
     [(0,oDe d),(1,O7 ⟨0,0,0⟩),(2,oBv false),(3,YB .busy none)] 5 (.loop .ready none 20 aaX (Dy cCm) (Dz cCm) (DA cCm)) [] [] ?_ ?_
    .refine C9 .normal ⟨20,gl,aaX++[(8,.ref 5 0),(9,iG e)],σCm d++[(5,O7 x)],6,5,true⟩ [] [] (Xv Tryz.f43 ?_ rfl) (ρ:=ρM4++[(5,5)]) (kd:=[]);exact C9 .normal ⟨20,gl,[],[(0,oDe d),(1,O7 ⟨0,0,0⟩),(2,oBv false),(3,YB .busy none)],5,5,true⟩ [hr 17 c2] [] (jy rfl rfl rfl rfl rfl rfl) (ρ:=ρM4) (kd:=[])
    .exact jw (J:=Ai4 gl gg row d (k+1)) [hbb 39 (Xl (q:=k) aa)] [] k5 [] ρM3 []
  generalize I.o x=o at ho hs fin;unfold LL at hs fin;cases b1:decide (o.Kind=1) with
  |true=>exact pO 1122110211110 (YC gl gg row d k x o.By) [hr 14 (C7 hx),AH 15 (ac.ixZ f),AH 16 (ac.ptZ aW f),hf 20 ho,hr 26 b1] [] (fin _ (by rw[b1];rfl)) [] ρM4 []
  |false=>
   cases b2:decide (o.Kind=2) with
   |true=>exact pO 1122110211110 (YC gl gg row d k x o.Device) [hr 14 (C7 hx),AH 15 (ac.ixZ f),AH 16 (ac.ptZ aW f),hf 20 ho,hr 26 b1,hr 30 b2] [] (fin _ (by rw[b1,b2];rfl)) [] ρM4 []
   |false=>
    cases b3:decide (o.Kind=13) with
    |true=>exact pO 1122110211110 (YC gl gg row d k x o.Device) [hr 14 (C7 hx),AH 15 (ac.ixZ f),AH 16 (ac.ptZ aW f),hf 20 ho,hr 26 b1,hr 30 b2,hr 31 b3] [] (fin _ (by rw[b1,b2,b3];rfl)) [] ρM4 []
    |false=>
     rw[b1,b2,b3] at hs;have hs:some (Sum.inl (k+1))=some w:=by simpa using hs
     obtain rfl:=Bo hs;exact jw (J:=Ai4 gl gg row d (k+1)) [hr 14 (C7 hx),AH 15 (ac.ixZ f),AH 16 (ac.ptZ aW f),hf 20 ho,hr 26 b1,hr 30 b2,hr 31 b3,hbb 39 (Xl (q:=k) aa)] [] (k5 _ rfl) [] ρM3 []
 .obtain rfl:=Bo hs;obtain rfl:=g _ rfl;have b1:decide ((k:Int)<ah row)=false:=Dk λc=>Mu b0 (by unfold ah at c;omega);refine C9 .normal (s0 40 gl [] (σCm d) 4 4) [hr 14 b1] [] (Xu ?_ rfl) (ρ:=ρM3) (kd:=[]);exact Ar [] []
end
theorem Ai6(hn:row.length<=1000):AQ (cmT I row d) 0=some (match row.find? λx=>decide (LL (I.o x)=some d) with
 |some x=>(x,true)
 |none=>(⟨0,0,0⟩,false)):=by
 have key:T (AQ (cmT I row d) 0) λr=>r=(match row.find? λx=>decide (LL (I.o x)=some d) with
  |some x=>(x,true)
  |none=>(⟨0,0,0⟩,false)):=by
  refine T.loop (λk=>k<=row.length/\row.find? (λx=>decide (LL (I.o x)=some d))=(row.drop k).find? (λx=>decide (LL (I.o x)=some d))) (λk=>row.length-k) ⟨Nat.zero_le _,rfl⟩ (by show row.length-0<_;omega) ?_
  rintro k ⟨h1,h2⟩
  unfold cmT
  refine .dec (λhlt=>?_) λhge=>?_
  .obtain⟨x,hx⟩:∃x,row[k]?=some x:=⟨_,EA hlt⟩
   rw[hx,aL]
   have e:row.drop k=x::row.drop (k+1):=by obtain⟨h3,h4⟩:=cr hx;rw[<-h4];exact List.drop_eq_getElem_cons h3
   rw[e,List.find?_cons] at h2
   refine .dec (λhc=> .some ?_) λhc=> .some ⟨⟨aa,?_⟩,aa⟩
   .rw[h2,C5 hc];rfl
   .rw[h2,Dk hc]
  .have:row.drop k=[]:=List.drop_eq_nil_of_le aa
   rw[this] at h2
   rw[h2]
   exact .some rfl
 exact key.eq
def Ly(I:Gi)(id x:Ab):Bool:=bif x=id then true else I.bef id x
def Ll(I:Gi)(id:Ab)(l:Bb):FM Int Bool:=l.foldl (λm x=>bif Ly I id x then CA m x.By true else m) (CA ⟨[],0⟩ id.By true)
def YD(I:Gi)(row:Bb)(d:Int):Ab×Bool:=match row.find? λx=>decide (LL (I.o x)=some d) with
 |some x=>(x,true)
 |none=>(⟨0,0,0⟩,false)
def Pp(I:Gi)(id:Ab)(row:Bb)(seen:FM Int Bool)(d:Int):Bool:=bif EQ (seen.get d)then false else bif(YD I row d).2 then !Ly I id (YD I row d).1 else true
section
variable {gl:CB} {gg:Az} {I:Gi}
abbrev bxG(gg:Az):G:= .ptr [.ptr (Ag gg) 0] 0
abbrev cS1(gg:Az)(id:Ab):G:= .clo (.func 38) [] [.ptr (aj id) 0,bxG gg]
theorem AcX(h:Nk gl gg I)(id x:Ab):ba prog gl 38 [.agg (aj x),.ptr (aj id) 0,bxG gg] (bG (Ly I id x)):=by
 have hb:=h.bef id x;unfold Ly;refine Gh func38 ?_;cases c1:decide (x=id) with
 |true=>exact Ar [hV 7 (dU x id c1)] []
 |false=>exact Ar [hV 7 (dU x id c1),hf 12 hb] []
abbrev mpG(m:FM Int Bool):G:=FM.g Jo bG m
theorem AgT(h:Nk gl gg I)(a:∀d,ba prog gl 43 [.ptr (Ag gg) 0,aE aj ids,iG d] (.tup [.agg (aj (YD I row d).1),bG (YD I row d).2]))(id:Ab)(seen:FM Int Bool)(d:Int):ba prog gl 42 [iG d,bxG gg,.ptr [aE aj ids] 0,.ptr [mpG seen] 0,.ptr [cS1 gg id] 0] (bG (Pp I id row seen d)):=by
 have a:=a d;unfold Pp;generalize YD I row d=q at a;obtain⟨x,b⟩:=q;dsimp only at a⊢;have hs:=AcX h id x;have hl:=QK seen d;refine Gh func42 ?_;cases c1:EQ (seen.get d) with
 |true=>rw[c1] at hl;exact Ar [hf 13 a,hm 18 hl] []
 |false=>
  rw[c1] at hl;cases b with
  |false=>exact Ar [hf 13 a,hm 18 hl] []
  |true=>exact Ar [hf 13 a,hm 18 hl,hf 25 hs] []
end
abbrev mpQ(m:FM Int Bool):G:= .mp ((UF Jo bG m).map (·.1)) ((UF Jo bG m).map (·.2.1)) ((UF Jo bG m).map (·.2.2)) m.clk
theorem Ai7(m:FM Int Bool):mpG m=mpQ m:=by unfold mpG mpQ FM.g;rw[Hi,Hi,Hi];rfl
abbrev AgU(m:FM Int Bool):Option Ob:=some (M3 87 Jo bG m)
abbrev obS:Option Ob:=some ⟨87,[.mref 0],none⟩
abbrev frS(gg:Az)(id:Ab)(ids:Bb):Fr:=[(2,bxG gg),(3,.ptr (aj id) 0),(5,.ptr [aE aj ids] 0),(6,.ref 1 0),(7,.ptr [cS1 gg id] 0)]
theorem AdF(h:Nk fI gg I)(hA:ba prog fI 15 [.ptr (Ag gg) 0] (aE aj ids))(hn:ids.length<=1000)(hR:Bj R)(c:TG prog fI 40 [.ptr (Ag gg) 0,aE aj ids] [] 0 0 (.ref 0 0) (BW f0 R))(g:∀d,ba prog fI 43 [.ptr (Ag gg) 0,aE aj ids,iG d] (.tup [.agg (aj (YD I row d).1),bG (YD I row d).2]))(id:Ab):ba prog fI 8 [.ptr (Ag gg) 0,.agg (aj id)] (bG (bif I.lev id=0 then false else !(HA R).any (Pp I id row (Ll I id ids)))):=by
 have a:=h.lev id;refine Gh func8 ?_;cases c0:decide (I.lev id=0) with
 |true=>exact Ar [hf 12 a,hr 13 c0] []
 |false=>
 rw[Be];refine pO 111110 (s0 41 fI [(2,bxG gg),(3,.ptr (aj id) 0),(5,.ptr [aE aj ids] 0),(6,.ref 1 0)] [(0,AgU (CA ⟨[],0⟩ id.By true)),(1,obS)] 2 0) [hf 12 a,hr 13 c0,hf 15 hA] [hc (eB (gs:=[.ptr (Ag gg) 0]) aH),hc (eB (gs:=aj id) aH),hc (aY (aG 20 (aE aj ids) aH) bf),hc (Un (CA ⟨[],0⟩ id.By true))] ?_ [] [(0,3),(1,4)] [];refine pO 11111100 (s0 41 fI (frS gg id ids) [(0,AgU (CA ⟨[],0⟩ id.By true)),(1,obS)] 2 0) [] [hc (eB (gs:=[cS1 gg id]) aH),hc (Un (CA ⟨[],0⟩ id.By true))] ?_ [] [(0,0),(1,1)] [(999999,.clo)];refine pN (λk:Nat=>(s0 41 fI (frS gg id ids++[(21,aE aj ids),(22,iG (ah ids)),(23,iG (k:Int))]) [(0,AgU (Ll I id (ids.take k))),(1,obS)] 2 0)) 1111110122 (XN (n:=ids.length) aa) [] [hc (Un (Ll I id (ids.take 0)))] (λB k w hs k5 j=>?_) [] [(0,0),(1,1)] [];unfold AcA at hs;split at hs
 .rename_i hlt;obtain rfl:=Bo hs;obtain⟨x,hx⟩:∃x,ids[k]?=some x:=⟨_,EA hlt⟩;have hz:=Bt hx;have k5:=k5 _ rfl;have hs1:=AcX h id x;have e:Ll I id (ids.take (k+1))=bif Ly I id x then CA (Ll I id (ids.take k)) x.By true else Ll I id (ids.take k):=by unfold Ll;rw[Jk,hx,Option.toList_some,No];rfl
  rw[e] at k5;generalize Ll I id (ids.take k)=m at k5⊢;cases cb:Ly I id x with
  |false=>rw[cb] at k5 hs1;exact jw [hr 24 (C7 hx),AH 25 (ac.ixZ hz),AH 26 (ac.ptZ aW hz),hf 29 hs1,hbb 33 (Xl (q:=k) aa)] [hc (Un m)] k5 [] [(0,0),(1,1)] []
  |true=>rw[cb] at k5 hs1;exact jw [hr 24 (C7 hx),AH 25 (ac.ixZ hz),AH 26 (ac.ptZ aW hz),hf 29 hs1,hmp 3 (Acx (P:=prog) (σ:=(2,O7 x)::[(0,AgU m),(1,obS)]) (i:=0) (t:=87) (t':=87) (et:=4) (vg:=bG) OY Abn aH (k:=x.By) (gk:=iG x.By) rfl (m:=m) rfl true),hbb 33 (Xl (q:=k) aa)] [hc (Un (CA m x.By true))] k5 [] [(0,0),(1,1)] []
 .split at hs
  .rename_i he;subst he;rw[EG];generalize Ll I id ids=m;have hdl:(HA R).length<=1000:=by rw[(Nj hR).2.1.length_eq,GJ];have:=hR.len;omega
   have b:=ml fI (s:=HA R) (f:=λd=>some (Pp I id row m d)) (fi_f:=42) (fa_f:=[]) (fc_f:=[bxG gg,.ptr [aE aj ids] 0,.ptr [mpG m] 0,.ptr [cS1 gg id] 0]) ⟨aH,bf,aY (aG 20 (bxG gg) aH) (aY (aG 20 (.ptr [aE aj ids] 0) aH) (aY (aG 20 (.ptr [mpG m] 0) aH) (aY (aG 20 (.ptr [cS1 gg id] 0) aH) bf))),λd r e=>by cases e;exact AgT h g id m d⟩ (Abu aa λ_ _=>rfl);rw[Ai7] at b;exact Ar [hr 24 (DZ (s:=ids)),hrn 36 2 [.ptr (Ag gg) 0,aE aj ids] hR c,hrr 37 (PR 2) 16 [] hR (Sm fI hR),hq 39 [aE cZ (HA R),.clo (.func 42) [] [bxG gg,.ptr [aE aj ids] 0,.ptr [mpQ m] 0,.ptr [cS1 gg id] 0]] [hc (Un m)] b] []
  .cases hs
section
variable {g:Ba} {m:I1} {N:IX} (P:Pg g m N) (h14:g.L.length<=15) (hkn:∀(k:Nat) (o:Bq),g.L[k]?=some o->Kn o)
include P
theorem AlF(a b:Ab):LR g a b=some ((CO g m N).bef a b):=by
 have w:=P.w;have nI:=w.nI;have nL:=w.nL;unfold LR;rw[dC aa,dC aa,aL,aL,Agg w P.p];unfold gO;cases ha:bu a g.IDs with
 |none=>rfl
 |some i=>
  cases hb:bu b g.IDs with
  |none=>grind
  |some j=>have h1:=(cr (gb ha).1).1;have h2:=(cr (gb hb).1).1;grind [GR.cell,Ft,au,Re]
include h14 hkn
end
theorem Wq{l:Bb}:EQ ((Ll I id l).get d)=(decide (d=id.By)||l.any λy=>decide (y.By=d)&&Ly I id y):=by
 have key:∀(l:Bb) (M:FM Int Bool),EQ ((l.foldl (λm x=>bif Ly I id x then CA m x.By true else m) M).get d)=(EQ (M.get d)||l.any λy=>decide (y.By=d)&&Ly I id y):=by
  intro l;induction l with
  |nil=>intro M;simp
  |cons a r ih=>
   intro M;rw[List.foldl_cons,ih,List.any_cons];cases hb:Ly I id a with
   |false=>simp
   |true=>
    rw[ax,Bz];by_cases c:d=a.By
    .rw[BB c,C5 c.symm];simp[EQ]
    .rw[BU c,Dk (Ne.symm c)];simp
 unfold Ll;rw[key,Bz];by_cases c:d=id.By
 .rw[BB c,C5 c];rfl
 .rw[BU c,Dk c];rfl
section
variable {g:Ba} {m:I1} {N:IX} (P:Pg g m N)
include P
theorem Alg(ho:n8 g ids=some row)(hn:row.length<=1000)(hm:∀x∈row,x∈g.IDs)(hd:0<d):Vm g ids d=some (YD (CO g m N) row d):=by
 have w:=P.w;have nL:=w.nL;have nI:=w.nI;unfold Vm;rw[ho,aL];refine T.eq (.bind ((T.forA (Q:=λr:(Int×Int×Nat)⊕(Ab×Bool)=>(∃z,r= .inl z/\row.find? (λx=>decide (LL ((CO g m N).o x)=some d))=none)\/∃x,r= .inr (x,true)/\row.find? (λx=>decide (LL ((CO g m N).o x)=some d))=some x) row.length (λk _=>∀(j:Nat) (y:Ab),j<k->row[j]?=some y->¬LL ((CO g m N).o y)=some d) aa (λj y h=>aa) (λk acc hk hj=>?_) λacc hj=>?_).mono ?_))
 .obtain⟨x,hx,hmx⟩:=dk hk;obtain⟨i,hi⟩:=GL (hm x hmx);have hil:i<g.L.length:=by have:=(cr hi).1;omega
  obtain⟨o,a,so,n⟩:=w.op hil;have hpz:gO g x=(i:Int):=by unfold gO;rw[N7 w hi]
  have b:=(P.op a hi).2;unfold R6;simp only[eA hk,ax,au,hx,aL,qR,dC (show g.IDs.length<=1000000 by omega),hpz,a,AaY];have yes:LL o=some d->(∃l,(some (x,true):Option (Ab×Bool))=some (l,true)/\row.find? (λx=>decide (LL ((CO g m N).o x)=some d))=some l):=λhc=>⟨x,rfl,by rw[List.find?_eq_some_iff_getElem];obtain⟨h1,h2⟩:=cr hx;refine⟨by rw[b];exact C5 hc,k,h1,h2,λj f=>?_⟩;have hj':row[j]?=some (row[j]'aa):=EA _;simpa using hj j _ f hj'⟩
  have no:¬LL o=some d->∀(j:Nat) (y:Ab),j<k+1->row[j]?=some y->¬LL ((CO g m N).o y)=some d:=λhc j y f hy=>by
   rcases Je j k with h|h
   .exact hj j y h hy
   .obtain rfl:j=k:=aa;rw[hx] at hy;cases hy;rw[b];exact hc
  cases hc:LL o with
  |none=>exact .some ⟨aq aa,no (by rw[hc];simp)⟩
  |some e=>have he:=Wg n hc;rw[Nf,show decide (0<e)=true from C5 aa,ax,aL];refine .dec (λc=>?_) λc=> .some ⟨aq aa,no (by rw[hc];simpa using c)⟩;obtain⟨l,e1,e2⟩:=yes (by rw[hc,c]);cases e1;exact .some (.inr ⟨x,rfl,e2⟩)
 .unfold R6;dsimp only;rw[eF,Be];refine .some (.inl ⟨_,rfl,List.find?_eq_none.2 λy hy=>?_⟩);obtain⟨j,hj'⟩:=GL hy;simpa using hj j y (cr hj').1 hj'
 .unfold YD;rintro r (⟨z,rfl,h⟩|⟨x,rfl,h⟩)
  .rw[h];exact .some rfl
  .rw[h];exact .some rfl
theorem AgV{vd:Bp}(ha:xt g=some ids)(ho:n8 g ids=some row)(hp:ids.Perm g.IDs)(hn:row.length<=1000)(hm:∀x∈row,x∈g.IDs)(n:vd.length<=1000)(hv:∀d∈vd,0<d):T ((AQ (LA g id vd) 0).bind λc=>ma c (λl=>some true) (λq=>some q)) λb=>b= !vd.any (Pp (CO g m N) id row (Ll (CO g m N) id ids)):=by
 have w:=P.w;have nL:=w.nL;have nI:=w.nI;refine .bind ((T.search vd (Pp (CO g m N) id row (Ll (CO g m N) id ids)) (λk _=>false) aa (λk d hd hk=>?_) ?_).mono ?_)
 .have f:=hv d (bO hd);have hc:=Alg P ho hn hm f;have hl1:∀b:Bool,AQ (Lz g id vd (k:Int)) (b,0)=some (b||g.IDs.any λy=>decide (y.By=d)&&Ly (CO g m N) id y):=λb=>by
   refine T.eq (T.forA g.IDs.length (λj a=>a=(b||(g.IDs.take j).any λy=>decide (y.By=d)&&Ly (CO g m N) id y)) aa aC (λj a hj ha=>?_) λa ha=>?_)
   .obtain⟨y,hy,_⟩:=dk hj;have e:((g.IDs.take (j+1)).any λy=>decide (y.By=d)&&Ly (CO g m N) id y)=(((g.IDs.take j).any λy=>decide (y.By=d)&&Ly (CO g m N) id y)||(decide (y.By=d)&&Ly (CO g m N) id y)):=by rw[Rb hy,List.any_append];simp
    rw[e,<-Bool.or_assoc,<-ha];unfold Lz;simp only[eA hj,ax,au,hy,hd,aL,AlF P];unfold Ly;cases a with
    |true=>exact .some ⟨aq aa,aC⟩
    |false=>
     rw[Be];by_cases c1:y.By=d
     .by_cases c2:y=id
      .simp only[c1,c2,decide_true,ax,aL];subst c2;simp only[c1,decide_true,ax,aL];exact .some ⟨aq aa,rfl⟩
      .simp only[c1,c2,decide_true,decide_false,ax,Be,aL];exact .some ⟨aq aa,aC⟩
     .simp only[c1,decide_false,Be,aL];exact .some ⟨aq aa,aC⟩
   .unfold Lz;dsimp only;rw[eF,Be];refine .some (show a=_ from ?_);rw[ha,EG]
  have hany:(g.IDs.any λy=>decide (y.By=d)&&Ly (CO g m N) id y)=ids.any λy=>decide (y.By=d)&&Ly (CO g m N) id y:=by rw[Bool.eq_iff_iff,List.any_eq_true,List.any_eq_true];simp only[hp.mem_iff]
  unfold LA;simp only[eA hk,ax,au,hd,ha,hc,aL,AlF P];unfold Pp;rw[Wq];generalize YD (CO g m N) row d=q at hc⊢;obtain⟨x,cb⟩:=q;have ej:((bif d=id.By then(some true)else(bif cb then(bif x=id then(some true)else(bif cb then some ((CO g m N).bef id x)else(some false)))else(bif cb then some ((CO g m N).bef id x)else(some false)))):Fl)=some (decide (d=id.By)||(cb&&Ly (CO g m N) id x)):=by unfold Ly;cases decide (d=id.By)<;>cases cb<;>cases decide (x=id)<;>rfl
  dsimp only;simp only[ej,hl1,hany,aL,aq (show k<2305843009213693952 by omega)];cases decide (d=id.By)<;>cases cb<;>cases Ly (CO g m N) id x<;>cases(ids.any λy=>decide (y.By=d)&&Ly (CO g m N) id y)<;>rfl
 .unfold LA;rw[eF,Be]
 .rintro r (⟨rfl,h⟩|⟨k,x,hx,i,rfl,h⟩)
  .refine .some ?_;rw[List.any_eq_false.2 λx hx=>by rw[h x hx];simp];rfl
  .refine .some ?_;rw[List.any_eq_true.2 ⟨x,bO hx,i⟩];rfl
end
theorem AdG{l l':Bb}(h:l.Perm l'):Pp I id row (Ll I id l)=Pp I id row (Ll I id l'):=by
 funext d;unfold Pp;rw[Wq,Wq,show(l.any λy=>decide (y.By=d)&&Ly I id y)=l'.any λy=>decide (y.By=d)&&Ly I id y by rw[Bool.eq_iff_iff,List.any_eq_true,List.any_eq_true];simp only[h.mem_iff]]
def UH(I:Gi)(R:Ad)(row al:Bb)(id:Ab):Bool:=bif I.lev id=0 then false else !(HA R).any (Pp I id row (Ll I id al))
section
variable {g:Ba} {m:I1} {N:IX} (P:Pg g m N)
include P
theorem Ai8:∀(i:Nat) (o:Bq) (x:Ab),g.L[i]?=some o->g.IDs[i]?=some x->x.Seq=o.Seq:=λi o x ho hx=>(PH (P.w.ops i o ho).1 (P.w.ids i o x ho hx)).2
theorem AeJ:(CO g m N).lev id=0↔id∉g.IDs:=by
 have nU:=P.w.nU;have nI:=P.w.nI;cases hk:bu id g.IDs with
 |none=>
  have h0:(CO g m N).lev id=0:=by show(match MT ⟨g.Cards,m,N⟩ id with|some y=>y.level|none=>0)=_;rw[Sq P.w P.p,hk];rfl
  exact⟨λ_=>jv.1 hk,λ_=>h0⟩
 |some k=>have hid:=(gb hk).1;obtain⟨y,a,c,_⟩:=Aah P.w P.p hid;have hkl:=(cr hid).1;obtain⟨u,hu,_⟩:=dk (l:=g.Up) (k:=k) aa;have b:=P.p.lv k y u a hu;have:=Ade (N:=N) (u:=u);exact⟨λh=>aa,λh=>absurd (bO hid) h⟩
theorem ZR(h14:g.L.length<=15):∃(al ids row:Bb) (R:Ad) (D:Dx) (sen:Bp),ba prog fI 15 [.ptr (Ag ⟨g.Cards,m,N⟩) 0] (aE aj al)/\al.Perm ids/\E1 g al/\al.Nodup/\xt g=some ids/\ids.Perm g.IDs/\n8 g ids=some row/\row.Perm ids/\Bj R/\Rr R D/\Aho g m N ids R sen/\∀id,ba prog fI 8 [.ptr (Ag ⟨g.Cards,m,N⟩) 0,.agg (aj id)] (bG (UH (CO g m N) R row al id))/\Nn g id=some (UH (CO g m N) R row al id):=by
 have w:=P.w;have nI:=w.nI;have hI:=WY (UB w P.p);obtain⟨al,hA,ap,l,n⟩:=Ajs P h14;obtain⟨ids,a1,a2,a3⟩:=Cz w;have v1:E1 g ids:=⟨λx hx=>a2.mem_iff.1 hx,by rw[a2.length_eq];omega⟩;have v2:ids.Nodup:=a2.nodup_iff.2 w.nd;have pm:al.Perm ids:=ap.trans a2.symm;obtain⟨row,vs,h,j,_,_,_,_,_,hrm,_,_,hrl,hS⟩:=Aai P h14 (Ai8 P) v1 v2;obtain⟨R,D,sen,k,b,a,d6,c,_,_,_,f⟩:=Abl P h14 (Ai8 P) v1 v2;have hal:al.length<=15:=by rw[ap.length_eq];omega
 refine⟨al,ids,row,R,D,sen,hA,pm,l,n,a1,a2,h,j,a,b,f,λid=>⟨AdF hI hA aa a (c al pm).1 (λd=>AeI hI (hS al pm).1 aa (Ai6 aa)) id,?_⟩⟩;unfold Nn UH;rw[dC aa,aL];by_cases h0:id∈g.IDs
 .have hl:(CO g m N).lev id≠0:=λe=>(AeJ P).1 e h0;have hp:¬gO g id<0:=by have:=lj.2 h0;omega
  obtain⟨q1,i,_⟩:=Nj a;rw[Dk hp,Dk hl,Be,Be,a1,aL,k,aL,Ai3 (ZQ P d6 aa b a).z b a,aL,AdG pm];refine(AgV P a1 h a2 aa hrm ?_ λd hd=>?_).eq
  .rw[i.length_eq,GJ];have:=a.len;omega
  .obtain⟨e,he,rfl⟩:=EH.1 (i.mem_iff.1 hd);have:=a.i6 e he;omega
 .have hp:gO g id<0:=by have:=mt lj.1 h0;omega
  rw[C5 hp,C5 ((AeJ P).2 h0),ax,ax]
end
end Go.Proofs.YtdpdicldkohflaaGreatDoor
