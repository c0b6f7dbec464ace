/- Texts. -/
import Derived.Test.YtlijnaneopediaaGreatDoorJ4
namespace Go.Proofs.YtlijnaneopediaaGreatDoor
set_option linter.unusedSectionVars false
set_option linter.unusedVariables false
set_option linter.unusedSimpArgs false
open Go.RowKit Tryz
attribute [local irreducible] Tr dz Gp
variable (gl:Cd)
variable {α:Type}{a l u:Bh}{gg:Aj}{N:Jk}{I:Gi}{cs ids v:A3}{x y:Ab}{j k:Nat}{D:C7}{o:Bj}{R:Ad}{g r:AQ}{most n:Int}{fi:FuncId}{fa fc:Bk}
section
section
variable {P:Br}
section
variable {ops:Array Oper} {K:St->Prop} {ty:Bn} {pos:String} {af:Array Edge} {rest:IH} {n:Nat} {gl:Cd} {fr:Fr} {σ:aQ} {c p d j:Nat} {bars:Bq} {rr:Bool}
theorem Alw{op:Op}{gq:Option (Nat×Bool)}(hw:ce ⟨n,gl,fr,σ,c,p,rr⟩ ops ⟨some d,op,ty,pos,af,gq⟩=some false)(hd:d<n)(h:D8 P ops K rest ⟨n,gl,(d,.lit undef)::fr,σ,c,p,rr⟩):D8 P ops K (⟨some d,op,ty,pos,af,gq⟩::rest) ⟨n,gl,fr,σ,c,p,rr⟩:=by unfold D8;exact .inr ⟨hw,(by grind),h⟩
end
end
section
variable {P:Br} {ops:Array Oper} {K:St->Prop} {op:Op} {ty:Bn} {pos:String} {af:Array Edge} {rest:IH} {n:Nat} {gl:Cd} {fr:Fr} {σ:aQ} {c p d j:Nat} {bars:Bq} {rr:Bool} {gq:Option (Nat×Bool)}
theorem zn(h:D8 P ops K rest ⟨n,gl,(d,.lit undef)::fr,σ,c,p,rr⟩)(hw:ce ⟨n,gl,fr,σ,c,p,rr⟩ ops ⟨some d,op,ty,pos,af,gq⟩=some false:=by kernel_rfl)(hd:d<n:=by decide):D8 P ops K (⟨some d,op,ty,pos,af,gq⟩::rest) ⟨n,gl,fr,σ,c,p,rr⟩:=Alw hw hd h
end
end
theorem Anl:bw prog 63=some 27:=aH
theorem AjF(l:Mw):∀g∈l.flatMap bv,∃v,g= .lit v:=by grind [bv]
section
def I1(g:Aj)(a:Ab):Option (Bj×Bool):=
 bif(!((g.at_.get a).isSome))then(some (⟨0,0,0,0,[],0,0,0,0,[],⟨0,0,0⟩,0,[],[],⟨0,0,0⟩,[],0,0,[],0,[],⟨0,0⟩⟩,false))else((aS g.nodes (FR (g.at_.get a))).bind λb=>(pG b.o).bind λe=>some (e,true))
theorem Nv{g id_}:DC prog gl (I1 g id_) 57 [.ptr (Ag g) 0,.agg (aj id_)] (λr=> .tup [.agg (aJ r.1),bG r.2]):=
 cy func57 λK=>aw [hm 14 (H7 g.at_ id_)]<|aF 18 (rv K)<|CD 25 az.ixZ 27 (az.fsZ GN Anl 0 B5) λa=>BU 28 (Ds gl) λb=>rv K
def JX(g:Aj):Option Mw:=
 (Fl g.cards).bind λa=>some a
theorem RX{g}:LC prog gl (JX g) 67 [.ptr (Ag g) 0] 127 bv:=
 gc func67 λK=>ak λa e2=>aw [ho 7 [aE bv g.cards] [] (tn gl e2) (AjF a)]<|mr c0 K (bT.imm _)
end
theorem sP(a:Ab):dt a a=false:=by grind [ye]
theorem Ad6{a b:Ab}(h1:dt a b=false)(h2:dt b a=false):a=b:=by
 have n1:¬dt a b=true:=by rw[h1];simp
 have n2:¬dt b a=true:=by rw[h2];simp
 rw[ye] at n1 n2;obtain⟨a1,a2,a3⟩:=a;obtain⟨b1,b2,b3⟩:=b;grind
theorem AfA(hn:gg.cards.length<=1000)(d:Int):hY gg d=some (((gg.cards.find? λc=>decide (c.Device=d)).getD XJ),(gg.cards.find? λc=>decide (c.Device=d)).isSome):=by
 unfold hY;refine T.eq (.bind (T.forA gg.cards.length (λk acc=>∀(j:Nat) (c:DP),j<k->gg.cards[j]?=some c->c.Device≠d) aa (by grind) (λk acc hk hj=>?_) λacc hj=>?_))
 .obtain⟨x,hx⟩:∃x,gg.cards[k]?=some x:=⟨_,EH hk⟩;unfold ij;dsimp only;rw[eA hk,ax,au,hx,aL];refine .dec (λe=> .some (.some ?_)) λe=> .some ⟨aq aa,λj c' a b=>?_⟩
  .grind [List.find?_eq_some_iff_getElem]
  grind
 .unfold ij;dsimp only;rw[eF,A7];have hf:gg.cards.find? (λc=>decide (c.Device=d))=none:=by grind [G9]
  rw[hf];exact .some (.some rfl)
theorem Ahw{i:Int}{x:C3}(hx:aS N i=some x){n:Nat}(hn:n<256){r:Bool}(h:iX x.past (n:Int)=some r):ba prog fI 65 [.ptr (N.flatMap d7) (i.toNat*35+30),iG (n:Int)] (bG r):=by
 have hm:u9 (n:Int) 64=some ((n%64:Nat):Int):=by grind [u9]
 have hcn:wJ ((n%64:Nat):Int)=some (n%64):=by grind [wJ]
 have hq:∀q:Nat,n/64=q->Gg (n:Int) 64=some (q:Int):=by grind [Gg,Mx]
 have hd:wI (Int.tdiv (n:Int) 64)=((n/64:Nat):Int):=by grind [bM]
 have ht:Int.tmod (n:Int) 64=((n%64:Nat):Int):=by rw[Int.tmod_eq_emod_of_nonneg aa];rfl
 unfold iX at h;rw[hd,ht,hcn] at h;refine Gh func65 ?_;have h4:n/64=0\/n/64=1\/n/64=2\/n/64=3:=aa;rcases h4 with e|e|e|e
 .rw[e] at h;obtain rfl:=Bo h;exact Ar [hbb 7 (Tt (hq 0 e)),Az 10 (az.fdZ tW 30 hx),hbb 12 (KO hm),hV 13 (Am (P:=prog) (t:=34) x.past.a0 hcn),hV 14 (ju (P:=prog) (t:=34) (Jt x.past.a0 (n%64)) 1)] []
 .rw[e] at h;obtain rfl:=Bo h;exact Ar [hbb 7 (Tt (hq 1 e)),Az 10 (az.fdZ tW 31 hx),hbb 12 (KO hm),hV 13 (Am (P:=prog) (t:=34) x.past.a1 hcn),hV 14 (ju (P:=prog) (t:=34) (Jt x.past.a1 (n%64)) 1)] []
 .rw[e] at h;obtain rfl:=Bo h;exact Ar [hbb 7 (Tt (hq 2 e)),Az 10 (az.fdZ tW 32 hx),hbb 12 (KO hm),hV 13 (Am (P:=prog) (t:=34) x.past.a2 hcn),hV 14 (ju (P:=prog) (t:=34) (Jt x.past.a2 (n%64)) 1)] []
 .rw[e] at h;obtain rfl:=Bo h;exact Ar [hbb 7 (Tt (hq 3 e)),Az 10 (az.fdZ tW 33 hx),hbb 12 (KO hm),hV 13 (Am (P:=prog) (t:=34) x.past.a3 hcn),hV 14 (ju (P:=prog) (t:=34) (Jt x.past.a3 (n%64)) 1)] []
theorem SW(h:Uq gg):Pa fI gg (Pl gg) where
 op x:=by
  cases e:gg.at_.get x with
  |none=>
   have hr:I1 gg x=some ((Pl gg).o x,((Pl gg).op x).isSome):=by grind [I1,Gi.o,Pl,XL]
   exact Nv fI hr
  |some n=>
   obtain⟨k,y,rfl,hz,hn,hk,hm⟩:=Ur h e;have hr:I1 gg x=some ((Pl gg).o x,((Pl gg).op x).isSome):=by grind [I1,Gi.o,Pl,FR,Option.isSome_some,Uq.cl]
   exact Nv fI hr
 bef x y:=by
  refine Gh func23 ?_;refine pO [1,0] (s0 44 fI [(0,.ptr (Ag gg) 0),(4,.ref 0 0),(5,.ref 1 0)] [(0,XX x),(1,XX y)] 2 0) [] [] ?_ [] [(0,0),(1,1)];show Gp _ _ (tH _ _ (bG (Agp gg x y))) _ _ _ _;unfold Agp;have h1:=H7 gg.at_ x;have h2:=H7 gg.at_ y;unfold FR at h1 h2;cases e1:gg.at_.get x with
  |none=>rw[e1] at h1;exact Ar [hm 17 h1,hm 26 h2] []
  |some n=>
   rw[e1] at h1;cases e2:gg.at_.get y with
   |none=>rw[e2] at h2;rw[XL e2];exact Ar [hm 17 h1,hm 26 h2] []
   |some q=>rw[e2] at h2;obtain⟨k,b,rfl,hz,hn,hk,hmm⟩:=Ur h e2;obtain⟨j,a,rfl,_,_,hj,_⟩:=Ur h e1;rw[hn];exact Ar [hm 17 h1,hm 26 h2,Az 39 (az.ixZ hz),hf 42 (Ahw hz hj (Xa hj))] []
 lev x:=by
  refine HE fI ?_;unfold Fj FR;cases e:gg.at_.get x with
  |none=>show _=some (match M6 gg x with|some y=>y.level|none=>0);rw[XL e];rfl
  |some n=>obtain⟨k,y,rfl,hz,hn,hk,hm⟩:=Ur h e;show _=some (match M6 gg x with|some y=>y.level|none=>0);grind
 cards:=by
  have hr:JX gg=some gg.cards:=by grind [JX,Fl,aT,Uq.nc]
  exact(RX fI hr).fn aH (bT.len _) (bT.imm _)
 card d:=uN fI (AfA h.nc d)
section
section
variable {g:AQ} {m:Jn} {N:Jk}
theorem PL(w:Fq g)(p:OI g m N):Uq ⟨g.Cards,m,N⟩ where
 pos x n e:=by have e:m.get x=some n:=e;rw[p.get] at e;cases hk:bu x g.IDs<;>grind [AbJ]
 cl y hy:=by grind [OI,G9,RM,Fq.ops]
 nc:=w.nC
end
end
section
theorem Ad7(a:Ab):¬He a a<0:=by grind [Rh,sP]
theorem S7{a b:Ab}:M7 I a b<0↔I.lev a<I.lev b\/(I.lev a=I.lev b/\dt a b=true):=by grind [M7,Rh,AbK]
theorem S8(a:Ab):¬M7 I a a<0:=by grind [S7,sP]
theorem Zv(I:Gi):OrN (M7 I) λ_=>True:=by grind [OrN,S7,dt,EX]
section
variable {gl:Cd}
end
end
theorem Acp(hl:ids.length<=1000000)(d s:Int):z9 ids d s=some (O6 ids ⟨d,s⟩:Int):=by
 refine T.eq ?_;unfold z9;refine .bind ((T.forA ids.length (λk n=>n=(O6 (ids.take k) ⟨d,s⟩:Int)) aa rfl (λk n hk hn=>?_) λn hn=>?_).mono (Q:=λn:Int=>n=(O6 ids ⟨d,s⟩:Int)) λn hn=> .some hn)
 .obtain⟨y,hy,_⟩:=dk hk;unfold uf;simp only[eA hk,ax,au,hy,aL];have h1:=TH (ids.take k) y ⟨d,s⟩;have h2:=AgJ (ids.take k) ⟨d,s⟩;rw[LL] at h2;rw[<-Rb hy] at h1;simp only[Bf.mk.injEq] at h1;have yes:y.By=d->y.Seq=s->wI (n+1)=(O6 (ids.take (k+1)) ⟨d,s⟩:Int):=by grind [bM]
  have no:¬(y.By=d/\y.Seq=s)->n=(O6 (ids.take (k+1)) ⟨d,s⟩:Int):=by grind
  by_cases c1:y.By=d
  .by_cases c2:y.Seq=s
   .simp only[c1,c2,decide_true,ax,aL];exact .some ⟨aq aa,yes c1 c2⟩
   .simp only[c1,c2,decide_true,decide_false,ax,A7,aL];exact .some ⟨aq aa,no λc=>c2 c.2⟩
  .simp only[c1,decide_false,A7,aL];exact .some ⟨aq aa,no λc=>c1 c.1⟩
 .unfold uf;dsimp only;rw[eF,A7];refine .some (show n=_ from ?_);rw[hn,D3]
def FsI(ids p:A3)(d v:Int):Prop:=(v=0/\∀y∈p,y.By=d->¬2<=O6 ids ⟨d,y.Seq⟩)\/(∃y∈p,y.By=d/\y.Seq=v/\2<=O6 ids ⟨d,v⟩/\∀z∈p,z.By=d->2<=O6 ids ⟨d,z.Seq⟩->v<=z.Seq)
theorem UD{ids:A3}(hl:ids.length<=1000000)(hs:∀x∈ids,1<=x.Seq)(d:Int):T (qN ids d) (FsI ids ids d):=by
 unfold qN;refine .bind ((T.forA ids.length (λk v=>FsI ids (ids.take k) d v) aa (.inl ⟨rfl,λy hy=>by cases hy⟩) (λk v hk hv=>?_) λv hv=>?_).mono (Q:=FsI ids ids d) λv hv=> .some hv)
 .obtain⟨y,hy,hm⟩:=dk hk;unfold qM;simp only[eA hk,ax,au,hy,aL,Acp hl];have a:=hs y hm;have keep:(y.By=d->2<=O6 ids ⟨d,y.Seq⟩->v≠0/\v<=y.Seq)->FsI ids (ids.take (k+1)) d v:=λh=>by
   rw[Rb hy];rcases hv with⟨h1,h2⟩|⟨z,h1,h2,h3,h4,h5⟩
   .refine .inl ⟨h1,λz hz hb hc=>?_⟩;rcases I6.1 hz with hz|hz
    .exact h2 z hz hb hc
    .simp at hz;subst hz;exact(h hb hc).1 h1
   .refine .inr ⟨z,by simp[h1],h2,h3,h4,λw hw hb hc=>?_⟩;rcases I6.1 hw with hw|hw
    .exact h5 w hw hb hc
    .simp at hw;subst hw;exact(h hb hc).2
  have new:y.By=d->2<=O6 ids ⟨d,y.Seq⟩->(v=0\/y.Seq<v)->FsI ids (ids.take (k+1)) d y.Seq:=λhb hc h=>by
   rw[Rb hy];refine .inr ⟨y,aC,hb,rfl,hc,λw hw hb' b=>?_⟩;rcases I6.1 hw with hw|hw
   .rcases hv with⟨h1,h2⟩|⟨z,h1,h2,h3,h4,h5⟩
    all_goals grind
   grind
  by_cases c1:y.By=d
  .by_cases c2:2<=O6 ids ⟨d,y.Seq⟩
   .have c2':(1:Int)<(O6 ids ⟨d,y.Seq⟩:Int):=aa;by_cases c3:v=0
    .simp only[c1,c2',c3,decide_true,ax,aL];exact .some ⟨aq aa,new c1 c2 (.inl c3)⟩
    .by_cases c4:y.Seq<v
     .simp only[c1,c2',c3,c4,decide_true,decide_false,ax,A7,aL];exact .some ⟨aq aa,new c1 c2 (.inr c4)⟩
     .simp only[c1,c2',c3,c4,decide_true,decide_false,ax,A7,aL];exact .some ⟨aq aa,keep λ_ _=>⟨c3,aa⟩⟩
   .have c2':¬(1:Int)<(O6 ids ⟨d,y.Seq⟩:Int):=aa;simp only[c1,c2',decide_true,decide_false,ax,A7,aL];exact .some ⟨aq aa,keep λ_ h=>absurd h c2⟩
  .simp only[c1,decide_false,A7,aL];exact .some ⟨aq aa,keep λh=>absurd h c1⟩
 .unfold qM;dsimp only;rw[eF,A7];rw[D3] at hv;exact .some hv
theorem Ad8(hs:∀x∈ids,1<=x.Seq){v:Int}(h:FsI ids ids y.By v):voP ids y=(decide (0<v)&&decide (v<=y.Seq)):=by
 rw[Bool.eq_iff_iff];unfold voP;rw[List.any_eq_true];simp only[bA,decide_eq_true_eq];refine⟨λ⟨z,hz,h1,h2,h3⟩=>?_,λ⟨h1,h2⟩=>?_⟩
 .rcases h with⟨_,h5⟩|⟨w,k1,k2,k3,a,k5⟩
  all_goals grind
 .rcases h with⟨h5,_⟩|⟨w,k1,k2,k3,a,k5⟩
  all_goals grind
theorem Acq{ids:A3}(hl:ids.length<=100000)(hd:ids.Nodup)(hs:∀x∈ids,1<=x.Seq):T (vJ ids) λr=>r.Perm (ids.filter (voP ids))/\r.Pairwise λx y=>He x y<0:=by
 unfold vJ;refine .bind ((T.forA ids.length (λk acc=>acc=(ids.take k).filter (voP ids)) aa aC (λk acc hk hj=>?_) λacc hj=>?_).mono (Q:=λacc=>acc=ids.filter (voP ids)) λx hx=> .bind ((kg ?_).mono λv hv=> .some ?_))
 .obtain⟨y,hy,hm⟩:=dk hk;unfold un;simp only[eA hk,ax,au,hy,aL];have hla:acc.length<=k:=by grind
  have e:(ids.take (k+1)).filter (voP ids)=acc++(if voP ids y then[y] else[]):=by rw[Rb hy,O7,<-hj];cases hp:voP ids y<;>simp[hp]
  refine .bind ((UD aa hs y.By).mono λv hv=>?_);have hq:=Ad8 hs hv;by_cases c1:0<v
  .by_cases c2:v<=y.Seq
   .simp only[c1,c2,decide_true,ax,aL];rw[hq,CO c1,CO c2] at e;exact .bind (.app cq (.some ⟨aq aa,by rw[e];rfl⟩))
   .simp only[c1,c2,decide_true,decide_false,ax,A7,aL];rw[hq,CO c1,C5 c2] at e;exact .some ⟨aq aa,by rw[e];simp⟩
  .simp only[c1,decide_false,A7,aL];rw[hq,C5 c1] at e;exact .some ⟨aq aa,by rw[e];simp⟩
 .unfold un;dsimp only;rw[eF,A7];refine .some (show acc=_ from ?_);rw[hj,D3]
 .grind
 .refine⟨hx▸hv.1,?_⟩;have hn:v.Nodup:=by grind
  refine(hv.2.and hn).imp λ{a b} h=>Rh.2 ?_;cases h1:dt a b with
  |true=>rfl
  |false=>exact absurd (Ad6 h1 h.1) h.2
section
section
variable {g:AQ} {m:Jn} {N:Jk}
theorem W6(w:Fq g)(p:OI g m N){i:Nat}(h:g.IDs[i]?=some x):∃y,N[i]?=some y/\(Bw g m N).lev x=y.level/\0<=y.level/\y.level<=(i:Int)+1:=by obtain⟨y,h1,h2,h3⟩:=AbJ w p (JD w h);refine⟨y,h1,?_,(p.nd i y h1).2.2.2⟩;show(match M6 ⟨g.Cards,m,N⟩ x with|some y=>y.level|none=>0)=_;rw[Us w p,JD w h];grind
theorem Ad9(w:Fq g)(p:OI g m N):nZ g=some (N.map (·.level)):=by
 have nL:=w.nL;have nU:=w.nU;have pl:=p.len;refine T.eq ?_;unfold nZ;refine .bind (T.mono (Q:=λr=>r=N.map (·.level)) (T.forA g.L.length (λk acc=>acc=(N.take k).map (·.level)) aa aC (λk acc hk hj=>?_) λacc hj=>?_) λx hx=> .some hx)
 .obtain⟨u,hu,_⟩:=dk (l:=g.Up) (k:=k) aa;obtain⟨y,hy,_⟩:=dk (l:=N) (k:=k) aa;obtain⟨u1,e⟩:=w.up k u hu;have b:=p.lv k y u hy hu;unfold pd;dsimp only;rw[eA hk,ax];have hla:acc.length=k:=by grind
  have hin:AB (iP g (acc,(k:Int))) (1,0)=some y.level:=by
   refine T.eq ?_;refine T.loop (λs=>∃j:Nat,j<=u.length/\s.2=(j:Int)/\s.1=lvF N (u.take j)) (λs=>u.length-s.2.toNat) ⟨0,aa,rfl,rfl⟩ cq ?_;rintro⟨a,i⟩ ⟨j,f,rfl,rfl⟩;unfold iP;simp only[au,hu,aL];rcases It j u.length with hlt|hge
   .obtain⟨z,hz,hm⟩:=dk hlt;obtain⟨h,o⟩:=e z hm;obtain⟨n,rfl⟩:∃n:Nat,z=(n:Int):=⟨z.toNat,aa⟩;obtain⟨v,hv,_⟩:=dk (l:=N) (k:=n) aa;have hb:=(p.nd n v hv).2.2.2;have ha:acc[n]?=some v.level:=by grind
    rw[eA hlt,ax,hz,aL,au,ha,aL,bM aa aa];refine .some ⟨⟨j+1,aa,aq aa,?_⟩,?_⟩
    .rw[Rb hz,Abn];grind [lvN]
    grind [aq]
   .obtain rfl:j=u.length:=aa;rw[eF,A7,D3];exact .some b.symm
  rw[hin,aL];refine .bind (.app cq (.some ⟨aq aa,?_⟩));rw[Rb hy,List.map_append,hj];rfl
 .unfold pd;dsimp only;rw[eF,A7];refine .some (show acc=_ from ?_);rw[hj,<-pl,D3]
theorem Sa(w:Fq g)(p:OI g m N){i:Nat}(hx:g.IDs[i]?=some x)(hy:g.IDs[k]?=some y):vI g (N.map (·.level)) (i:Int) (k:Int)=some (decide (M7 (Bw g m N) x y<0)):=by
 obtain⟨a,h1,h2,_⟩:=W6 w p hx;obtain⟨b,h3,h4,_⟩:=W6 w p hy;have e1:(N.map (·.level))[i]?=some a.level:=by rw[LO,h1];rfl
 have e2:(N.map (·.level))[k]?=some b.level:=by rw[LO,h3];rfl
 grind [vI,au,pJ,S7]
theorem AjH{cmp:α->α->Int}(hO:OrN cmp λ_=>True){l:List α}{x:α}(hp:l.Pairwise λa b=>cmp a b<0)(h1:∀i y,i<j->l[i]?=some y->cmp y x<0)(h2:∀y,l[j]?=some y->¬cmp y x<0)(hx:x∉l):(l.take j++[x]++l.drop j).Pairwise λa b=>cmp a b<0:=by
 have hpj:(l.take j++l.drop j).Pairwise λa b=>cmp a b<0:=by rw[Pu];exact hp
 rw[List.pairwise_append] at hpj;have hlt:∀a∈l.take j,cmp a x<0:=by grind [G9]
 have hgt:∀b∈l.drop j,cmp x b<0:=by grind [OrN,List.drop_eq_nil_of_le,List.drop_eq_getElem_cons,List.pairwise_cons]
 grind
theorem UE(w:Fq g)(p:OI g m N)(hl:ids.length<=1000)(hd:ids.Nodup)(hm:∀x∈ids,x∈g.IDs):T (n8 g ids) λr=>r.Perm ids/\r.Pairwise λx y=>M7 (Bw g m N) x y<0:=by
 have nL:=w.nL;have nI:=w.nI;unfold n8;rw[Ad9 w p,aL];refine .bind (T.mono (Q:=λx:Bh=>EF g x/\(HD g x).Perm ids/\(HD g x).Pairwise λx y=>M7 (Bw g m N) x y<0) (T.forA ids.length (λk acc=>EF g acc/\(HD g acc).Perm (ids.take k)/\(HD g acc).Pairwise λx y=>M7 (Bw g m N) x y<0) aa ⟨.nil,by simp[HD],.nil⟩ (λk acc hk hj=>?_) λacc hj=>?_) λf h4=>?_)
 .obtain⟨y,hy,l⟩:=dk hk;obtain⟨b,u,o⟩:=hj;obtain⟨i,hi⟩:=G9 (hm y l);have hil:i<g.IDs.length:=(cr hi).1;have hpz:gO g y=(i:Int):=by unfold gO;rw[JD w hi]
  have hal:acc.length<=k:=by grind [List.Perm.length_eq,Ho,LL]
  have hny:y∉HD g acc:=by grind [G9,MT]
  unfold qU;simp only[eA hk,ax,au,hy,aL,qR,dC (show g.IDs.length<=1000000 by omega),hpz];rw[show decide ((i:Int)<0)=false from C5 aa,A7];refine .bind (T.mono (Q:=λn:Int=>∃j:Nat,n=(j:Int)/\j<=acc.length/\(∀q z,q<j->(HD g acc)[q]?=some z->M7 (Bw g m N) z y<0)/\∀z,(HD g acc)[j]?=some z->¬M7 (Bw g m N) z y<0) (T.forI acc.length (λj=>∀q z,q<j->(HD g acc)[q]?=some z->M7 (Bw g m N) z y<0) aa (λq z h=>aa) (λj hjl hq=>?_) λhq=>?_) λn hn=>?_)
  .obtain⟨z,hz,s⟩:=dk hjl;obtain⟨B,zn,rfl,t,a,hzz⟩:=OR w b hz;unfold qT;simp only[eA hjl,ax,au,hz,aL,Sa w p a hi];refine .dec (λhc=> .some ⟨aq aa,λq C v hz'=>?_⟩) λhc=> .some ⟨j,rfl,aa,hq,λC hz'=>?_⟩;all_goals grind
  .unfold qT;dsimp only;rw[eF,A7,aL,A7];refine .some ⟨acc.length,rfl,Dl _,hq,λz hz=>?_⟩;grind
  .obtain⟨j,rfl,hjl,q1,A⟩:=hn;refine .bind (.pre aa aa (.bind (.app cq (.bind (.app cq (.bind (.suf aa aa (.bind (.app cq (.some ⟨aq aa,?_,?_⟩))))))))))
   .intro x hx;have:x∈acc++[(i:Int)]:=by grind
    exact b.snoc aa x this
   .have e:HD g ([]++acc.take (j:Int).toNat++[(i:Int)]++acc.drop (j:Int).toNat)=(HD g acc).take j++[y]++(HD g acc).drop j:=by grind [EO,List.map_take,List.map_drop]
    rw[e];refine⟨?_,AjH (Zv _) o q1 A hny⟩;grind [Rb,Cy]
 .unfold qU;dsimp only;rw[eF,A7];rw[D3] at hj;exact .some hj
 .obtain⟨h1,h2,h3⟩:=h4;refine .bind (T.mono (Q:=λr:A3=>r=HD g f) (T.forA f.length (λk acc=>acc=(HD g f).take k) (by grind [List.Perm.length_eq,Ho]) aC (λk acc hk hj=>?_) λacc hj=>?_) (by grind [T.some]))
  .obtain⟨z,hz,s⟩:=dk hk;obtain⟨B,zn,rfl,t,a,hzz⟩:=OR w h1 hz;have hxl:f.length<=1000:=by grind [List.Perm.length_eq]
   have hal:acc.length<=k:=by rw[hj,LL];omega
   unfold qS;simp only[eA hk,ax,au,hz,a,aL];refine .bind (.app cq (.some ⟨aq aa,?_⟩));rw[Rb hzz,hj]
  .unfold qS;dsimp only;rw[eF,A7];refine .some (show acc=_ from ?_);grind [Ho]
end
end
section
theorem Ahx:1<=lvF N u:=by
 have key:∀(l:Bh) (a:Int),1<=a->1<=l.foldl (λa j=>E1 a (lvN N j+1)) a:=by intro l;induction l<;>grind [E1]
 exact key u 1 (Int.le_refl _)
theorem Abq{a b:A3}(h:a.Perm b)(f:Bf):O6 a f=O6 b f:=(h.filter _).length_eq
theorem AfB{a b:A3}(h:a.Perm b)(x:Ab):voP a x=voP b x:=by grind [voP,Abq]
section
variable {g:AQ} {m:Jn} {N:Jk} (P:Pg g m N)
include P
end
end
theorem Adm{gg:Aj}{j:Nat}:∀(l:A3) (s:OS),gW (l.foldl (λs x=>match M6 gg x with|some y=>RU s y.past|none=>s) s) j=(gW s j||l.any λx=>match M6 gg x with|some y=>gW y.past j|none=>false)
 |[],s=>aC
 |x::l,s=>by rw[List.foldl_cons,Adm l,List.any_cons];grind [RP]
theorem Adn{p:Nat->Bool}{N:Jk}:x∈nmS p N↔∃(k:Nat) (y:C3),N[k]?=some y/\p k=true/\y.id=x:=by unfold nmS;simp only[Fo,Hq,List.mem_zipIdx_iff_getElem?,Prod.exists];grind
theorem Ado{p:Nat->Bool}{N:Jk}:(nmS p N).Sublist (N.map (·.id)):=by
 have h:(N.zipIdx.map (·.1.id))=N.map (·.id):=by rw[show(λq:C3×Nat=>q.1.id)=(λy:C3=>y.id)∘Prod.fst from rfl,<-Iu,List.zipIdx_map_fst]
 rw[<-h];exact List.filter_sublist.map _
theorem Adp{I:Gi}{x:Ab}:∀{l p:A3},x∈Lm I p l↔x∈p\/x∈l/\0<I.lev x
 |[],p=>by simp[Lm]
 |y::l,p=>by have a:Lm I p (y::l)=Lm I (bif 0<I.lev y then bif p.any λz=>decide (y=z)then p else p++[y]else p) l:=rfl;rw[a,Adp];grind
theorem AfC{I:Gi}:∀{l p:A3},p.Nodup->(Lm I p l).Nodup
 |[],p,h=>h
 |y::l,p,h=>by have a:Lm I p (y::l)=Lm I (bif 0<I.lev y then bif p.any λz=>decide (y=z)then p else p++[y]else p) l:=rfl;rw[a];refine AfC ?_;grind
section
variable {g:AQ} {m:Jn} {N:Jk} (P:Pg g m N)
include P
theorem AfD:N.map (·.id)=g.IDs:=by
 refine List.ext_getElem? λk=>?_;have pl:=P.p.len;have nI:=P.w.nI;rw[LO];cases hy:N[k]? with
 |none=>grind
 |some y=>rw[(P.p.nd k y hy).2.1];rfl
theorem Vc{l:A3}(hj:j<256):gW (RW ⟨g.Cards,m,N⟩ l) j=true↔uX g l j:=by
 have z:gW z4 j=false:=by unfold gW z4;split<;>simp
 rw[show gW (RW ⟨g.Cards,m,N⟩ l) j=_ from Adm l z4,z,Bool.false_or,List.any_eq_true];unfold uX;refine⟨λ⟨x,hx,h⟩=>⟨x,hx,?_⟩,λ⟨x,hx,n,h1,h2⟩=>⟨x,hx,?_⟩⟩
 .rw[Us P.w P.p] at h;cases hk:bu x g.IDs with
  |none=>rw[hk] at h;simp at h
  |some n=>
   rw[hk,aL] at h;cases hy:N[n]? with
   |none=>rw[hy] at h;simp at h
   |some y=>rw[hy] at h;exact⟨n,rfl,((P.p.nd n y hy).2.2.1 j hj).symm.trans h⟩
 .have hn:=(cr (gb h1).1).1;have pl:=P.p.len;have nI:=P.w.nI;obtain⟨y,hy⟩:∃y,N[n]?=some y:=⟨_,EH aa⟩;rw[Us P.w P.p,h1,aL,hy];exact((P.p.nd n y hy).2.2.1 j hj).trans h2
theorem Ahy:0<(Bw g m N).lev x↔x∈g.IDs:=by
 have pl:=P.p.len;have nI:=P.w.nI;cases hk:bu x g.IDs with
 |none=>
  have:(Bw g m N).lev x=0:=by show(match M6 ⟨g.Cards,m,N⟩ x with|some y=>y.level|none=>0)=_;rw[Us P.w P.p,hk];rfl
  grind [jv]
 |some k=>have hid:=(gb hk).1;obtain⟨y,a,c,_⟩:=W6 P.w P.p hid;have hkl:=(cr hid).1;obtain⟨u,hu,_⟩:=dk (l:=g.Up) (k:=k) (by have:=P.w.nU;omega);have b:=P.p.lv k y u a hu;grind [Ahx]
theorem Alx(c:g.L.length<=14){l:A3}(hl:l.length<=1000):∃v p,Ko g l=some v/\EA g v/\v.Nodup/\R0 He (nmS (gW (RW ⟨g.Cards,m,N⟩ l)) N)=some p/\p.length=(nmS (gW (RW ⟨g.Cards,m,N⟩ l)) N).length/\p.length<=14/\(Lm (Bw g m N) p l).Perm v:=by
 have pl:=P.p.len;have nI:=P.w.nI;obtain⟨v,e,d,b,f,h⟩:=yf P.w (ids:=l) aa;have hs:=Ado (p:=gW (RW ⟨g.Cards,m,N⟩ l)) (N:=N);rw[AfD P] at hs;have hle:=hs.length_le;obtain⟨p,e2,a,i⟩:=Uv Qi (P.w.nd.sublist hs) aa;have hpl:=a.length_eq;refine⟨v,p,e,d,b,e2,hpl,aa,(List.perm_ext_iff_of_nodup (AfC (a.nodup_iff.2 (P.w.nd.sublist hs))) b).2 λx=>?_⟩;rw[Adp,f,a.mem_iff,Adn,Ahy P];refine or_congr_left ⟨λ⟨k,y,h1,h2,h3⟩=>?_,λ⟨k,h1,h2⟩=>?_⟩
 .have hk:=(cr h1).1;exact⟨k,h3▸(P.p.nd k y h1).2.1,(Vc P aa).1 h2⟩
 .have hk:=(cr h1).1;obtain⟨y,hy⟩:∃y,N[k]?=some y:=⟨_,EH aa⟩;have:=(P.p.nd k y hy).2.1;grind [Vc]
end
theorem AjI{gl:Cd}{gg:Aj}{o:Bj}{s:A3}(hn:s.length<=14)(hp:s.Perm v)(hs:∀x∈v,1<=x.Seq):∃fr fk w,ba prog gl 116 [.ptr (Ag gg) 0,aE aj s] (aE Bu fr)/\Abd fr (λf=>JG f o)=some fk/\qN v o.By=some w/\fk=(decide (0<w)&&decide (w<=o.Seq)):=by
 obtain⟨fs,hq,hi⟩:=Ai1 hn;have hl:=AaM (ids:=s) aa;have hI:=AgK s aa;have hfl:fs.length=(Uw s).2.es.length:=by rw[hq.length_eq,Ho]
 have hF:=(AbT (gl:=gl) (gg:=gg) (ids:=s) (r:=fs) (n:=fs.length) aa aa hfl.symm hi).fn Bg.sz (Bg.len _) (Bg.imm _);obtain⟨w,e,hw⟩:=UD (ids:=v) (by have:=hp.length_eq;omega) hs o.By;refine⟨fs,_,w,hF,?_,e,rfl⟩;rw[show(λf=>JG f o)=λf=>some (decide (f.Device=o.By)&&decide (f.Seq<=o.Seq)) from funext λf=>by unfold JG;cases decide (f.Device=o.By)<;>rfl,Abz (p:=λf:Bf=>decide (f.Device=o.By)&&decide (f.Seq<=o.Seq)) aa λ_ _=>rfl];congr 1;rw[Bool.eq_iff_iff,List.any_eq_true];simp only[bA,decide_eq_true_eq];have hm:∀f:Bf,f∈fs↔(Uw s).2.get f.Device=some f.Seq:=λf=>by rw[hq.mem_iff,T0]
 have hc:∀f,O6 v f=O6 s f:=λf=>(Abq hp f).symm;have hex:∀{d q:Int},2<=O6 s ⟨d,q⟩->∃y∈v,y.By=d/\y.Seq=q:=λ{d q} h=>by unfold O6 at h;obtain⟨y,hy⟩:=List.exists_mem_of_length_pos (l:=s.filter λx=>decide (x.By=d)&&decide (x.Seq=q)) (Nat.lt_of_lt_of_le B5 h);rw[Hq] at hy;have:=hy.2;simp only[bA,decide_eq_true_eq] at this;exact⟨y,hp.mem_iff.1 hy.1,this.1,this.2⟩
 unfold FsI at hw;simp only[hc] at hw;refine⟨λ⟨f,hf,h1,h2⟩=>?_,λ⟨h1,h2⟩=>?_⟩
 .rw[hm] at hf;have h3:=hI.a _ _ hf;obtain⟨y,g,c,i⟩:=hex h3;rw[h1] at h3 c;rcases hw with⟨_,h5⟩|⟨z,k1,k2,k3,j,k5⟩
  .exact absurd (i▸h3) (h5 y g c)
  .have a:=k5 y g c (i▸h3);have b:=hs z k1;omega
 .rcases hw with⟨h5,_⟩|⟨z,k1,k2,k3,j,k5⟩
  .omega
  .obtain⟨q,q1,k⟩:=hI.b _ _ j;exact⟨⟨o.By,q⟩,(hm _).2 q1,rfl,by show q<=o.Seq;omega⟩
theorem Aly{D':C7}{i:Ab}(h:o7 D o i=some D'):D'.In=D.In:=by grind [o7,GJ]
theorem AiH(h:Rr R D)(hR:Bi R)(d:Int):PO R d=decide (d∈Ha R):=by
 have hp:=(LX hR).2.1;have hi:=h.in_ d;unfold PO Hj;rw[Bool.eq_iff_iff,decide_eq_true_iff,hp.mem_iff,Fo];by_cases c:d∈D.In
 .grind [Hd]
 .rw[BW c] at hi;rw[hi];refine⟨(by grind),λ⟨q,hq,e⟩=>?_⟩;have hg:=JI hR.ci (k:=q.1) (v:=q.2.1) (n:=q.2.2) hq;grind
theorem af0{b:Bh}(h1:a.length<=1000)(h2:b.length<=1000):AB (qn a b) ([],0)=some (b.filter (QF a)):=by
 refine T.eq (T.forA b.length (λk acc=>acc=(b.take k).filter (QF a)) aa aC (λk acc hk hj=>?_) λacc hj=>?_)
 .obtain⟨y,hy,hm⟩:=dk hk;subst hj;have hl:((b.take k).filter (QF a)).length<=1000:=by grind
  unfold qn;simp only[eA hk,ax,au,hy,aL,cX (show a.length<=1000000 by omega)];refine .ite (λc=> .bind (.app cq (.some ⟨aq aa,?_⟩))) λc=> .some ⟨aq aa,?_⟩
  .grind [Rb]
  .rw[Rb hy,O7];simp[c]
 .unfold qn;dsimp only;rw[eF,A7];subst hj;exact .some (show _=_ by rw[D3])
theorem af1{b x:Bh}(h0:x.length<=1000)(h1:a.length<=1000)(h2:b.length<=1000):AB (qm a b) (x,0)=some (x++a.filter λd=> !QF b d):=by
 refine T.eq (T.forA a.length (λk acc=>acc=x++(a.take k).filter λd=> !QF b d) aa aC (λk acc hk hj=>?_) λacc hj=>?_)
 .obtain⟨y,hy,hm⟩:=dk hk;subst hj;have hl:((a.take k).filter λd=> !QF b d).length<=1000:=by grind
  unfold qm;simp only[eA hk,ax,au,hy,aL,cX (show b.length<=1000000 by omega)];refine .ite (λc=> .bind (.app cq (.some ⟨aq aa,?_⟩))) λc=> .some ⟨aq aa,?_⟩
  .grind [Rb]
  .rw[Rb hy,O7];simp[c]
 .unfold qm;dsimp only;rw[eF,A7];subst hj;exact .some (show _=_ by rw[D3])
section
variable {g:AQ} {m:Jn} {N:Jk} (P:Pg g m N)
include P
theorem Alz(k:Jo g 1000 D)(h:Rr R D)(hR:Bi R){i:Ab}(so:Be o)(hp:UQ o i):∃D',DM D o i=some D'/\lu D'=some (Ha (Vq R o i))/\∀d,PO (Vq R o i) d=decide (d∈Ha (Vq R o i)):=by
 obtain⟨D',e,k',_⟩:=Gc P.w B5 k so i;refine⟨D',e,?_⟩;have z:=VA P k B5;have hQ:=Sb hR hp;have a:=k.dev;have b:=k.nL;by_cases c:o.Kind=9
 .have eD:DM D o i=o7 D o i:=by unfold DM;rw[ofE z.z,aL];obtain⟨f,e3,_⟩:=Ya z.z h (X9 D.Cards o.By);grind
  rw[eD] at e;have ei:=Aly e;have eQ:(Vq R o i).in_=R.in_:=by grind [Vq,Aan]
  have e1:Ha (Vq R o i)=Ha R:=by grind [Ha]
  have e2:lu D'=lu D:=by grind [lu]
  refine⟨by grind [Ajc,Sy.z],λd=>?_⟩;rw[e1,<-AiH h hR d];grind [PO]
 .obtain⟨j,e2,h2⟩:=doE z (by grind) h hR (o:=o) (i:=i) (by grind);rw[e] at e2;obtain rfl:=Bo e2;exact⟨Ajc ⟨by rw[k'.cards];exact P.w.nC,by grind [Jo],by grind [Jo],by grind [Jo]⟩ h2 hQ,AiH h2 hQ⟩
end
theorem Acr(hR:Bi R)(h:Mh R o=0):1<=o.By/\o.By<=6:=by
 unfold Mh at h;split at h
 .grind [Bi,Dx]
 .cases c:PO R o.By with
  |false=>grind
  |true=>
   unfold PO Hj at c;cases hg:R.in_.get o.By with
   |none=>grind
   |some v=>grind [Bi,Hd]
section
variable {g:AQ} {m:Jn} {N:Jk} (P:Pg g m N)
include P
theorem Adq(l:g.L.length<=14)(d:∀(i:Nat) (o:Bj) (x:Ab),g.L[i]?=some o->g.IDs[i]?=some x->x.Seq=o.Seq)(f:EA g v)(b:v.Nodup):∃row vs:A3,n8 g v=some row/\row.Perm v/\(row.Pairwise λx y=>M7 (Bw g m N) x y<0)/\vJ v=some vs/\vs.Perm (v.filter (voP v))/\vs.length<=1000/\AbG fI (Nf ⟨g.Cards,m,N⟩ row vs) (Bw g m N)/\(∀x∈row,x∈g.IDs)/\(∀x∈vs,x∈g.IDs)/\row.Nodup/\row.length<=14/\∀s:A3,s.Perm v->ba prog fI 62 [.ptr (Ag ⟨g.Cards,m,N⟩) 0,aE aj s] (aE aj row)/\ba prog fI 227 [.ptr (Ag ⟨g.Cards,m,N⟩) 0,aE aj s] (aE aj vs):=by
 have w:=P.w;have nI:=w.nI;have hG:=PL w P.p;have hI:=SW hG;have opx:∀x∈g.IDs,∃(i:Nat) (o:Bj),g.IDs[i]?=some x/\g.L[i]?=some o/\Gd o:=by grind [G9,Fq.op]
 have hseq:∀x∈g.IDs,1<=x.Seq/\x.Seq<=2147483647:=λx hx=>by obtain⟨i,o,h1,h2,t⟩:=opx x hx;rw[d i o x h2 h1];exact(T1 t.numbers).seq
 have hv14:v.length<=14:=by have:=EC b f.sub;omega
 obtain⟨row,n,c,j⟩:=UE w P.p aa b f.sub;have hrl:row.length<=14:=by rw[c.length_eq];exact hv14
 have hrn:row.Nodup:=c.nodup_iff.2 b;have hrm:∀x∈row,x∈g.IDs:=λx hx=>f.sub x (c.mem_iff.1 hx);have hO:∀s:A3,s.Perm v->ba prog fI 62 [.ptr (Ag ⟨g.Cards,m,N⟩) 0,aE aj s] (aE aj row):=λs a=>by
  have hs14:s.length<=14:=by rw[a.length_eq];exact hv14
  obtain⟨r,e,k,h⟩:=Uv (Zv (Bw g m N)) (a.nodup_iff.2 b) hs14;have:r=row:=TG (Zv (Bw g m N)).tr S8 (k.trans (a.trans c.symm)) h j;grind [AbP,List.Perm.length_eq]
 obtain⟨vs,w1,w2,q⟩:=Acq (ids:=v) aa b (by grind [EA.sub]);have hvm:∀x∈vs,x∈g.IDs:=by grind [EA.sub]
 have hvl:vs.length<=1000:=by grind [List.Perm.length_eq,KZ]
 have hV:∀s:A3,s.Perm v->ba prog fI 227 [.ptr (Ag ⟨g.Cards,m,N⟩) 0,aE aj s] (aE aj vs):=λs a=>by
  have hs14:s.length<=14:=by rw[a.length_eq];exact hv14
  obtain⟨r,e,k,h⟩:=Aip (gl:=fI) (gg:=⟨g.Cards,m,N⟩) hs14 (a.nodup_iff.2 b) (by grind [EA.sub,List.Perm.mem_iff]);have hq:(s.filter (voP s)).Perm (v.filter (voP v)):=by rw[show voP s=voP v from funext (AfB a)];grind
  have:r=vs:=TG Qi.tr Ad7 (by grind) h q;exact this▸e
 have hod:∀x∈row,UQ ((Bw g m N).o x) x:=λx hx=>by obtain⟨i,o,h1,h2,_⟩:=opx x (hrm x hx);rw[(P.op h2 h1).2];grind [Pg.od]
 exact⟨row,vs,n,c,j,w1,w2,hvl,⟨hI,P.cd,hod,by show row.length<=1000;omega⟩,hrm,hvm,hrn,hrl,λs hs=>⟨hO s hs,hV s hs⟩⟩
theorem Abr(b:g.L.length<=14)(c:∀(i:Nat) (o:Bj) (x:Ab),g.L[i]?=some o->g.IDs[i]?=some x->x.Seq=o.Seq){v:A3}(f:EA g v)(j:v.Nodup):∃(R:Ad) (D:C7) (sen:Bh),zY g v=some D/\Rr R D/\Bi R/\Jo g 1000 D/\(∀s:A3,s.Perm v->SH prog fI 24 [.ptr (Ag ⟨g.Cards,m,N⟩) 0,aE aj s] [] 0 0 (.ref 0 0) (BG f0 R)/\ba prog fI 120 [.ptr (Ag ⟨g.Cards,m,N⟩) 0,aE aj s] (aE cZ sen))/\sen.Nodup/\sen.length<=12/\jn g v=some sen:=by
 obtain⟨row,vs,h,k,_,w1,_,hvl,hL,hrm,hvm,hrn,hrl,hS⟩:=Adq P b c f j;have hI:=SW (PL P.w P.p);obtain⟨s1,s2⟩:=AeL P hrm;have d:=Ss hI (hS row k).1 aa;have e:=Aa2 P h aa hrm;obtain⟨D,l,cs,n,y,q,t,u⟩:=Am0 P (ids:=v) f h hrn aa hrm w1 hvl hvm;have hod:=hL.o;have hcl:cs.length<=1000:=by grind
 exact⟨_,D,_,l,q,t,u,λs a=>⟨Ah5 hI P.cd (Aes (I:=Bw g m N) (ids:=s) (row:=row) (s:=NS (Bw g m N) row) (r:=cs) hL (hS s a).1 (hS s a).2 hvl d aa n) (by grind [Nf]) hcl,Ss hI (hS s a).1 aa⟩,s1,s2,e⟩
theorem Aea(f:g.L.length<=14)(j:∀(i:Nat) (o:Bj) (x:Ab),g.L[i]?=some o->g.IDs[i]?=some x->x.Seq=o.Seq)(so:Be o){i:Ab}(hid:pV o=some i)(k:ba prog fI 79 [.agg (aJ o)] (.agg (aj i)))(hp:1<=o.By/\o.By<=6->UQ o i):∃(l:Bh) (v:A3) (R:Ad) (fk:Bool) (sen:Bh),(iV prog fI 58 [.ptr (Ag ⟨g.Cards,m,N⟩) 0,.agg (aJ o)] 3 l.length (l.flatMap cZ)/\qo g o=some l/\l.length<=12/\l.Nodup)/\Ko g o.Past=some v/\l=Ad5 fk R o i sen/\Bi R/\(∃D,Rr R D)/\∀s:A3,s.Perm v->SH prog fI 24 [.ptr (Ag ⟨g.Cards,m,N⟩) 0,aE aj s] [] 0 0 (.ref 0 0) (BG f0 R):=by
 have w:=P.w;have hpl:=so.nPast;have hgl:o.Guards.length<=1000000:=by grind [Be.nGuards]
 have nI:=w.nI;have pl:=P.p.len;have hG:=PL w P.p;have hI:=SW hG;obtain⟨v,p,e1,n,t,e2,pe,B,a⟩:=Alx P f hpl;have hv14:v.length<=14:=by have:=EC t n.sub;omega
 obtain⟨R,D,sen,C,q,b,u,c,s1,s2,r⟩:=Abr P f j n t;have E:=Adl (gl:=fI) hG (by show N.length<=14;omega) (ids:=o.Past) aa e2 pe;have hS:=Afy hI E aa;generalize Lm (Bw g m N) p o.Past=s at hS a;have hs14:s.length<=14:=by rw[a.length_eq];exact hv14
 obtain⟨fr,fk,A,f1,f2,F,I⟩:=AjI (gl:=fI) (gg:=⟨g.Cards,m,N⟩) (o:=o) hs14 a (λx hx=>by obtain⟨i,h1⟩:=G9 (n.sub x hx);obtain⟨o,h2,_,H⟩:=w.op (i:=i) (by have:=(cr h1).1;omega);rw[j i o x h2 h1];exact(T1 H.numbers).seq.1)
 obtain⟨h1,hN⟩:=c s a;have hA:=Afz hS f1 f2 b h1 k hgl (by grind [Acr]) hN aa;refine⟨_,v,R,fk,sen,⟨hA,?_,?_⟩,e1,rfl,b,⟨D,q⟩,λs h=>(c s h).1⟩;all_goals clear hA c hN h1
 .unfold qo Ad5;rw[e1,aL,F,aL];have hj:(bif 0<A then(some (decide (A<=o.Seq)))else(some false))=some fk:=by grind
  rw[hj,aL];cases fk with
  |true=>rfl
  |false=>
  rw[A7,A7,C,aL,hid,aL,Ai4 (VA P u aa).z q b hgl i,aL];cases cm:decide (Mh R o≠0) with
  |true=>rfl
  |false=>
  have hp:=hp (Acr b (Decidable.of_not_not (Lw cm)));obtain⟨D',k1,k2,k3⟩:=Alz P u q b so hp;have hQ:=Sb b hp;generalize Vq R o i=Q at k2 k3 hQ;have hdl:(Ha Q).length<=1000:=by rw[(LX hQ).2.1.length_eq,Ho];grind [Bi.len]
  rw[A7,A7,k1,aL,k2,aL,r,aL,af0 hdl aa,aL,af1 (by grind) hdl aa,aL];have a1:sen.filter (QF (Ha Q))=haS Q sen:=by grind [List.filter_congr,KE]
  rw[a1];congr 2;grind [List.filter_congr,KE]
 .unfold Ad5;cases fk with
  |true=>simp
  |false=>
  cases cm:decide (Mh R o≠0) with
  |true=>simp
  |false=>
  have hQ:=Sb b (hp (Acr b (Decidable.of_not_not (Lw cm))));generalize Vq R o i=Q at hQ;obtain⟨_,y,_⟩:=LX hQ;have dn:(Ha Q).Nodup:=y.nodup_iff.2 hQ.ci.kd;have hn:(haS Q sen++(Ha Q).filter (Abp (haS Q sen))).Nodup:=by grind
  refine⟨Ak8 hn λd hd=>?_,hn⟩;have i6:=hQ.i6;rcases I6.1 hd with h|h
  .have h:=(Hq.1 h).2;unfold PO Hj at h;cases hg:Q.in_.get d with
   |none=>grind
   |some v=>grind [Hd]
  .obtain⟨e,he,rfl⟩:=Fo.1 (y.mem_iff.1 (Hq.1 h).1);have:=i6 e he;omega
theorem AfF(a:g.L.length<=14)(b:∀(i:Nat) (o:Bj) (x:Ab),g.L[i]?=some o->g.IDs[i]?=some x->x.Seq=o.Seq)(so:Be o){i:Ab}(hid:pV o=some i)(c:ba prog fI 79 [.agg (aJ o)] (.agg (aj i)))(hp:1<=o.By/\o.By<=6->UQ o i):∃l:Bh,iV prog fI 58 [.ptr (Ag ⟨g.Cards,m,N⟩) 0,.agg (aJ o)] 3 l.length (l.flatMap cZ)/\qo g o=some l/\l.length<=12/\l.Nodup:=by obtain⟨l,_,_,_,_,h,_⟩:=Aea P a b so hid c hp;exact⟨l,h⟩
end
def Pq{α:Type}(x:Option α)(Q:α->Prop):Prop:=∀v,x=some v->Q v
section
variable {α β:Type} {x:Option α} {f:α->Option β} {Q:β->Prop} {R:α->Prop}
theorem Pq.b(h:∀v,Pq (f v) Q):Pq (x.bind f) Q:=λw e=>by obtain⟨v,_,e⟩:=GJ.1 e;exact h v w e
theorem Pq.m(h:Pq x R)(k:∀v,R v->Pq (f v) Q):Pq (x.bind f) Q:=λw e=>by obtain⟨v,e',e⟩:=GJ.1 e;exact k v (h v e') w e
theorem Pq.i{c:Bool}{a b:Option α}(h1:c=true->Pq a R)(h2:c=false->Pq b R):Pq (bif c then a else b) R:=by grind
theorem Pq.s{v:α}(h:R v):Pq (some v) R:=λw e=>(by grind)
end
theorem Pq.of{α:Type}{x:Option α}{Q:α->Prop}(h:T x Q):Pq x Q:=λv e=>by obtain⟨w,e',h⟩:=h;grind
def Kn(o:Bj):Prop:=o.Kind=9->1<=o.Need/\o.Need<=1000000
theorem Aeb(h0:0<=n)(h1:n<=1000000):Pq (sc g ids o n) Kn:=by
 unfold sc;refine .b λj=> .b λk=> .b λl=> .i (λc=>?_) λc=>?_
 .refine .b λp=> .b λa=> .m (R:=λq=>0<=q/\q<=1) (λq e=>?_) λd hq=> .b λh=> .s λ_=>?_
  .grind [bM,u9,iI,ah]
  grind [bM]
 .have c':=Lw c;refine .b λ_=> .b λ_=> .b λ_=> .b λ_=> .b λ_=> .b λ_=> .i (λ_=> .s λe=>absurd e c') λ_=> .s λe=>absurd e c'
theorem Ahz{m:Int}(hm:DW m):Pq (sd g n m) Kn:=by
 unfold sd;refine .b λw=> .m (.of (eX hm B5)) λj h3=> .b λy=> .i (λ_=> .s λe=>(by grind)) λ_=> .b λa=> .b λl=> .b λj12=> .b λo=> .b λp=>?_;have hk:0<=wI (j.tdiv 20)/\wI (j.tdiv 20)<=1000000:=by grind [bM]
 have no:∀{k:Int},decide (a.Kind=k)=true->k≠9->∀{q:Int},a.Kind=9->1<=q/\q<=1000000:=by grind
 refine .m (R:=λx:Bj×A3=>Kn x.1) (.i (λc=> .b λ_=> .s λe=>(by grind)) λ_=> .m (R:=λx:Bj×A3=>Kn x.1) (.i (λc=> .b λ_=> .s λe=>(by grind)) λ_=> .m (R:=λx:Bj×A3=>Kn x.1) (.i (λc=> .s λe=>(by grind)) λ_=> .m (R:=λx:Bj×A3=>Kn x.1) (.i (λc=> .b λ_=> .b λ_=> .b λ_=> .s λe=>(by grind)) λ_=> .m (R:=λx:Bj×A3=>Kn x.1) (.i (λc=> .s λe=>(by grind)) λ_=> .m (R:=λx:Bj×A3=>Kn x.1) (.i (λc=> .s λe=>(by grind)) λ_=> .m (R:=λb:Bool=>a.Kind=9->b=true) (by grind [Pq.s]) λr t=> .m (R:=λx:Bj×A3=>Kn x.1) (.i (λ_=> .m (Aeb hk.1 hk.2) λu h=> .b λ_=> .s h) λc=> .s λe=>(by grind)) λ_ h=> .s h) λ_ h=> .s h) λ_ h=> .s h) λ_ h=> .s h) λ_ h=> .s h) λ_ h=> .s h) λv d=>?_;exact .b λ_=> .b λ_=> .b λ_=> .b λ_=> .b λ_=> .s d
def R5(l:Mw):Bool:=decide (l.length<=12)&&(List.range 12).all λk=>match l[k]?,l[k+1]? with
 |some a,some b=>decide (a.Device<=b.Device)&&(decide (0<=a.Device)&&decide (b.Device<=1000000))
 |_,_=>true
theorem OM{l:Mw}(h:R5 l=true):xf l:=by unfold R5 at h;simp only[bA,decide_eq_true_eq] at h;refine⟨h.1,λk a b ha hb=>?_⟩;have hk:=(cr ha).1;have:=Gu.1 h.2 k (List.mem_range.2 aa);rw[ha,hb] at this;simpa using this
theorem Ls:xf u7:=OM aH
structure Anj (r:AQ) (ms:Nat->Jn) (N:Jk):Prop where
 wf:Fq r
 ne:r.L≠[]
 run:Adh r ms N
 pg:OI r (ms r.L.length) N
 gr:MH g0 r
 gC:r.Cards=u7
 n14:r.L.length<=14
theorem neZ(a:Int):decide (a≠a)=false:=aC
theorem Vm{gl:Cd}{l:Bh}(hn:l.length<=1000000):ba prog gl 17 [aE cZ l,aE cZ l] (bG true):=by
 refine Gh func17 ?_;refine Un (l:=l) aa (λk:Nat=>(s0 26 gl [(0,aE cZ l),(1,aE cZ l),(5,iG (k:Int))] [] 0 0)) 1110122 [hr 10 (neZ (ah l))] [] (λB k x hx hz k5=>?_) (λB=>?_)
 .have hlt:=(cr hx).1;exact jw [hr 14 (CM hx),Az 19 (rZ.ixZ hz),Az 20 (rZ.p1Z tZ hz),Az 23 (rZ.ixZ hz),Az 24 (rZ.p1Z tZ hz),hr 25 (neZ x),hbb 16 (Xl (q:=k) aa)] [] k5 []
 .exact Ar [hr 14 (DH (s:=l))] []
theorem PM{i:Ab}(so:Be o)(h:pV o=some i):i.By=o.By/\i.Seq=o.Seq:=by obtain⟨j,e,a,b,_⟩:=wN so;grind
theorem Acv{b:AQ}(h:MH b g)(hb:b.L=[]):∀(i:Nat) (o:Bj),g.L[i]?=some o->∃c∈g.Cards,c.Device=o.By:=by
 induction h with
 |base=>grind
 | @step g o id up row gr w sm _ e a hid hrow ih=>
  intro i d ho;have ho:(g.L++[o])[i]?=some d:=ho;rcases je ho with⟨_,h⟩|⟨_,rfl⟩
  .exact ih i d h
  .obtain⟨c,hc,_⟩:=a.card;exact⟨c,yd hc⟩
theorem Ads{cs:Mw}(h:cs.all KK=true){c:DP}(hc:c∈cs):1<=c.Device/\c.Device<=6/\1<=c.Member/\c.Member<=3:=by grind [KK]
theorem AlA:u7.map (·.Device)=[1,2,3,4,5,6]:=aH
section
variable {r:AQ} {ms:Nat->Jn} {N:Jk}
theorem AiI{b:AQ}{m:Jn}(w:Fq r)(p:OI r m N)(gr:MH b r)(hb:b.L=[])(hl:r.Cards.length<=1000)(h6:r.Cards.all KK=true)(hn:(r.Cards.map (·.Device)).Nodup):Pg r m N:=by have hcd:=Acv gr hb;refine⟨w,p,λi o x ho hx=>?_,(by grind),⟨hl,λc hc=>Ads h6 hc⟩,hn⟩;grind [Fq.ops,T1,Gd.numbers,Be.nGuards,UQ,PM,Fq.ids,Ow.k9,ah,Ads]
end
theorem Aaf{m:Jn}(P:Pg g m N)(a:g.L.length<=14){o:Bj}(so:Be o)(hk:Kn o):∃l:Bh,iV prog fI 58 [Z8 g.Cards m N,.agg (aJ o)] 3 l.length (l.flatMap cZ)/\qo g o=some l/\l.length<=12/\l.Nodup:=by
 obtain⟨i,e,hi⟩:=TU so;have hb:=PM so hi;have hg:o.Guards.length<=1000000:=by grind [Be.nGuards]
 have:=AfF P a (λi o x ho hx=>(PM (P.w.ops i o ho).1 (P.w.ids i o x ho hx)).2) so hi (TP fI so e) λb=>⟨hb.1,hg,hk,b⟩;grind [Ag,RJ]
theorem AlB{x:Option α}{Q:α->Prop}(h:T x Q):T x λv=>x=some v/\Q v:=by obtain⟨v,e,q⟩:=h;exact⟨v,e,e,q⟩
theorem Iv{o:Bj}(h:T (qo g o) λl=>l.length<=3000):T (jm g o) λl=>l.length<=200000:=by unfold jm;refine .bindc (zh _) λa _=> .ite (λ_=> .some aC) λ_=> .bind (h.mono λb h4=>?_);grind [cX,T.some,Od]
section
variable {gl:Cd}
abbrev DnV(gl:Cd)(fi:FuncId)(a b:Bk)(p:Ab->Bool):Prop:=R7 prog gl fi a b (λx:Ab=>[.agg (aj x)]) (λx:Bool=>bG x) (λk=>some (p k))
theorem AfG{p:Ab->Bool}(hv:DnV gl fi fa fc p){l:A3}(hn:l.length<=1000000):iV prog gl 61 [aE aj l,.clo (.func fi) fa fc] 36 (l.filter p).length ((l.filter p).flatMap aj):=by
 refine OW func61 ?_;refine Un (l:=l) aa (λk:Nat=>(s0 23 gl [(1,.clo (.func fi) fa fc),(5,.rsl 0 0 ((l.take k).filter p).length),(8,aE aj l),(9,iG (ah l)),(10,iG (k:Int))] [(0,Bt ((l.take k).filter p))] 1 0)) 1110122 [] [hc hv.im,hc (ac.imm [])] (λB k x hx hz k5=>?_) (λB=>?_)
 .have hlt:=(cr hx).1;have hl:((l.take k).filter p).length<=k:=JF (KZ _ _) (by rw[LL];omega);rw[Hp,hx,Option.toList_some,O7] at k5;generalize (l.take k).filter p=q at k5 hl⊢;have hcs:=hv.cs (c:=2) (x:=x) rfl (aY (aG 20 (.agg (aj x)) aH) bf);cases hp:p x with
  |true=>rw[hp] at hcs;rw[List.filter_cons_of_pos hp,List.filter_nil] at k5;exact jw [hr 11 (CM hx),Az 12 (ac.ixZ hz),Az 13 (ac.ptZ aW hz),Go.Proofs.YtlijnaneopediaaGreatDoor.hz 16 [] hcs,Tn 20 ac 24 q x aa,hbb 21 (Xl (q:=k) aa)] [hc hv.im,hc (el (q++[x])),hc (ac.imm (q++[x]))] k5
  |false=>rw[hp] at hcs;rw[List.filter_cons_of_neg (by simp[hp]),List.filter_nil,Nj] at k5;exact jw [hr 11 (CM hx),Az 12 (ac.ixZ hz),Az 13 (ac.ptZ aW hz),Go.Proofs.YtlijnaneopediaaGreatDoor.hz 16 [] hcs,hbb 21 (Xl (q:=k) aa)] [hc hv.im,hc (el q),hc (ac.imm q)] k5
 .rw[D3];exact EI [hr 11 (DH (s:=l))] (ac.imm (l.filter p))
section
variable {gg:Aj}
theorem Adr{l:Bh}{b:Bool}{ss:M0}(hc:ba prog gl 130 [iG o.Kind] (bG b))(hA:b=true->ba prog gl 58 [.ptr (Ag gg) 0,.agg (aJ o)] (aE cZ l))(a:b=true->ba prog gl 131 [aE cZ l,iG o.By] (aE Jc ss)):ba prog gl 64 [.ptr (Ag gg) 0,.agg (aJ o)] (aE Jc (bif b then ss else[])):=by
 refine Gh func64 ?_;cases b with
 |false=>exact Ar [hf 7 hc] []
 |true=>exact Ar [hf 7 hc,hf 11 (hA rfl),hf 14 (a rfl)] []
def Acs(n:Nat)(o:Bj):Bool:=bif (0:Int)<(n:Int)then decide ((n:Int)=ah o.Path)else false
theorem AhA(h:Pa gl gg I){ss:M0}(hS:ba prog gl 64 [.ptr (Ag gg) 0,.agg (aJ (I.o x))] (aE Jc ss)):ba prog gl 63 [.agg (aj x),.ptr [.ptr (Ag gg) 0] 0] (bG (Acs ss.length (I.o x))):=by
 have ho:=h.op x;refine Gh func63 ?_;unfold Acs;cases c:decide ((0:Int)<(ss.length:Int)) with
 |false=>exact Ar [hf 10 ho,hf 15 hS,hr 18 c] []
 |true=>exact Ar [hf 10 ho,hf 15 hS,hr 18 c] []
theorem Acu(h:Pa gl gg I){row:A3}{ss:Ab->M0}(hS:∀x,ba prog gl 64 [.ptr (Ag gg) 0,.agg (aJ (I.o x))] (aE Jc (ss x)))(hO:ba prog gl 62 [.ptr (Ag gg) 0,aE aj ids] (aE aj row))(hn:row.length<=1000):ba prog gl 21 [.ptr (Ag gg) 0,aE aj ids] (aE aj (row.filter λx=>Acs (ss x).length (I.o x))):=by have hv:DnV gl 63 [] [.ptr [.ptr (Ag gg) 0] 0] (λx=>Acs (ss x).length (I.o x)):=⟨aH,bf,aY (aG 20 (.ptr [.ptr (Ag gg) 0] 0) aH) bf,λx r e=>by cases e;exact AhA h (hS x)⟩;have hF:=AfG hv (l:=row) aa;refine Gh func21 ?_;exact Ar [hf 7 hO,ho 9 [aE aj row,.clo (.func 63) [] [.ptr [.ptr (Ag gg) 0] 0]] [] hF (kF _)] [hc (ac.al (row.filter λx=>Acs (ss x).length (I.o x)))]
end
end
def AjB(k:Int):Bool:=(GI k).getD false
theorem Afq{k:Int}(h:0<=k/\k<=13):GI k=some (AjB k)/\ba prog fI 130 [iG k] (bG (AjB k)):=by
 have:k=0\/k=1\/k=2\/k=3\/k=4\/k=5\/k=6\/k=7\/k=8\/k=9\/k=10\/k=11\/k=12\/k=13:=aa;rcases this with rfl|rfl|rfl|rfl|rfl|rfl|rfl|rfl|rfl|rfl|rfl|rfl|rfl|rfl
 all_goals
  refine⟨aH,Gh func130 ?_⟩
  exact Ar [] []
def Sg(g:AQ)(o:Bj):Bh:=(qo g o).getD []
def stL(g:AQ)(o:Bj):M0:=bif AjB o.Kind then tpL o.By (Sg g o) else[]
theorem AiF{m:Jn}(P:Pg g m N)(a:g.L.length<=14)(so:Be o)(hk:Kn o)(h13:0<=o.Kind/\o.Kind<=13):ba prog fI 64 [.ptr (Ag ⟨g.Cards,m,N⟩) 0,.agg (aJ o)] (aE Jc (stL g o))/\jm g o=some (stL g o)/\Aaa o.By (stL g o)/\ba prog fI 58 [.ptr (Ag ⟨g.Cards,m,N⟩) 0,.agg (aJ o)] (aE cZ (Sg g o))/\qo g o=some (Sg g o)/\(Sg g o).length<=12:=by
 obtain⟨l,hA,e,hl,hn⟩:=Aaf P a so hk;obtain⟨c1,c2⟩:=Afq h13;have hA':ba prog fI 58 [.ptr (Ag ⟨g.Cards,m,N⟩) 0,.agg (aJ o)] (aE cZ l):=by grind [A9.fo,rZ,Ag,RJ]
 grind [Sg,stL,Adr,Afp,jm,cX,KE,Afo,tpL,Aab,AjA]
theorem WY(w:Fq g)(hnd:g.IDs.Nodup){l:Bh}(hi:∀x∈l,DW x):T (Uk g l) λv=>EA g v/\v.Nodup:=by
 have nL:=w.nL;have nI:=w.nI;unfold Uk;refine .bind (T.mono (Q:=λb:Bool=>b=false->0<g.L.length) (by grind [T.some,ah]) λb hb=> .ite (λ_=> .bind (by grind [T.mono,Cz,T.some,EA,List.Perm.length_eq])) λh=>?_);have hp:=hb h;refine .bind (T.mono (T.loop (Q:=λr:A3=>r.length<=10) (λs=>0<=s.2/\s.2<=4/\(s.1.length:Int)<=s.2) (λs=>(5-s.2).toNat) (by grind) (by grind) ?_) λv hv=> .bind (by grind [T.mono,yf,T.some]));rintro⟨a,i⟩ ⟨c,i1,d⟩;simp only at c i1 d;unfold SM;refine .bind (T.mono (Q:=λb:Bool=>b=true->i<l.length/\i<4) (.dec (λh1=> .some λe=>⟨h1,DD e⟩) (by grind [T.some])) λb hb=> .ite (λe=>?_) λ_=> .some (show a.length<=10 by omega));obtain⟨b1,b2⟩:=hb e;have hw:wI (i+1)=i+1:=by grind [bM]
 refine .bind (.ixl c b1 λy _ hy=> .bind ((eX (hi y hy) (by unfold ah;omega)).mono λv hv=> .bind (.ixl hv.1 hv.2 λz _ _=> .bind (.app (by grind) (.some ⟨(by grind),?_⟩)))));all_goals grind
section
variable {g:AQ} {m:Jn} {N:Jk} (P:Pg g m N) (h14:g.L.length<=14) (hkn:∀(k:Nat) (o:Bj),g.L[k]?=some o->Kn o)
include P h14 hkn
theorem Alu(x:Ab):ba prog fI 64 [.ptr (Ag ⟨g.Cards,m,N⟩) 0,.agg (aJ ((Bw g m N).o x))] (aE Jc (stL g ((Bw g m N).o x)))/\Aaa x.By (stL g ((Bw g m N).o x))/\(x∉g.IDs->stL g ((Bw g m N).o x)=[])/\Aac g x=some (stL g ((Bw g m N).o x)):=by
 have w:=P.w;have nI:=w.nI;have nL:=w.nL;by_cases hx:x∈g.IDs
 .obtain⟨i,o,e1,e2,e3,_,so,a⟩:=w.place (lj.2 hx);obtain⟨h1,h2,h3,_⟩:=AiF P h14 so (hkn i o e3) (by have:=a.kind;omega);rw[(P.op e3 e2).2];rw[<-(PM so (w.ids i o x e3 e2)).1] at h3;refine⟨h1,h3,λh=>absurd hx h,?_⟩;unfold Aac;rw[dC aa,aL,e1,show decide ((i:Int)<0)=false from C5 aa,A7,au,e3,aL,h2];rfl
 .have e:(Bw g m N).o x=ip:=by unfold Gi.o;rw[AiQ w P.p,jv.2 hx];rfl
  have hp:gO g x<0:=Int.not_le.1 λh=>hx (lj.1 h);have e2:stL g ip=[]:=rfl;rw[e,e2];refine⟨Adr (b:=false) (l:=[]) (ss:=[]) (Afq (k:=0) B5).2 (λh=>by cases h) (λh=>by cases h),Aab,λ_=>rfl,?_⟩;unfold Aac;rw[dC aa,aL,CO hp,ax]
include P h14 hkn
def isC(g:AQ)(I:Gi)(x:Ab):Bool:=Acs (stL g (I.o x)).length (I.o x)
theorem Abl{v:A3}(hv:EA g v)(a:v.Nodup):∃row:A3,ba prog fI 21 [.ptr (Ag ⟨g.Cards,m,N⟩) 0,aE aj v] (aE aj (row.filter (isC g (Bw g m N))))/\JV g v=some (row.filter (isC g (Bw g m N)))/\row.Perm v/\(row.Pairwise λx y=>M7 (Bw g m N) x y<0)/\row.length<=14:=by
 have w:=P.w;have nI:=w.nI;have hI:=SW (PL w P.p);have hv14:v.length<=14:=by have:=EC a hv.sub;omega
 obtain⟨row,j,b,f⟩:=UE w P.p aa a hv.sub;have hrl:row.length<=14:=by rw[b.length_eq];exact hv14
 have hO:ba prog fI 62 [.ptr (Ag ⟨g.Cards,m,N⟩) 0,aE aj v] (aE aj row):=by obtain⟨r,e,l,q⟩:=Uv (Zv (Bw g m N)) a hv14;have:r=row:=TG (Zv (Bw g m N)).tr S8 (l.trans b.symm) q f;grind [AbP,PL,Pg.p,List.Perm.length_eq]
 refine⟨row,Acu hI (by grind [Alu]) hO aa,?_,b,f,hrl⟩;unfold JV;rw[j,aL];refine T.eq (.bind (T.mono (T.forA (Q:=λr:A3=>r=row.filter (isC g (Bw g m N))) row.length (λk acc=>acc=(row.take k).filter (isC g (Bw g m N))) aa aC (λk acc hk hj=>?_) λacc hj=>?_) λ_ h=> .some h))
 .obtain⟨x,hx⟩:∃x,row[k]?=some x:=by simp_all
  obtain⟨i,o,e1,e2,e3,_,so,s⟩:=w.place (lj.2 (hv.sub x (b.mem_iff.1 (bO hx))));obtain⟨_,hS,hl,_⟩:=AiF P h14 so (hkn i o e3) (by grind [Gd]);have hl:=hl.n;have ha:acc.length<=14:=by grind
  unfold M5;dsimp only;rw[eA hk,ax,au,hx,aL,dC aa,aL,e1,show decide ((i:Int)<0)=false from(by simp_all),A7,au,e3,aL,hS,aL];have hc:(bif 0<ah (stL g o)then(((some o:Option Bj)).bind λd=>some (decide (ah (stL g o)=ah d.Path)))else(some false))=some (isC g (Bw g m N) x):=by unfold isC;rw[(P.op e3 e2).2];grind [Acs,ah]
  rw[hc,aL,Hp,hx,Option.toList_some,O7];cases c:isC g (Bw g m N) x with
  |true=>rw[ax,aL,show List.filter (isC g (Bw g m N)) [x]=[x] by simp[c]];exact .bind (.app (by grind) (.some ⟨aq aa,by rw[hj]⟩))
  |false=>rw[A7,show List.filter (isC g (Bw g m N)) [x]=[] by simp[c],Nj];exact .some ⟨aq aa,hj⟩
 .unfold M5;dsimp only;rw[eF,A7];exact .some (show acc=_ by grind)
end
structure Aoo where
 Set:Bh
 Pub:Nat
 By:Ab
 N:Int
section
variable {gl:Cd}
end
theorem Ahp{N:Jk}{j:Int}(h:j∈u):lvN N j<lvF N u:=by
 have key:∀(u:Bh) (a:Int),a<=u.foldl (λa j=>E1 a (lvN N j+1)) a/\∀j∈u,lvN N j+1<=u.foldl (λa j=>E1 a (lvN N j+1)) a:=by intro u;induction u<;>grind [E1]
 have:=(key u 1).2 j h;unfold lvF;omega
section
variable {g:AQ} {m:Jn} {N:Jk} (P:Pg g m N)
include P
theorem Afr:∀(d i k:Nat) {y z:C3},i-k<=d->Pm g i k=true->N[i]?=some y->N[k]?=some z->z.level<y.level
 |0,i,k,y,z,hd,h,_,_=>absurd (P.w.inlt i k h).1 aa
 |d+1,i,k,y,z,hd,h,hy,hz=>by
  have w:=P.w;have one:∀{i:Nat} {u:Bh} {y:C3},N[i]?=some y->g.Up[i]?=some u->(k:Int)∈u->z.level<y.level:=λ{i u y} h1 h2 h3=>by rw[P.p.lv i y u h1 h2];have:=Ahp (N:=N) h3;grind [lvN]
  obtain⟨u,hu,h1|⟨j,v,h1,h2,h3⟩⟩:=w.la i k h
  .grind
  .have hj:=(w.inlt i j h1);obtain⟨q,hq⟩:∃q,N[j]?=some q:=by grind
   have hk:=(w.up j v h2).2 _ h3;exact Int.lt_trans (one hq h2 h3) (Afr d i j aa h1 hy hq)
theorem Ahq(h:(Bw g m N).bef x y=true):M7 (Bw g m N) x y<0:=by
 rw[Ut P.w P.p] at h;split at h
 .rename_i i j hi hj;obtain⟨hi,_⟩:=gb hi;obtain⟨hj,_⟩:=gb hj;obtain⟨a,a1,a2,_⟩:=W6 P.w P.p hi;obtain⟨b,b1,b2,_⟩:=W6 P.w P.p hj;have:=Afr P _ _ _ (Dl _) h b1 a1;exact S7.2 (by grind)
 .cases h
end
section
variable {g:AQ} {m:Jn} {N:Jk} (P:Pg g m N) (h14:g.L.length<=14) (hkn:∀(k:Nat) (o:Bj),g.L[k]?=some o->Kn o)
include P h14
end
section
set_option maxHeartbeats 2000000
def Q1(g:AQ)(a:Ab)(b:Ab):Fp:=
 (fC g a).bind λe=>(fC g b).bind λf=>(bif 0<=e then(bif 0<=f then((aS g.In (E1 f 0)).bind λc=>(aS c (E1 e 0)).bind λd=>some d)else(some false))else(some false)).bind λh=>some h
theorem SN{g a b}:DC prog gl (Q1 g a b) 56 [.agg (aI g),.agg (aj a),.agg (aj b)] bG:=
 cy func56 λK=>BU 11 (dX gl) λh=>BU 14 (dX gl) λi=>cN 11110 (sp [] [(3,.ref 0 0),(7,iG h),(8,iG i)] [ob 0 30 (aI g)] 1) []<|cC 11110 (λe=>sk [] [(6,bG e)] [] 0) (λe=>rv K) λe f=>aF 16 (aF 20 (ak λj c=>ak λk d=>aw [Az 26 (zV.ixZ c),Az 27 (zV.p1Z Vt c),Az 30 (rO.ixZ d),Az 31 (rO.p1Z tO d)]<|rx f)<|rx f)<|rx f
def eqQ(a b:Bh)(k:Nat):Option (Nat⊕Bool):=match a[k]? with
 |none=>some (.inr true)
 |some x=>match b[k]? with
  |none=>none
  |some y=>bif x≠y then some (.inr false)else some (.inl (k+1))
theorem Aiw{b:Bh}(hl:a.length=b.length)(hn:a.length<=1000):AB (eqQ a b) 0=some (decide (a=b)):=T.eq (T.loop (λk=>k<=a.length/\a.take k=b.take k) (λk=>a.length-k) ⟨aa,aC⟩ aa λk ⟨hk,he⟩=>by
 unfold eqQ;cases hx:a[k]? with
 |none=>have:=List.getElem?_eq_none_iff.1 hx;rw[List.take_of_length_le aa,List.take_of_length_le aa] at he;exact .some (CO he).symm
 |some x=>
  have hlt:=(cr hx).1;obtain⟨y,hy⟩:∃y,b[k]?=some y:=⟨_,EH aa⟩;rw[hy];refine .dec (λh=> .some (C5 λh2=>h ?_).symm) λh=> .some ⟨⟨aa,?_⟩,aa⟩
  .subst h2;exact Bo (hx.symm.trans hy)
  .rw[Hp,Hp,hx,hy,he,Decidable.of_not_not h])
def Ac4(a b:Bh):Fp:=bif a.length<=1000/\b.length<=1000 then some (decide (a=b))else none
theorem AeQ{a b}:DC prog gl (Ac4 a b) 17 [aE cZ a,aE cZ b] bG:=λr h=>by
 unfold Ac4 at h;cases c:decide (a.length<=1000/\b.length<=1000) with
 |false=>rw[c] at h;cases h
 |true=>
  rw[c] at h;obtain⟨ha,hb⟩:=DD c;obtain rfl:=Bo h;refine Gh func17 ?_;by_cases hl:a.length=b.length
  .refine pN (λk:Nat=>(s0 26 gl [(0,aE cZ a),(1,aE cZ b),(5,iG (k:Int))] [] 0 0)) 1110122 (Aiw hl aa) [hr 10 (show decide (ah a≠ah b)=false by unfold ah;rw[hl];simp)] [] (λB k w hs k5 d=>?_);unfold eqQ at hs;cases hx:a[k]? with
   |none=>rw[hx] at hs;cases hs;have:=List.getElem?_eq_none_iff.1 hx;rw[<-d _ rfl];exact Ar [hr 14 (show decide ((k:Int)<ah a)=false from C5 (by unfold ah;omega))] []
   |some x=>
    have hlt:=(cr hx).1;obtain⟨y,hy⟩:∃y,b[k]?=some y:=⟨_,EH aa⟩;rw[hx,hy] at hs;have hz:=Bp hx;have hz':=Bp hy;cases c:decide (x≠y) with
    |true=>simp only[c,ax] at hs;cases hs;rw[<-d _ rfl];exact Ar [hr 14 (CM hx),Az 19 (rZ.ixZ hz),Az 20 (rZ.p1Z tZ hz),Az 23 (rZ.ixZ hz'),Az 24 (rZ.p1Z tZ hz'),hr 25 c] []
    |false=>simp only[c,A7] at hs;cases hs;exact jw [hr 14 (CM hx),Az 19 (rZ.ixZ hz),Az 20 (rZ.p1Z tZ hz),Az 23 (rZ.ixZ hz'),Az 24 (rZ.p1Z tZ hz'),hr 25 c,hbb 16 (Xl (q:=k) aa)] [] (k5 _ rfl) []
  .rw[show decide (a=b)=false from C5 λh=>hl (by rw[h])];exact Ar [hr 10 (show decide (ah a≠ah b)=true from CO (by unfold ah;omega))] []
def KF(g:AQ)(b:A3)(s3:A3×Int)(a:Bool×Int):Option ((Bool×Int)⊕(Bool)):=
 bif a.2<ah b then((aS b s3.2).bind λc=>(aS b a.2).bind λd=>(Q1 g c d).bind λe=>bif e then(some (.inl (false,wI (a.2+1))))else(some (.inl (a.1,wI (a.2+1)))))else(some (.inr a.1))
def M2(g:AQ)(a:A3)(s3:A3×Int):Option ((A3×Int)⊕A3):=
 bif s3.2<ah a then((AB (KF g a s3) (true,0)).bind λb=>bif b then((aS a s3.2).bind λc=>(aT 24 s3.1 [c]).bind λd=>some (.inl (d,wI (s3.2+1))))else(some (.inl (s3.1,wI (s3.2+1)))))else(some (.inr s3.1))
def LP(g:AQ)(ids:A3):Option A3:=
 (JV g ids).bind λa=>(AB (M2 g a) ([],0)).bind λb=>some b
theorem R4{g ids}:LC prog gl (LP g ids) 16 [.agg (aI g),aE aj ids] 36 aj:=
 gc func16 λK=>ak λo e2=>aw [hf 12 (ac.fo (YB gl e2))]<|rdL 111101 11110122 (λk=>sp [] [(6,.rsl 0 0 k.length)] [ob 0 36 (k.flatMap aj)] 1) (λs3=>sp [] [(2,.ref 0 0),(5,aE aj o),(6,.rsl 1 0 s3.1.length),(7,iG s3.2)] [ob 0 30 (aI g),ob 1 36 (s3.1.flatMap aj)] 2) [hc (ac.imm [])] (vs:=[36]) (ρ:=[(0,0),(1,1)]) (kd:=[(1,.row)]) (λk=>mr c0 K (ac.imm _)) λs3 n k6=>aF 16 (rdL 11110122102101 1111012210210122 (λc=>sf [] [(8,bG c)]) (λa=>sf [] [(8,bG a.1),(9,iG a.2)]) [hc (el s3.1),hc (ac.imm s3.1)] (ρ:=[(0,0),(1,1)]) (kd:=[(1,.row)]) (λc=>aF 35 (ak λp d=>ak λe l=>aw [Az 39 (ac.ixZ d),Az 40 (ac.ptZ aW d),dg 42 ac l]<|cj n [hc (el e),hc (ac.imm e)] (ρ:=[(0,0),(1,3)]) (kd:=[(1,.row)]))<|cj n [hc (el s3.1),hc (ac.imm s3.1)] (ρ:=[(0,0),(1,1)]) (kd:=[(1,.row)])) λa f m=>aF 22 (ak λq h=>ak λr i=>ak λs j=>aw [Az 28 (ac.ixZ h),Az 29 (ac.ptZ aW h),Az 32 (ac.ixZ i),Az 33 (ac.ptZ aW i)]<|kV (λb=>aw [hf 34 (cF (SN gl j) b)]<|cj f [hc (el s3.1),hc (ac.imm s3.1)] (ρ:=[(0,0),(1,1)]) (kd:=[(1,.row)])) λb=>aw [hf 34 (cF (SN gl j) b)]<|cj f [hc (el s3.1),hc (ac.imm s3.1)] (ρ:=[(0,0),(1,1)]) (kd:=[(1,.row)]))<|aA c1 m [hc (el s3.1),hc (ac.imm s3.1)] (ρ:=[(0,0),(1,1)]) (kd:=[(1,.row)]))<|aA c1 k6 [hc (el s3.1),hc (ac.imm s3.1)] (ρ:=[(0,1)]) (kd:=[(0,.row)])
def LQ(g:AQ)(commit:Ab):Option Bh:=
 (fC g commit).bind λa=>bif a<0 then(some [])else((aS g.L a).bind λb=>(qo g b).bind λc=>some c)
theorem M3{g commit}:LC prog gl (LQ g commit) 19 [.agg (aI g),.agg (aj commit)] 3 cZ:=
 gc func19 λK=>ak λc e2=>aw [hf 8 (dX gl e2)]<|aF 10 (mr c0 K (rZ.imm _))<|ak λa e5=>ak λb e7=>aw [Az 15 (eJ.ixZ e5),Az 16 (eJ.ptZ GN e5),ho 17 [.agg (aI g),.agg (aJ a)] [] (GU gl e7) (lZ b)]<|mr c0 K (rZ.imm _)
def N8(g:AQ)(ids:A3):Option (Ab×Bool):=
 (LP g ids).bind λa=>bif ah a≠1 then(some (⟨0,0,0⟩,false))else((zY g ids).bind λf=>(lg f.In).bind λh=>(aS a 0).bind λi=>(LQ g i).bind λb=>(lg b).bind λc=>(Ac4 h c).bind λd=>bif(!d)then(some (⟨0,0,0⟩,false))else((aS a 0).bind λe=>some (e,true)))
theorem Uc{g ids}:DC prog gl (N8 g ids) 13 [.agg (aI g),aE aj ids] (λr=> .tup [.agg (aj r.1),bG r.2]):=
 cy func13 λK=>ak λk e2=>aw [hf 10 (ac.fo (R4 gl e2))]<|aF 13 (aP c0 K [])<|ak λl e5=>ak λm e7=>ak λn e=>ak λf b=>ak λh c=>ak λi d=>aw [hf 17 (Jh gl e5),hf 19 (rZ.fo (vH gl e7)),Az 23 (ac.ixZ e),Az 24 (ac.ptZ aW e),hf 25 (rZ.fo (M3 gl b)),hf 26 (rZ.fo (vH gl c)),hf 27 (AeQ gl d)]<|aF 28 (aP c0 K [])<|ak λj a=>aw [Az 31 (ac.ixZ a),Az 32 (ac.ptZ aW a)]<|aP c0 K []
def Pw(g:AQ)(ids:A3)(device:Int)(commit:Ab)(s1:Int×Int):Option ((Int×Int)⊕(Int)):=
 bif s1.2<ah ids then((aS ids s1.2).bind λc=>(fC g c).bind λb=>bif b<0 then(some (.inl (s1.1,wI (s1.2+1))))else((aS g.L b).bind λa=>(bif a.Kind=6 then(bif a.By=device then(some (decide (a.Epoch=commit)))else(some false))else(some false)).bind λd=>bif d then(some (.inl (wI (s1.1+1),wI (s1.2+1))))else(some (.inl (s1.1,wI (s1.2+1))))))else(some (.inr s1.1))
def Nl(g:AQ)(ids:A3)(device:Int)(commit:Ab):JK:=
 (AB (Pw g ids device commit) (0,0)).bind λa=>some a
theorem Uy{g ids device commit}:DC prog gl (Nl g ids device commit) 96 [.agg (aI g),aE aj ids,iG device,.agg (aj commit)] iG:=
 cy func96 λK=>rdL 11101 1110122 (λh=>sg [] [(9,iG h)]) (λs1=>so [0,3] [(4,.ref 0 0),(7,.ref 1 0),(9,iG s1.1),(10,iG s1.2)] [ob 0 30 (aI g),ob 1 36 (aj commit)] 2) [] (λh=>aP c0 K []) λs1 k5 i=>aF 16 (ak λj c=>ak λk f=>aw [Az 22 (ac.ixZ c),Az 23 (ac.ptZ aW c),hf 24 (dX gl f)]<|aF 26 (cj k5 [])<|ak λd e=>aw [Az 30 (eJ.ixZ e),Az 31 (eJ.ptZ GN e)]<|cN 11101221021110 (so [] [(12,.ref 2 0)] [ob 2 63 (aJ d)] 3) []<|cC 11101221021110 (λa=>sx [12] [(46,bG a)] [ob 0 30 (aI g),ob 1 36 (aj commit)] 2) (λa=>eH [46] (cj k5 [])<|cj k5 []) λa b=>aF 34 (aF 40 (aw [hV 45 (dU d.Epoch commit rfl)]<|aA c0 b [])<|aA c0 b [])<|aA c0 b [])<|aA c1 i []
def VX(g:AQ)(n:Int)(s:List Fs×Int):Option ((List Fs×Int)⊕(List Fs)):=
 (bif s.2<n then(some (decide (s.2<5)))else(some false)).bind λj=>bif j then((aT 32 s.1 [(⟨wU (wI ((wI (1000+(wI (10*(ah g.L)))))+s.2)),[]⟩:Fs)]).bind λv=>some (.inl (v,wI (s.2+1))))else(some (.inr s.1))
def QL(g:AQ)(o:Bj):Option Bj:=
 (GI o.Kind).bind λa=>bif(!a)then(some {o with Path:=[]})else((jm g {o with Path:=[]}).bind λb=>(AB (VX g (ah b)) ([],0)).bind λx=>some {o with Path:=x})
theorem Aca{g o}:DC prog gl (QL g o) 29 [.agg (aI g),.agg (bF [9] (aJ {o with Path:=[]}))] (λr=> .agg (aJ r)):=
 cy func29 λK=>BU 10 (oX gl) λb=>aF 12 (rv K)<|ak λa e4=>aw [hf 16 (UY [.agg (aI g),.agg (bF [9] (aJ {o with Path:=[]}))] (nH.fo (E6 gl e4)))]<|Ja 1111101 (λx=>sp [] [(3,.ref 1 0),(4,.ref 2 0)] [ob 1 63 (aJ {o with Path:=x}),ob 2 63 (bF [4,9,14,15,19,22,24] (aJ ip))] 3) (λs=>sp [] [(2,.ref 0 0),(3,.ref 1 0),(4,.ref 2 0),(6,iG (ah a)),(7,iG s.2)] [ob 0 30 (aI g),ob 1 63 [iG o.By,iG o.Seq,iG o.Kind,iG o.At,aE aj o.Past,iG o.Device,iG o.Old,iG o.Member,iG o.Role,.rsl 3 0 s.1.length,iG o.Epoch.By,iG o.Epoch.Seq,uG o.Epoch.Sum,iG o.N,aE cY o.Body,aE cW o.Refs,iG o.Of.By,iG o.Of.Seq,uG o.Of.Sum,aE cZ o.Guards,iG o.Need,iG o.Wait,aE cz o.Boxes,uG o.Pub,aE bp o.Hist,uG o.Sig.R,uG o.Sig.S],ob 2 63 (bF [4,9,14,15,19,22,24] (aJ ip)),ob 3 122 (s.1.flatMap bY)] 4) [hc (bZ.imm [])] (λx=>rv K) λs k k'=>Ot 11111012200 (sf [] []) (DF bZ s.1) 24 (ak λv e=>aw [Az 36 (C8 (wI ((wI (1000+(wI (10*(ah g.L)))))+s.2))),Tv 39 bZ e [uG (wU (wI ((wI (1000+(wI (10*(ah g.L)))))+s.2))),Iy] rfl]<|cj k [hc (el v),ZV bZ e [uG (wU (wI ((wI (1000+(wI (10*(ah g.L)))))+s.2))),Iy]] (kd:=[(3,.app (s.1.flatMap bY) [uG (wU (wI ((wI (1000+(wI (10*(ah g.L)))))+s.2))),Iy] (bY (⟨wU (wI ((wI (1000+(wI (10*(ah g.L)))))+s.2)),[]⟩:Fs)) (v.flatMap bY))])) (aA c1 k' [hc (bZ.al s.1)]) λk2=>aF 20 (aA c0 k2 (DF bZ s.1))<|aA c0 k2 (DF bZ s.1)
def LR(l:Bh)(most:Int)(a:AQ×Int):Option ((AQ×Int)⊕(AQ)):=
 (bif a.2<most then(bif a.2<4 then(some true)else(some (decide (wI (2*a.2)<ah l))))else(some false)).bind λg=>bif g then((bif wI (2*a.2)<ah l then((aS l (wI (2*a.2))).bind λh=>some h)else(some 0)).bind λi=>(bif wI ((wI (2*a.2))+1)<ah l then((aS l (wI ((wI (2*a.2))+1))).bind λj=>some j)else(some 0)).bind λd=>(sd a.1 i d).bind λk=>(QL a.1 ({k with Path:=[]})).bind λb=>(bif b.Kind=6 then((iq d 7).bind λm=>some (decide (0<m)))else(some false)).bind λn=>(bif n then((Ko a.1 b.Past).bind λe=>(N8 a.1 e).bind λc=>(bif c.2 then((Nl a.1 e b.By c.1).bind λo=>some ({b with Epoch:=c.1,N:=o}))else(some b):Option Bj).bind λp=>some p)else(some b):Option Bj).bind λq=>(nR q).bind λr=>(AO a.1 r).bind λf=>bif f.2=0 then(some (.inl (f.1,wI (a.2+1))))else(some (.inl (a.1,wI (a.2+1)))))else(some (.inr a.1))
def N9(l:Bh)(most:Int):Option AQ:=
 (r8).bind λa=>(ql a).bind λb=>(Jf b).bind λc=>(AB (LR l most) (c,0)).bind λd=>some d
theorem V2{l most}:DC prog gl (N9 l most) 43 [aE cZ l,iG most] (λr=> .agg (aI r)):=
 cy func43 λK=>ak λM e2=>ak λN e4=>ak λO e6=>aw [hf 15 (rZ.fo (E9 gl e2)),hf 16 (bT.fo (GQ gl e4)),hf 17 (M8 gl e6)]<|rdL 11101 1110122 (λA=>sp [] [(4,.ref 0 0),(5,.ref 1 0)] [ob 0 30 (bF [0,1,2,3,4] (aI xm)),ob 1 30 (aI A)] 2) (λh=>so [] [(4,.ref 0 0),(5,.ref 1 0),(6,iG h.2)] [ob 0 30 (bF [0,1,2,3,4] (aI xm)),ob 1 30 (aI h.1)] 2) [] (λA=>aP c0 K []) λh k11 q=>cN 111012200 (sf [] []) []<|cC 111012200 (λa=>sf [] [(31,bG a)]) (λa=>eH [31] (cN 11101221021101 (sf [31] [(7,iG 0),(8,iG 0),(38,bG (decide (wI (2*h.2)<ah l)))]) []<|cC 11101221021101 (λb=>sf [38] [(7,iG b)]) (λb=>cN 111012210211101 (sf [] [(49,bG (decide (wI ((wI (2*h.2))+1)<ah l)))]) []<|cC 111012210211101 (λc=>sf [49] [(8,iG c)]) (λc=>ak λB s=>ak λt u=>aw [hf 60 (Jy gl s),hf 61 (Aca gl u)]<|cN 11101221021111100 (so [7] [(9,.ref 2 0)] [ob 2 63 (aJ t)] 3) []<|cC 11101221021111100 (λd=>sf [8] [(69,bG d)]) (λd=>cC 11101221021111101 (λe=>so [69] [] [ob 2 63 (aJ e)] 3) (λe=>ak λC e32=>ak λD v=>aw [hf 93 (E8 gl e32),hf 94 (M9 gl v)]<|aF 98 (cj k11 [])<|cj k11 []) λe i=>eH [69] (ak λE w=>ak λF x=>cC 111012210211111013111 (λf=>so [69] [] [ob 2 63 (aJ f)] 3) (λf=>aA c0 i []) λf j=>aw [hf 73 (ac.fo (ua gl w)),hf 77 (Uc gl x)]<|aF 79 (ak λH y=>aw [hf 88 (Uy gl y)]<|aA c0 j [])<|aA c0 j [])<|aA c0 i []) λd k=>aF 64 (ak λI z=>aw [hf 67 (iL gl z)]<|aA c0 k [])<|aA c0 k []) λc m=>eH [49] (ak λJ n=>aw [Az 54 (rZ.ixZ n),Az 55 (rZ.p1Z tZ n)]<|aA c0 m [])<|aA c0 m []) λb o=>eH [38] (ak λL p=>aw [Az 42 (rZ.ixZ p),Az 43 (rZ.p1Z tZ p)]<|aA c0 o [])<|aA c0 o [])<|aA c1 q []) λa g=>aF 20 (aF 23 (aA c0 g [])<|aA c0 g [])<|aA c0 g []
end
section
variable {gl:Cd}
theorem Aix{f:Ab->Fp}(hv:R7 prog gl fi fa fc (λx:Ab=>[.agg (aj x)]) (λb:Bool=>bG b) f){l:A3}{r:Int}(e:Wy l f=some r):oJ prog gl 112 [.rsl 0 0 l.length,.clo (.func fi) fa fc] [(0,Bt l)] 1 (iG r) [] 1:=
 ON aH (gS gl hv e) (lR _) rfl λst h i x y h1 h2=>by
  match i with
  |0=>
   cases h1;cases h2;exact FD (s:=3) (h 0 _ rfl) aH (by show 0+l.length*3<=(l.flatMap aj).length;rw[ac.len];omega) (ac.len l) λj g c a b=>by rw[Nat.zero_add] at a;rw[show(l.flatMap aj)[j]?=some g from a] at b;cases b;exact jB (ac.imm l g (bO a))
  |1=>cases h1;cases h2;exact jB hv.im
  |j+2=>cases h1
theorem Acb{del:Ab->Bool}(hv:R7 prog gl fi fa fc (λx:Ab=>[.agg (aj x)]) (λb:Bool=>bG b) (λx=>some (del x))){l:A3}(hl:l.length<=1000):jg prog gl 50 [.rsl 0 0 l.length,.clo (.func fi) fa fc] [(0,Bt l)] 1 (.rsl 0 0 (l.filter λx=> !del x).length) [(0,Bt (l.filter λx=> !del x))] 1:=by
 refine pP func50 ?_;rcases AdF (s:=l) (p:=del) aa (λx _=>rfl) with⟨e,h0⟩|⟨i,e,h0⟩
 .have hi:=Aix hv e;rw[AiO (by simpa using h0)];exact mt .ret (s0 42 gl [(4,.rsl 0 0 l.length)] [(0,Bt l)] 1 1) [.rsl 0 0 l.length] [hz 10 [0] hi] [hc (el l),hc (ac.imm l)] (ρ:=[(0,0)]) (kd:=[(0,.row)])
 .have hi:=Aix hv e;have hlt:=(List.findIdx?_eq_some_iff_getElem.1 h0).1;have hkn:(l.filter λx=> !del x).length<l.length:=by have:=Aj5 (q:=λx=> !del x) (by simpa using h0);have h2:=XM (q:=λx=> !del x) (l:=l);refine Nat.lt_of_le_of_ne (KZ _ _) λhe=>?_;have h3:=List.length_filter_eq_length_iff.1 he _ (List.getElem_mem hlt);have h4:=(List.findIdx?_eq_some_iff_getElem.1 h0).2.1;simp[h4] at h3
  refine pN (λs:Nat×Nat×A3=>(s0 42 gl [(0,.rsl 0 0 s.2.2.length),(1,.clo (.func fi) fa fc),(5,iG (s.2.1:Int)),(6,iG (s.1:Int))] [(0,Bt s.2.2)] 1 1)) 11110122 (AiP hl h0) [hz 10 [0] hi,hr 12 (show decide ((i:Int)= -1)=false from C5 aa),hbb 15 (Xl (q:=i) aa)] [hc (el l),hc hv.im,hc (ac.imm l)] (λB s w hs k5 g=>?_) [] [(0,0)] [(0,.row)];obtain⟨j,k,W⟩:=s;unfold dfT at hs;dsimp only at hs;cases b0:decide (W.length<=1000/\k<=j) with
  |false=>rw[b0] at hs;cases hs
  |true=>
  rw[b0,ax] at hs;obtain⟨g1,g2⟩:=DD b0;rcases bC hs with⟨b1,hs⟩|⟨b1,hs⟩
  .have hjl:=DD b1;unfold ah at hjl;obtain⟨x,a,hs⟩:=bS hs;have hcl:oJ prog gl fi (fa++[.agg (aj x)]++fc) [] 2 (bG (del x)) [] 2:=hv.cs (c:=2) rfl (aY (aG 20 (.agg (aj x)) aH) bf);have hjb:j<1000000:=aa;cases hd:del x with
   |true=>rw[hd] at hs hcl;obtain rfl:=Bo hs;exact jw [hr 19 b1,Az 24 (ac.ixrZ 0 a),Az 25 (ac.pt0Z aW a),hz 28 [] hcl,hbb 21 (Xl (q:=j) aa)] [hc (el W),hc hv.im,hc (ac.imm W)] (k5 _ rfl) [] [(0,0)] [(0,.row)]
   |false=>rw[hd] at hs hcl;obtain⟨d,e2,hs⟩:=bS hs;obtain rfl:=Bo hs;have hkb:k<1000000:=aa;exact jw [hr 19 b1,Az 24 (ac.ixrZ 0 a),Az 25 (ac.pt0Z aW a),hz 28 [] hcl,Az 33 (ac.ixsZ 0 e2),hw 33 (d.flatMap aj) (ac.putZ e2),hbb 35 (Xl (q:=k) aa),hbb 21 (Xl (q:=j) aa)] [hc (hZ e2),hc hv.im,hc (ac.imm d)] (k5 _ rfl) [] [(0,0)] [(0,.row)]
  .obtain rfl:=Bo hs;have ek:=g _ rfl;simp only[Fw] at ek;obtain⟨ek,f⟩:=ek;have hkW:k<W.length:=by rw[f,Aaz,ek];exact hkn
   have e:(zR W k).take (k*3)=(l.filter λx=> !del x).flatMap aj:=by rw[AdG (Nat.le_of_lt hkW),f,ek,XM.1]
   rw[<-ek];generalize (l.filter λx=> !del x)=F at e⊢;refine pO 1111110 (J:=(s0 42 gl [(0,.rsl 0 0 W.length),(5,iG (k:Int))] [ob 0 36 (zR W k)] 1 1)) [hr 19 b1,Az 38 (ac.sufZ 0 (l:=W) (i:=(k:Int)) (y:=W.drop k) (by unfold mc;rw[Bz ⟨aa,by rw[EO];omega⟩,EO])),Go.Proofs.YtlijnaneopediaaGreatDoor.hcl 1 (Al0 (σ:=[]) hkW)] [hc (el W),hc (Agq W k)] ?_ [] [(0,0)] [(0,.row)];refine dSh 0 (k*3) ?_;show Gp _ _ _ _ _ _ (s0 42 gl [(0,.rsl 0 0 W.length),(5,iG (k:Int))] ((ob 0 36 ((zR W k).take (k*3)))::[ob 0 36 (zR W k)]) 1 1);rw[e];exact mt .ret (s0 42 gl [(4,.rsl 0 0 k)] [(0,Bt F)] 1 1) [.rsl 0 0 k] [Az 41 (ac.preZ 0 (l:=W) (i:=(k:Int)) (y:=W.take k) (by unfold tq;rw[Bz ⟨aa,by rw[EO];omega⟩,EO]))] [hc (rfl:k=k),hc (ac.imm F)] (ρ:=[(0,0)]) (kd:=[(0,.row)])
end
section
variable {gl:Cd} {gg:Aj} {I:Gi} (hI:Pa gl gg I)
include hI
theorem Ag5(c d:Ab):ba prog gl 54 [.agg (aj d),.ptr [.ptr (Ag gg) 0] 0,.ptr (aj c) 0] (bG (I.bef c d)):=by refine Gh func54 ?_;exact Ar [hf 8 (hI.bef c d)] []
def Nn(I:Gi)(l:A3)(c:Ab):Bool:=l.any (I.bef c)
theorem Ag6{l:A3}(hl:l.length<=1000)(c:Ab):ba prog gl 52 [.agg (aj c),.ptr [aE aj l] 0,.ptr [.ptr (Ag gg) 0] 0] (bG (Nn I l c)):=by have hv:R7 prog gl 54 [] [.ptr [.ptr (Ag gg) 0] 0,.ptr (aj c) 0] (λz:Ab=>[.agg (aj z)]) (λb:Bool=>bG b) (λz=>some (I.bef c z)):=⟨aH,bf,eB aH,λz r e=>by cases e;exact Ag5 hI c z⟩;have h:=kP gl hv (Abz (s:=l) (p:=I.bef c) aa λ_ _=>rfl);refine Gh func52 ?_;refine pO [1,0] (s0 8 gl [(1,.ptr [aE aj l] 0),(2,.ptr [.ptr (Ag gg) 0] 0),(3,.ptr (aj c) 0)] [] 0 0) [] [hc (eB (gs:=aj c) aH)] ?_;exact Ar [hf 7 h] []
theorem AeR{l:A3}(hl:l.length<=1000)(hC:ba prog gl 21 [.ptr (Ag gg) 0,aE aj ids] (aE aj l)):iV prog gl 15 [.ptr (Ag gg) 0,aE aj ids] 36 (l.filter λx=> !Nn I l x).length ((l.filter λx=> !Nn I l x).flatMap aj):=by
 have hv:R7 prog gl 52 [] [.ptr [aE aj l] 0,.ptr [.ptr (Ag gg) 0] 0] (λz:Ab=>[.agg (aj z)]) (λb:Bool=>bG b) (λz=>some (Nn I l z)):=⟨aH,bf,eB aH,λz r e=>by cases e;exact Ag6 hI hl z⟩;have hcl:cU l=some l:=by grind [cU,aT]
 have hD:=Acb hv hl;generalize (l.filter λx=> !Nn I l x)=F at hD⊢;refine OW func15 ?_;refine pO 1110 (s0 13 gl [(2,.ptr [.ptr (Ag gg) 0] 0),(5,.ptr [aE aj l] 0)] [] 0 0) [hf 8 hC] [hc (eB (gs:=[.ptr (Ag gg) 0]) aH),hc (eB (gs:=[aE aj l]) aH)] ?_;exact EI [ho 10 [aE aj l] [] (jY gl hcl) (Zy _),tN 12 [0] 1 [(0,Bt l)] [.rsl 0 0 l.length,.clo (.func 52) [] [.ptr [aE aj l] 0,.ptr [.ptr (Ag gg) 0] 0]] [(0,Bt F)] hD ⟨⟨rfl,.inr ⟨rfl,ac.imm l⟩⟩,trivial⟩ ⟨⟨rfl,.inr ⟨rfl,ac.imm F⟩⟩,trivial⟩] (ac.imm F)
theorem AeS{c:Ab}(hA:iV prog gl 58 [.ptr (Ag gg) 0,.agg (aJ (I.o c))] 3 l.length (l.flatMap cZ)):iV prog gl 18 [.ptr (Ag gg) 0,.agg (aj c)] 3 l.length (l.flatMap cZ):=by refine OW func18 ?_;exact EI [hf 10 (hI.op c),ho 15 [.ptr (Ag gg) 0,.agg (aJ (I.o c))] [] hA (lZ l)] (rZ.imm l)
end
abbrev Wf(l:Bh):G:= .clo (.func 107) [] [.ptr [aE cZ l] 0]
theorem Ac5(l:Bh):ba prog gl 48 [aE cZ l] (Wf l):=by refine Gh func48 ?_;refine pO [1,0] (s0 4 gl [(1,.ptr [aE cZ l] 0)] [] 0 0) [] [hc (aY (aG 20 (aE cZ l) aH) bf)] ?_;exact Ar [] []
noncomputable abbrev Ag7(st:LoopState):Option Ob:=some ⟨0,[],some (.loop st none 13 [(2,.ref 0 0)] (Dy cAZ) (Dz cAZ) (DA cAZ))⟩
abbrev Ag8(l:Bh)(k:Nat):Fr:=[(0,.yld 1),(5,aE cZ l),(6,iG (ah l)),(7,iG (k:Int))]
noncomputable abbrev σVa(a:Bh):aQ:=[(0,YF (.rsl 2 0 a.length)),(1,Ag7 .ready),(2,Ju a)]
noncomputable abbrev σVb(a:Bh):aQ:=[(0,YF (.rsl 3 0 a.length)),(1,Ag7 .busy),(3,Ju a)]
theorem Ag9(hn:l.length<=1000):iV prog gl 193 [.lit (.slice none 0 0),Wf l] 3 l.length (l.flatMap cZ):=by
 refine OW func193 ?_;refine YR [1,0,1,2] (s0 13 gl [(2,.ref 0 0),(6,Wf l)] [(0,YF (.lit (.slice none 0 0)))] 1 0) [] ?_;refine Xt (fst:=[]) (cap:=[.ptr [aE cZ l] 0]) Tryz.f107 func107 ?_;refine Un (l:=l) aa (λk:Nat=>(s0 16 gl (Ag8 l k) (σVa (l.take k)) 3 2)) 1122 [] [hc (rZ.imm [])] (λB k x hx hz k5=>?_) (λB=>?_) (vs:=[3]) (ρ:=rI 3) (kd:=[(2,.row)])
 .have hlt:=(cr hx).1;rw[Hp,hx,Option.toList_some] at k5;have hl:(l.take k).length<=k:=by simp;omega
  generalize l.take k=a at k5 hl⊢;refine pO 1122110210 (s0 16 gl ((4,iG x)::Ag8 l k) (σVa a) 3 2) [hr 8 (CM hx),Az 9 (rZ.ixZ hz),Az 10 (rZ.p1Z tZ hz)] [hc (rfl:a.length=a.length),hc (rZ.imm a)] ?_ (ρ:=rI 3) (kd:=[(2,.row)]);refine Xw (i:=1) (j:=2) (n:=13) (t:=0) (t2:=0) (pe:=none) (fr:=[(2,.ref 0 0)]) (ps:=Dy cAZ) (a:=Dz cAZ) (b:=DA cAZ) (s1:=(s0 16 gl ([(12,iG x),(11,.yld 1),(4,iG x)]++Ag8 l k) (σVa a) 3 2))
   (s3:=(s0 16 gl ([(14,bG false),(13,bG true),(12,iG x),(11,.yld 1),(4,iG x)]++Ag8 l k) ((1,Ag7 .ready)::σVb (a++[x])) 4 2))
   (σVb (a++[x])) 4 (.loop .ready none 13 [(2,.ref 0 0)] (Dy cAZ) (Dz cAZ) (DA cAZ)) [] [] ?_ ?_
  .refine C9 .normal ⟨13,gl,[(2,.ref 0 0),(5,iG x)],σVa a,3,3,true⟩ [] [hc (rfl:a.length=a.length),hc (rZ.imm a)] (Xv Tryz.f193 ?_ rfl);exact C9 .normal ⟨13,gl,[],σVb (a++[x]),4,3,true⟩ [Tn 11 rZ 8 a x aa] [hc (el (a++[x])),hc (rZ.imm (a++[x]))] (by grind [jy]) (ρ:=rI 3++[(3,4)]) (kd:=[(3,.row)])
  .exact jw [hbb 15 (Xl (q:=k) aa)] [hc (el (a++[x])),hc (rZ.imm (a++[x]))] k5 (ρ:=[(0,0),(1,1),(2,3)]) (kd:=[(2,.row)])
 .rw[D3];refine C9 .normal (s0 16 gl [] [(0,YF (.rsl 2 0 l.length)),(1,Ag7 .ready),(2,Ju l)] 3 2) [hr 8 (DH (s:=l))] [hc (rfl:l.length=l.length),hc (rZ.imm l)] (Xu ?_ rfl) (kd:=[(2,.row)]);exact EI [] (rZ.imm l)
theorem Aa6{r:Bh}(hl:l.length<=12)(h:inZ l=some r)(hr:r.length=l.length):ba prog gl 47 [Wf l] (aE cZ r):=by
 have hC:iV prog gl 105 [Wf l] 3 l.length (l.flatMap cZ):=by refine OW func105 ?_;exact EI [ho 4 [.lit (.slice none 0 0),Wf l] [] (Ag9 gl aa) (lZ l)] (rZ.imm l)
 refine iV.fn ?_ rZ.sz (rZ.len _) (rZ.imm _);rw[hr];refine OW func47 ?_;exact EI [ho 5 [Wf l] [] hC (lZ l),tN 7 [0] 1 [(0,Ju l)] [.rsl 0 0 l.length] [(0,Ju r)] (NN gl hl h) ⟨⟨rfl,.inr ⟨rfl,rZ.imm l⟩⟩,trivial⟩ ⟨⟨rfl,.inr ⟨rfl,rZ.imm r⟩⟩,trivial⟩] (rZ.imm r)
theorem AeT{a b:Bh}(ha:a.length<=1000)(hb:b.length<=1000):ba prog gl 46 [aE cZ a,aE cZ b] (bG (decide (a=b))):=by
 refine Gh func46 ?_;by_cases hl:a.length=b.length
 .refine pN (λk:Nat=>(s0 26 gl [(0,aE cZ a),(1,aE cZ b),(12,iG (ah a)),(13,iG (k:Int))] [] 0 0)) 1110122 (Aiw hl aa) [hr 10 (show decide (ah a≠ah b)=false by unfold ah;rw[hl];simp)] [] (λB k w hs k5 d=>?_);unfold eqQ at hs;cases hx:a[k]? with
  |none=>rw[hx] at hs;cases hs;have:=List.getElem?_eq_none_iff.1 hx;rw[<-d _ rfl];exact Ar [hr 14 (show decide ((k:Int)<ah a)=false from C5 (by unfold ah;omega))] []
  |some x=>
   have hlt:=(cr hx).1;obtain⟨y,hy⟩:∃y,b[k]?=some y:=⟨_,EH aa⟩;rw[hx,hy] at hs;have hz:=Bp hx;have hz':=Bp hy;cases c:decide (x≠y) with
   |true=>simp only[c,ax] at hs;cases hs;rw[<-d _ rfl];exact Ar [hr 14 (CM hx),Az 18 (rZ.ixZ hz),Az 19 (rZ.p1Z tZ hz),Az 22 (rZ.ixZ hz'),Az 23 (rZ.p1Z tZ hz'),hr 24 c] []
   |false=>simp only[c,A7] at hs;cases hs;exact jw [hr 14 (CM hx),Az 18 (rZ.ixZ hz),Az 19 (rZ.p1Z tZ hz),Az 22 (rZ.ixZ hz'),Az 23 (rZ.p1Z tZ hz'),hr 24 c,hbb 25 (Xl (q:=k) aa)] [] (k5 _ rfl) []
 .rw[show decide (a=b)=false from C5 λh=>hl (by rw[h])];exact Ar [hr 10 (show decide (ah a≠ah b)=true from CO (by unfold ah;omega))] []
def Wg(L:A3)(b:Bool):Ab×Bool:=match L with
 |[c]=>bif b then(c,true)else(⟨0,0,0⟩,false)
 |_=>(⟨0,0,0⟩,false)
theorem AeU{L:A3}{dv:Ab->Bh}{b:Bool}(hR:Bi R)
  (hC:ba prog fI 15 [.ptr (Ag gg) 0,aE aj ids] (aE aj L))
  (d:SH prog fI 24 [.ptr (Ag gg) 0,aE aj ids] [] 0 0 (.ref 0 0) (BG f0 R))
  (hD:∀c,L=[c]->ba prog fI 18 [.ptr (Ag gg) 0,.agg (aj c)] (aE cZ (dv c))/\(dv c).length<=12/\∃r,inZ (dv c)=some r/\r.length=(dv c).length/\decide (Ha R=r)=b):ba prog fI 12 [.ptr (Ag gg) 0,aE aj ids] (.tup [.agg (aj (Wg L b).1),bG (Wg L b).2]):=by
 refine Gh func12 ?_
 by_cases hL:L.length=1
 .obtain⟨c,rfl⟩:=List.length_eq_one_iff.1 hL
  obtain⟨h1,h2,r,h3,h4,h5⟩:=hD c rfl
  have hdl:(Ha R).length<=1000:=by rw[(LX hR).2.1.length_eq,Ho];have:=hR.len;omega
  have f:=AeT fI (a:=Ha R) (b:=r) hdl aa
  rw[h5] at f
  have hz:aS [c] 0=some c:=rfl
  cases b
  .exact Ar [hf 9 hC,hr 12 (show decide (([c].length:Int)≠1)=false by simp),hrn 16 1 [.ptr (Ag gg) 0,aE aj ids] hR d,hrr 17 (OP 1) 15 [] hR (Md fI hR),Az 20 (ac.ixZ hz),Az 21 (ac.ptZ aW hz),hf 22 h1,hf 23 (Ac5 fI (dv c)),hf 24 (Aa6 fI h2 h3 h4),hf 25 f] []
  .exact Ar [hf 9 hC,hr 12 (show decide (([c].length:Int)≠1)=false by simp),hrn 16 1 [.ptr (Ag gg) 0,aE aj ids] hR d,hrr 17 (OP 1) 15 [] hR (Md fI hR),Az 20 (ac.ixZ hz),Az 21 (ac.ptZ aW hz),hf 22 h1,hf 23 (Ac5 fI (dv c)),hf 24 (Aa6 fI h2 h3 h4),hf 25 f,Az 30 (ac.ixZ hz),Az 31 (ac.ptZ aW hz)] []
 .have e:Wg L b=(⟨0,0,0⟩,false):=by
   unfold Wg;split
   .simp at hL
   .rfl
  rw[e]
  exact Ar [hf 9 hC,hr 12 (show decide ((L.length:Int)≠1)=true from CO aa)] []
section
variable {g:AQ} {m:Jn} {N:Jk} (P:Pg g m N) (h14:g.L.length<=14) (hkn:∀(k:Nat) (o:Bj),g.L[k]?=some o->Kn o)
include P
theorem Anc(a b:Ab):Q1 g a b=some ((Bw g m N).bef a b):=by
 have w:=P.w;have nI:=w.nI;have nL:=w.nL;unfold Q1;rw[dC aa,dC aa,aL,aL,Ut w P.p];unfold gO;cases ha:bu a g.IDs with
 |none=>rfl
 |some i=>
  cases hb:bu b g.IDs with
  |none=>grind
  |some j=>have h1:=(cr (gb ha).1).1;have h2:=(cr (gb hb).1).1;grind [Fq.cell,E1,au,Pm]
include h14 hkn
end
section
variable {g:AQ} {m:Jn} {N:Jk} (P:Pg g m N) (h14:g.L.length<=14) (hkn:∀(k:Nat) (o:Bj),g.L[k]?=some o->Kn o)
include P
def Hi(I:Gi)(cs:A3):A3:=cs.filter λx=> !Nn I cs x
theorem AeV(hn:cs.length<=1000){k:Nat}(hx:cs[k]?=some x)(a:A3):AB (KF g cs (a,(k:Int))) (true,0)=some (!Nn (Bw g m N) cs x):=by
 refine T.eq (T.forA cs.length (λj b=>b= !Nn (Bw g m N) (cs.take j) x) aa (by simp[Nn]) (λj b hj hb=>?_) λb hb=>?_)
 .obtain⟨y,hy,_⟩:=dk hj;unfold KF;dsimp only;rw[eA hj,ax,au,hx,aL,au,hy,aL,Anc P,aL];have e:Nn (Bw g m N) (cs.take (j+1)) x=(Nn (Bw g m N) (cs.take j) x||(Bw g m N).bef x y):=by unfold Nn;rw[Hp,hy,Option.toList_some,List.any_append];simp
  cases c:(Bw g m N).bef x y with
  |true=>exact .some ⟨aq aa,by rw[e,c];simp⟩
  |false=>exact .some ⟨aq aa,by rw[e,c,hb];simp⟩
 .unfold KF;dsimp only;rw[eF,A7];rw[D3] at hb;exact .some hb
theorem Alh(h:JV g v=some cs)(hn:cs.length<=1000):LP g v=some (Hi (Bw g m N) cs):=by
 unfold LP Hi;rw[h,aL];refine T.eq (.bind (T.mono (T.forA (Q:=λr:A3=>r=cs.filter λx=> !Nn (Bw g m N) cs x) cs.length (λk acc=>acc=(cs.take k).filter λx=> !Nn (Bw g m N) cs x) aa aC (λk acc hk hj=>?_) λacc hj=>?_) λ_ h=> .some h))
 .obtain⟨x,hx,_⟩:=dk hk;have ha:acc.length<=k:=by rw[hj];exact JF (KZ ..) (by rw[LL];omega)
  have e:(cs.take (k+1)).filter (λx=> !Nn (Bw g m N) cs x)=acc++(bif !Nn (Bw g m N) cs x then[x] else[]):=by rw[Hp,hx,Option.toList_some,O7,hj];congr 1
  unfold M2;dsimp only;rw[eA hk,ax,AeV P hn hx,aL,e];cases c:Nn (Bw g m N) cs x with
  |true=>exact .some ⟨aq aa,aC⟩
  |false=>simp only[Bool.not_false,ax,au,hx,aL];exact .bind (.app cq (.some ⟨aq aa,rfl⟩))
 .unfold M2;dsimp only;rw[eF,A7];rw[D3] at hj;exact .some hj
theorem Ali:∀(i:Nat) (o:Bj) (x:Ab),g.L[i]?=some o->g.IDs[i]?=some x->x.Seq=o.Seq:=λi o x ho hx=>(PM (P.w.ops i o ho).1 (P.w.ids i o x ho hx)).2
include h14 hkn
theorem Aa7(hx:x∈g.IDs):LQ g x=some (Sg g ((Bw g m N).o x))/\iV prog fI 18 [.ptr (Ag ⟨g.Cards,m,N⟩) 0,.agg (aj x)] 3 (Sg g ((Bw g m N).o x)).length ((Sg g ((Bw g m N).o x)).flatMap cZ)/\(Sg g ((Bw g m N).o x)).length<=12:=by
 have nI:=P.w.nI;have nL:=P.w.nL;obtain⟨i,o,e1,e2,e3,_,so,a⟩:=P.w.place (lj.2 hx);obtain⟨l,h1,h2,h3,_⟩:=Aaf P h14 so (hkn i o e3);have hl:Sg g o=l:=by unfold Sg;rw[h2];rfl
 have eo:=(P.op e3 e2).2;rw[eo,hl];refine⟨?_,AeS (SW (PL P.w P.p)) (c:=x) (by rw[show(Pl ⟨g.Cards,m,N⟩).o x=o from eo];simp only[Ag,RJ];exact h1),h3⟩;unfold LQ;rw[dC aa,aL,e1,show decide ((i:Int)<0)=false from C5 aa,A7,au,e3,aL,h2];rfl
theorem Acc{v:A3}(b:EA g v)(f:v.Nodup):∃(cs:A3) (R:Ad) (D:C7) (q:Ab×Bool),JV g v=some cs/\(∀x,x∈cs↔x∈v/\isC g (Bw g m N) x=true)/\cs.Nodup/\cs.length<=14/\(cs.Pairwise λx y=>M7 (Bw g m N) x y<0)/\LP g v=some (Hi (Bw g m N) cs)/\N8 g v=some q/\(q.2=false->q.1=⟨0,0,0⟩)/\(q.2=true->Hi (Bw g m N) cs=[q.1]/\lg (Sg g ((Bw g m N).o q.1))=some (Ha R))/\Rr R D/\Bi R/\∀s:A3,s.Perm v->ba prog fI 21 [.ptr (Ag ⟨g.Cards,m,N⟩) 0,aE aj s] (aE aj cs)/\iV prog fI 15 [.ptr (Ag ⟨g.Cards,m,N⟩) 0,aE aj s] 36 (Hi (Bw g m N) cs).length ((Hi (Bw g m N) cs).flatMap aj)/\SH prog fI 24 [.ptr (Ag ⟨g.Cards,m,N⟩) 0,aE aj s] [] 0 0 (.ref 0 0) (BG f0 R)/\ba prog fI 12 [.ptr (Ag ⟨g.Cards,m,N⟩) 0,aE aj s] (.tup [.agg (aj q.1),bG q.2]):=by
 obtain⟨row,c1,c2,c3,c4,c5⟩:=Abl P h14 hkn b f;obtain⟨R,D,sen,A,j,a,B,i,_⟩:=Abr P h14 (Ali P) b f;have hS:∀s:A3,s.Perm v->ba prog fI 21 [.ptr (Ag ⟨g.Cards,m,N⟩) 0,aE aj s] (aE aj (row.filter (isC g (Bw g m N)))):=λs hs=>by obtain⟨u,b1,_,b3,b4,_⟩:=Abl P h14 hkn (v:=s) ⟨λx hx=>b.sub x (hs.mem_iff.1 hx),by rw[hs.length_eq];exact b.len⟩ (hs.nodup_iff.2 f);rw[TG (Zv (Bw g m N)).tr S8 (b3.trans (hs.trans c3.symm)) b4 c4] at b1;exact b1
 have hm:∀x,x∈row.filter (isC g (Bw g m N))↔x∈v/\isC g (Bw g m N) x=true:=λx=>by rw[Hq,c3.mem_iff]
 have hnd:=(c3.nodup_iff.2 f).sublist (List.filter_sublist (p:=isC g (Bw g m N)));have hln:(row.filter (isC g (Bw g m N))).length<=14:=JF (KZ ..) c5;have d:=c4.sublist (List.filter_sublist (p:=isC g (Bw g m N)));generalize row.filter (isC g (Bw g m N))=cs at*;have hL:=Alh P c2 aa;have hLm:∀x∈Hi (Bw g m N) cs,x∈g.IDs:=λx hx=>b.sub x ((hm x).1 (Hq.1 hx).1).1;have hC:=λs hs=>AeR (SW (PL P.w P.p)) aa (hS s hs);change∀s:A3,s.Perm v->iV prog fI 15 [.ptr (Ag ⟨g.Cards,m,N⟩) 0,aE aj s] 36 (Hi (Bw g m N) cs).length ((Hi (Bw g m N) cs).flatMap aj) at hC;have n:=λx (hx:x∈g.IDs)=>Aa7 P h14 hkn hx;have hdl:(Ha R).length<=1000:=by rw[(LX a).2.1.length_eq,Ho];have:=a.len;omega
 have hIn:lg D.In=some (Ha R):=by
  have:=Ajc (VA P B aa).z j a;unfold lu at this;cases e:lg D.In with
  |none=>rw[e] at this;cases this
  |some v=>rw[e] at this;exact this
 refine⟨cs,R,D,?_⟩;generalize Hi (Bw g m N) cs=L at*;by_cases hl:L.length=1
 .obtain⟨c,rfl⟩:=List.length_eq_one_iff.1 hl;obtain⟨q1,C,E⟩:=n c (hLm c aC);generalize hdv:Sg g ((Bw g m N).o c)=dv at*;obtain⟨r,F,t,H⟩:=AbA (l:=dv) aa;have hr:lg dv=some r:=T.eq ((Ab0 aa).mono λv hv=>Vv (hv.1.trans t.symm) hv.2 H);have hrl:r.length<=1000:=by rw[t.length_eq];omega
  refine⟨Wg [c] (decide (Ha R=r)),c2,hm,hnd,hln,d,hL,?_,?_,?_,j,a,λs hs=>⟨hS s hs,hC s hs,(i s hs).1,AeU (dv:=λ_=>dv) a (ac.fo (hC s hs)) (i s hs).1 λc' hc=>?_⟩⟩
  .unfold N8;rw[hL,aL,show decide (ah [c]≠1)=false by simp[ah],A7,A,aL,hIn,aL,show aS [c] 0=some c from rfl,aL,q1,aL,hr,aL];unfold Ac4 Wg;rw[CO ⟨hdl,hrl⟩,ax,aL];cases decide (Ha R=r)<;>rfl
  .cases c:decide (Ha R=r)<;>simp[Wg]
  .cases h:decide (Ha R=r) with
   |false=>simp[Wg]
   |true=>exact λ_=>⟨rfl,by rw[DD h,<-hr,<-hdv];rfl⟩
  .cases hc;exact⟨rZ.fo C,E,r,F,t.length_eq,rfl⟩
 .have e:Wg L false=(⟨0,0,0⟩,false):=by unfold Wg;split<;>rfl
  refine⟨Wg L false,c2,hm,hnd,hln,d,hL,?_,by rw[e];simp,by rw[e];simp,j,a,λs hs=>⟨hS s hs,hC s hs,(i s hs).1,AeU (dv:=λ_=>[]) a (ac.fo (hC s hs)) (i s hs).1 λc' hc=>absurd (by rw[hc];rfl) hl⟩⟩;unfold N8;rw[hL,aL,show decide (ah L≠1)=true from CO (by unfold ah;omega),ax,e]
end
theorem AdQ(w:Fq g)(k:Nat)(o:Bj)(ho:g.L[k]?=some o):Kn o:=by obtain⟨sm,a,_⟩:=w.ops k o ho;have f:=T1 a.numbers;have:=sm.nGuards;refine λhk=>?_;grind [Ow,ah]
def aad(o:Bj)(d:Int)(c:Ab):Bool:=bif o.Kind=6 then bif o.By=d then decide (o.Epoch=c)else false else false
def JT(I:Gi)(v:A3)(d:Int)(c:Ab):Nat:=(v.filter λx=>aad (I.o x) d c).length
section
variable {g:AQ} {m:Jn} {N:Jk} (P:Pg g m N)
include P
theorem AeW(a:EA g v)(d:Int)(c:Ab):Nl g v d c=some (JT (Bw g m N) v d c:Int):=by
 have nI:=P.w.nI;have nL:=P.w.nL;have hl:=a.len;unfold Nl;refine T.eq (.bind (T.mono (T.forA (Q:=λr:Int=>r=(JT (Bw g m N) v d c:Int)) v.length (λk acc=>acc=(JT (Bw g m N) (v.take k) d c:Int)) aa (by simp[JT]) (λk acc hk hj=>?_) λacc hj=>?_) λ_ h=> .some h))
 .obtain⟨x,hx,hm⟩:=dk hk;obtain⟨i,o,e1,e2,e3,_⟩:=P.w.place (lj.2 (a.sub x hm));have ha:JT (Bw g m N) (v.take k) d c<=k:=JF (KZ ..) (by rw[LL];omega);have e:JT (Bw g m N) (v.take (k+1)) d c=JT (Bw g m N) (v.take k) d c+(bif aad o d c then 1 else 0):=by
   unfold JT;rw[Hp,hx,Option.toList_some,O7,Ub];have eo:=(P.op e3 e2).2;cases q:aad o d c with
   |true=>rw[List.filter_cons_of_pos (by rw[eo];exact q)];rfl
   |false=>rw[List.filter_cons_of_neg (by rw[eo,q];simp)];rfl
  subst hj;unfold Pw;dsimp only;rw[eA hk,ax,au,hx,aL,dC aa,aL,e1,show decide ((i:Int)<0)=false from C5 aa,A7,au,e3,aL,show(bif o.Kind=6 then(bif o.By=d then(some (decide (o.Epoch=c)))else(some false))else(some false))=some (aad o d c) by unfold aad;cases decide (o.Kind=6)<;>cases decide (o.By=d)<;>rfl,aL,e];cases aad o d c with
  |true=>exact .some ⟨aq aa,aq aa⟩
  |false=>exact .some ⟨aq aa,rfl⟩
 .unfold Pw;dsimp only;rw[eF,A7];rw[D3] at hj;exact .some hj
theorem AeX(c:g.L.length<=14)(so:Be {o with Path:=[]})(hk:Kn {o with Path:=[]}):T (QL g {o with Path:=[]}) λv=>∃x:List Fs,v={o with Path:=x}/\x.length<=1000/\∀y∈x,I9 y:=by
 unfold QL;refine .bind ((zh _).mono λd _=> .ite (λ_=> .some ⟨[],rfl,aC,aC⟩) λ_=> .bind ((Iv (o:={o with Path:=[]}) (by obtain⟨_,_,e,h⟩:=Aaf P c so hk;exact⟨_,e,aa⟩)).mono λf _=> .bind (T.mono (Q:=λx:List Fs=>x.length<=1000/\∀y∈x,I9 y) (T.loop (λs=>∃j:Nat,s.2=(j:Int)/\j<=5/\s.1.length<=j/\∀y∈s.1,I9 y) (λs=>6-s.2.toNat) ⟨0,rfl,aa,aC,aC⟩ aC ?_) λx hx=> .some ⟨x,rfl,hx⟩)));rintro⟨a,i⟩ ⟨j,rfl,hj,ha,hs⟩;simp only at ha hs;have hwj:wI ((j:Int)+1)=((j+1:Nat):Int):=aq aa;unfold VX;refine .bind (T.mono (Q:=λb:Bool=>b=true->j<5) (.ite (λ_=> .some λe=>by grind) λ_=> .some λe=>by cases e) λb hb=> .ite (λe=>?_) λ_=> .some ⟨by grind,hs⟩);have:=hb e;refine .bind (.app cq (.some ⟨⟨j+1,hwj,aa,by simp;omega,λy hy=>?_⟩,by grind⟩));rcases I6.1 hy with hy|hy
 .grind
 .simp at hy;subst hy;exact⟨Mp _,aC,aC⟩
end
theorem Aa8(hl:l.length<=9223372036854775807)(hi:∀x∈l,DW x)(hm:most<=14)(hk:k<=1000)(w:Fq g)(gr:MH g0 g)(hg:g.L.length<=k):T (LR l most (g,(k:Int))) (Rd (λs'=>s'.2=((k+1:Nat):Int)/\(k:Int)<most/\Fq s'.1/\MH g0 s'.1/\(g.L≠[]->s'.1.L≠[])/\s'.1.L.length<=g.L.length+1) λv=>v=g/\(k=0->most<=0)):=by
 have e2:wI (2*(k:Int))=((2*k:Nat):Int):=by grind [bM]
 have e3:wI (((2*k:Nat):Int)+1)=((2*k+1:Nat):Int):=aq aa;have at_:∀(n:Nat) {Q:Int->Prop},(∀v,DW v->Q v)->T (bif (n:Int)<ah l then((aS l (n:Int)).bind λu=>some u)else(some 0)) Q:=λn Q q=>by refine .dec (λhp=>?_) λ_=> .some (q 0 dP);refine .bind (.ixl aa (by unfold ah at hp;omega) λy _ hy=> .some (q y (hi y hy)))
 unfold LR;simp only[e2,e3];refine .bind (T.mono (Q:=λb:Bool=>(b=true->(k:Int)<most)/\(b=false->k=0->most<=0)) (.dec (λhp=>?_) λhp=> .some ⟨λe=>(by cases e),λ_ e=>(by subst e;exact Int.not_lt.1 hp)⟩) λb hb=> .ite (λe=>?_) λe=> .some ⟨rfl,hb.2 e⟩)
 .have:(k:Int)<most:=hp;refine .ite (λ_=> .some ⟨λ_=>this,λe=>(by cases e)⟩) λh4=> .some ⟨λ_=>this,λ_ e=>?_⟩;subst e;exact absurd h4 (λe=>Bool.noConfusion e)
 have hk':=hb.1 e;have hw:wI ((k:Int)+1)=((k+1:Nat):Int):=aq aa;refine .bind (at_ (2*k) λE z=> .bind (at_ (2*k+1) λF j=>?_));obtain⟨V,N,hC,_,_,h4⟩:=OL gr rfl rfl Ls;have P:=AiI w h4 gr rfl (by rw[hC];show u7.length<=1000;rw[KL];decide) (hC▸Og) (by rw[hC];show(u7.map (·.Device)).Nodup;rw[AlA];decide);refine .bind (T.mono (AlB (N2 w z j)) λi ⟨A,f⟩=> .bind ((AeX P aa f.nopath (Ahz j i A)).mono λH B=>?_));obtain⟨x,rfl,hx⟩:=B;have hS:∀(c:Ab) (n:Int),JU c->DW n->Be {i with Path:=x,Epoch:=c,N:=n}:=λc n hc hn=>Hk f.iBy f.iSeq f.iKind f.iAt f.sPast f.iDevice f.iOld f.iMember f.iRole hx hc hn f.nBody f.sRefs f.of_ f.sGuards f.iNeed f.iWait f.sBoxes f.pub f.sHist;refine .bindc (.ite (λ_=> .bind ((eX j B5).mono λ_ _=> .some trivial)) λ_=> .some trivial) λI _=> .bind (T.mono (Q:=λo:Bj=>Be o) (.ite (λ_=>?_) λ_=> .some (hS _ _ f.epoch f.iN)) λJ so=>?_)
 .refine .bind ((yf w (ids:=i.Past) (by have:=f.nPast;omega)).mono λv hv=>?_);obtain⟨t,K,_⟩:=hv;obtain⟨cs,R,D,q,_,M,_,_,_,_,O,W,S,_⟩:=Acc P aa (AdQ w) t K;rw[O,aL];refine .bind (T.mono (Q:=λo:Bj=>Be o) (.ite (λhq=>?_) λ_=> .some (hS _ _ f.epoch f.iN)) λ_ h=> .some h);have hL:=(S hq).1;have hin:q.1∈v:=((M q.1).1 (Hq.1 (show q.1∈Hi _ cs by rw[hL];simp)).1).1;rw[AeW P t,aL];refine .some (hS _ _ (t.smid w hin) ?_);have:∀d,JT (Bw g (V g.L.length) N) v d q.1<=1000:=λd=>JF (KZ ..) t.len;exact m7 ⟨aa,by have:=this i.By;show((JT _ v i.By q.1:Nat):Int)<=_;omega⟩
 .refine .bind ((Io so).mono λU C=>?_);obtain⟨s,rfl,hr,hs⟩:=C;refine .bind ((QG w (so.sig s) hs).mono λp r=> .dec (λh0=> .some ⟨hw,hk',r.1,?_,?_,?_⟩) λ_=> .some ⟨hw,hk',w,gr,λh=>h,Nat.le_succ _⟩);all_goals rcases r.2 with⟨h,_⟩|⟨id,up,row,_,a,hid,hrow,hg⟩
  .grind
  .show MH g0 p.1;rw[hg];exact .step gr w (so.sig s) hr hs a hid hrow
  .grind
  .intro _;show p.1.L≠[];rw[hg];show g.L++[_]≠[];simp
  .grind
  .show p.1.L.length<=_;rw[hg];show(g.L++[_]).length<=_;simp
def AeY(c:Int):Option (AQ×Int):=(QL g0 ({We c with Path:=[]})).bind λv=>bif v.Kind=6 then none else(nR v).bind λs=>AO g0 s
theorem AdR:(([0,1,2,3]:Bh).all λc=>(AeY c).map (λr=>(r.2,r.1.L.length))==some (0,1))=true:=aH
theorem aae(hi:∀x∈l,DW x)(h0:0<most){r:(AQ×Int)⊕AQ}(h:LR l most (g0,((0:Nat):Int))=some r):∃g,r= .inl (g,1)/\g.L.length=1:=by
 have at_:∀(n:Int),0<=n->∃v,DW v/\(bif n<ah l then((aS l n).bind λd=>some d)else(some 0))=some v:=by grind [ah,aS,dP]
 have e2:wI (2*((0:Nat):Int))=0:=bM B5 B5;have e3:wI ((0:Int)+1)=1:=bM B5 B5;have e4:wI (((0:Nat):Int)+1)=1:=bM B5 B5;obtain⟨a,ha,e⟩:=at_ 0 B5;obtain⟨b,hb,eb⟩:=at_ 1 B5;obtain⟨c,hc,f⟩:=Yv ha hb;have hq:=Gu.1 AdR c hc;unfold AeY at hq;unfold LR at h;simp only[e2,e3,e4] at h;rw[CO (by grind),CO (by grind),ax,ax,aL,ax,e,aL,eb,aL,f,aL] at h;cases hs:QL g0 ({We c with Path:=[]}) with
 |none=>rw[hs] at hq;cases hq
 |some v=>
  rw[hs,aL] at hq h;cases hv:decide (v.Kind=6) with
  |true=>rw[hv] at hq;cases hq
  |false=>
   rw[hv,A7] at hq;rw[hv,A7,aL,A7,aL] at h;cases hg:nR v with
   |none=>rw[hg] at hq;cases hq
   |some s=>
    rw[hg,aL] at hq h;cases hA:AO g0 s with
    |none=>rw[hA] at hq;cases hq
    |some q=>rw[hA] at hq h;grind
theorem AeZ(hl:l.length<=9223372036854775807)(hi:∀x∈l,DW x){most:Int}(h0:0<most)(hm:most<=14):T (N9 l most) λg=>Fq g/\MH g0 g/\g.L≠[]/\(g.L.length:Int)<=most:=by
 unfold N9 r8;rw[aL,Oe,aL];unfold Jf;rw[aL];refine .bind (T.mono (Q:=λg:AQ=>Fq g/\MH g0 g/\g.L≠[]/\(g.L.length:Int)<=most) (T.loop (λs=>∃k:Nat,s.2=(k:Int)/\k<=1000/\Fq s.1/\MH g0 s.1/\(k=0->s.1=g0)/\(k≠0->s.1.L≠[])/\s.1.L.length<=k/\(k:Int)<=most) (λs=>1001-s.2.toNat) ⟨0,rfl,aa,Yu,.base,λ_=>rfl,(by grind),Nat.zero_le _,by grind⟩ aC ?_) λv hv=> .some hv);rintro⟨g,i⟩ ⟨k,rfl,hk,w,gr,hz,a,hlk,b⟩;have hlk:g.L.length<=k:=hlk;obtain⟨r,e,hr⟩:=Aa8 hl hi hm hk w gr hlk;refine⟨r,e,?_⟩;cases r with
 |inr v=>obtain⟨rfl,h⟩:=hr;constructor<;>grind
 |inl s=>obtain⟨h1,h2,h3,h4,h5⟩:=hr;refine⟨⟨k+1,h1,aa,h3,h4,(by grind),λ_=>?_,by grind,aa⟩,?_⟩;all_goals grind [aae]
theorem QM{m:Jn}{l:Bh}(e:N9 l 14=some r)(hof:jg prog fI 44 [.agg (aI r)] [] 0 (.ref 0 0) [(0,oG r.Cards N.length 2),(1,oM m),(2,zQ N)] 3):jg prog fI 10 [aE cZ l] [] 0 (.tup [.ref 0 0,.agg (aI r)]) [(0,oG r.Cards N.length 2),(1,oM m),(2,zQ N)] 3:=by refine pP func10 ?_;exact mt .ret (s0 10 fI [(2,.ref 0 0),(3,.ptr (aI r) 0)] [(0,oG r.Cards N.length 2),(1,oM m),(2,zQ N)] 3 0) [.ref 0 0,.agg (aI r)] [hf 6 (V2 fI e),tN 8 [] 2 [] [.agg (aI r)] [ob 0 105 [aE bv r.Cards,.mref 3,.rsl 4 0 N.length],(1,oM m),(2,zQ N)] hof trivial ⟨⟨rfl,.inl rfl⟩,⟨rfl,rfl,rfl,rfl,.inr ⟨rfl,cf _⟩⟩,⟨rfl,.inr ⟨rfl,az.imm _⟩⟩,trivial⟩] [hc (eB (gs:=aI r) aH),hc (rfl:N.length=N.length),hc (cf m),hc (az.imm N)]
theorem Acd{m:Jn}(e:N9 [] 14=some r)(hof:jg prog fI 44 [.agg (aI r)] [] 0 (.ref 0 0) [(0,oG r.Cards N.length 2),(1,oM m),(2,zQ N)] 3):jg prog fI 10 [Iy] [] 0 (.tup [.ref 0 0,.agg (aI r)]) [(0,oG r.Cards N.length 2),(1,oM m),(2,zQ N)] 3:=by refine pP func10 ?_;exact mt .ret (s0 10 fI [(2,.ref 0 0),(3,.ptr (aI r) 0)] [(0,oG r.Cards N.length 2),(1,oM m),(2,zQ N)] 3 0) [.ref 0 0,.agg (aI r)] [hf 6 (UY [Iy,iG 14] (V2 fI e)),tN 8 [] 2 [] [.agg (aI r)] [ob 0 105 [aE bv r.Cards,.mref 3,.rsl 4 0 N.length],(1,oM m),(2,zQ N)] hof trivial ⟨⟨rfl,.inl rfl⟩,⟨rfl,rfl,rfl,rfl,.inr ⟨rfl,cf _⟩⟩,⟨rfl,.inr ⟨rfl,az.imm _⟩⟩,trivial⟩] [hc (eB (gs:=aI r) aH),hc (rfl:N.length=N.length),hc (cf m),hc (az.imm N)]
theorem Np{l:Bh}(hl:l.length<=9223372036854775807)(hi:∀x∈l,DW x):∃(r:AQ) (m:Jn) (N:Jk),N9 l 14=some r/\Pg r m N/\r.L.length<=14/\r.L≠[]/\MH g0 r/\r.Cards=u7/\jg prog fI 44 [.agg (aI r)] [] 0 (.ref 0 0) [(0,oG r.Cards N.length 2),(1,oM m),(2,zQ N)] 3:=by obtain⟨r,e,w,gr,ne,hn⟩:=AeZ hl hi (most:=14) B5 B5;obtain⟨a,N,hC,_,h3,h4⟩:=OL gr rfl rfl Ls;have P:Pg r (a r.L.length) N:=AiI w h4 gr rfl (by rw[hC];show u7.length<=1000;rw[KL];decide) (hC▸Og) (by rw[hC];show(u7.map (·.Device)).Nodup;rw[AlA];decide);have pl:=P.p.len;have hof:=ZC h3;rw[show N.take r.L.length=N by rw[<-pl,D3]] at hof;generalize a r.L.length=m at*;rw[<-pl] at hof;exact⟨r,m,N,e,P,aa,ne,gr,hC,hof⟩
section
variable {gl:Cd}
theorem Sh{l:A3}(hn:l.length<=1000000):ba prog gl 14 [aE aj l,aE aj l] (bG true):=by
 refine Gh func14 ?_;refine Un (l:=l) aa (λk:Nat=>(s0 26 gl [(0,aE aj l),(1,aE aj l),(5,iG (k:Int))] [] 0 0)) 1110122 [hr 10 (neZ (ah l))] [] (λB k x hx hz k5=>?_) (λB=>?_)
 .have hlt:=(cr hx).1;exact jw [hr 14 (CM hx),Az 19 (ac.ixZ hz),Az 20 (ac.ptZ aW hz),Az 23 (ac.ixZ hz),Az 24 (ac.ptZ aW hz),hV 25 (dy x x (r:=false) aC),hbb 16 (Xl (q:=k) aa)] [] k5 []
 .exact Ar [hr 14 (DH (s:=l))] []
end
end Go.Proofs.YtlijnaneopediaaGreatDoor
