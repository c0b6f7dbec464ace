/- Texts. -/
import Derived.LaidHandle
import Derived.LaidMore
import Derived.OpenShut
import Derived.ProofKit
import Derived.Test.YtaiecngnppbhlaaGreatDoorRows
import Derived.Test.YtaiecngnppbhlaaGreatDoorZO
namespace Go.Proofs.YtaiecngnppbhlaaGreatDoor
set_option linter.unusedSectionVars false
set_option linter.unusedVariables false
set_option linter.unusedSimpArgs false
open Go.RowKit Go.Proofs.Tryz Go.ChangeShapes Go.WideShapes Go.ChangeAt
variable {α:Type}{D:D15R}{o:DOp}{R:DRollRoll}{a l:List Int}{g r:D12G}{ids row:List DIdent}{n:Int}{N:List DGraphNode}{base k:Nat}{I:Gi}{x:DIdent}{P:Program}{W w:World}{t:TypeId}{v:Value}
section
attribute [local irreducible] Tr dz Gp
theorem adY{D':D15R}{i:DIdent}(h:o7 D o i=some D'):D'.In=D.In:=by
 unfold o7 at h;obtain⟨b,_,h⟩:=Option.bind_eq_some_iff.1 h;obtain⟨a,_,h⟩:=Option.bind_eq_some_iff.1 h;cases c:decide (a<0)<;>rw[c] at h
 .rw[cG] at h;obtain⟨_,_,h⟩:=Option.bind_eq_some_iff.1 h;obtain⟨_,_,h⟩:=Option.bind_eq_some_iff.1 h;obtain⟨_,_,h⟩:=Option.bind_eq_some_iff.1 h;obtain⟨_,_,h⟩:=Option.bind_eq_some_iff.1 h;obtain rfl:=cP h;rfl
 .obtain rfl:=cP h;rfl
theorem abi(h:Rr R D)(hR:RlOk R)(d:Int):xy R d=decide (d∈mI R):=by
 have hp:=(wa hR).2.1;have hi:=h.in_ d;unfold xy kN;rw[Bool.eq_iff_iff,decide_eq_true_iff,hp.mem_iff,List.mem_map];by_cases c:d∈D.In
 .rw[if_pos c] at hi;rw[hi];obtain⟨n,hm⟩:=kJ hi;exact⟨λ_=>⟨_,hm,rfl⟩,λ_=>rfl⟩
 .rw[if_neg c] at hi;rw[hi];refine⟨λe=>(by cases e),λ⟨q,hq,e⟩=>?_⟩;have hg:=mF hR.ci (k:=q.1) (v:=q.2.1) (n:=q.2.2) hq;rw[e,hi] at hg;cases hg
theorem af0{b:List Int}(h1:a.length<=1000)(h2:b.length<=1000):bo (qn a b) ([],0)=some (b.filter (QF a)):=by
 refine T.eq (T.forA b.length (λk acc=>acc=(b.take k).filter (QF a)) aa aC (λk acc hk hj=>?_) λacc hj=>?_)
 .obtain⟨y,hy,hm⟩:=dk hk;subst hj;have hl:((b.take k).filter (QF a)).length<=1000:=Nat.le_trans (List.length_filter_le _ _) (by rw[List.length_take];omega);unfold qn;simp only[eA hk,aN,au,hy,aL,cX (show a.length<=1000000 by omega)];refine .ite (λc=> .bind (.app cq (.some ⟨aq aa,?_⟩))) λc=> .some ⟨aq aa,?_⟩
  .rw[Rb hy,List.filter_append];simp[c]
  .rw[Rb hy,List.filter_append];simp[c]
 .unfold qn;dsimp only;rw[eF,cG];subst hj;exact .some (show _=_ by rw[List.take_length])
theorem S9{b x:List Int}(h0:x.length<=1000)(h1:a.length<=1000)(h2:b.length<=1000):bo (qm a b) (x,0)=some (x++a.filter λd=> !QF b d):=by
 refine T.eq (T.forA a.length (λk acc=>acc=x++(a.take k).filter λd=> !QF b d) aa aC (λk acc hk hj=>?_) λacc hj=>?_)
 .obtain⟨y,hy,hm⟩:=dk hk;subst hj;have hl:((a.take k).filter λd=> !QF b d).length<=1000:=Nat.le_trans (List.length_filter_le _ _) (by rw[List.length_take];omega);unfold qm;simp only[eA hk,aN,au,hy,aL,cX (show b.length<=1000000 by omega)];refine .ite (λc=> .bind (.app cq (.some ⟨aq aa,?_⟩))) λc=> .some ⟨aq aa,?_⟩
  .rw[Rb hy,List.filter_append];simp[c]
  .rw[Rb hy,List.filter_append];simp[c]
 .unfold qm;dsimp only;rw[eF,cG];subst hj;exact .some (show _=_ by rw[List.take_length])
section
variable {g:D12G} {m:FM DIdent Int} {N:List DGraphNode} (Pz:Pg g m N)
include Pz
theorem adZ(k:RkS g 1000 D)(h:Rr R D)(hR:RlOk R){i:DIdent}(so:SmOp o)(hp:OpD o i):∃D',DM D o i=some D'/\lu D'=some (mI (Dd R o i))/\∀d,xy (Dd R o i) d=decide (d∈mI (Dd R o i)):=by
 obtain⟨D',e,k',_⟩:=Gc Pz.w dL k so i;refine⟨D',e,?_⟩;have z:=JV Pz k dL;have hQ:=yK hR hp;have a:=k.dev;have b:=k.nL;by_cases c:o.Kind=9
 .have eD:DM D o i=o7 D o i:=by unfold DM;rw[JI z.z,aL];obtain⟨f,e3,_⟩:=Fw z.z h (Fp D.Cards o.By);rw[e3,aL];simp[c]
  rw[eD] at e;have ei:=adY e;have eQ:(Dd R o i).in_=R.in_:=by
   have:Dd R o i=Gq R o i:=by simp[Dd,c]
   rw[this];unfold Gq;split<;>rfl
  have e1:mI (Dd R o i)=mI R:=by unfold mI;rw[eQ]
  have e2:lu D'=lu D:=by unfold lu;rw[ei]
  refine⟨by rw[e1,e2];exact adM z.z h hR,λd=>?_⟩;rw[e1,<-abi h hR d];unfold xy;rw[eQ]
 .obtain⟨j,e2,h2⟩:=doE z ⟨aa,aa⟩ h hR (o:=o) (i:=i) λc'=>absurd c' c;rw[e] at e2;obtain rfl:=cP e2;exact⟨adM ⟨by rw[k'.cards];exact Pz.w.nC,by have:=k'.dev;omega,by have:=k'.nL;omega,by have:=k'.nV;omega⟩ h2 hQ,abi h2 hQ⟩
end
theorem M6(hR:RlOk R)(h:Bw R o=0):1<=o.By/\o.By<=6:=by
 unfold Bw at h;split at h
 .grind [RlOk,eL]
 .cases c:xy R o.By with
  |false=>rw[c] at h;cases h
  |true=>
   unfold xy kN at c;cases hg:R.in_.get o.By with
   |none=>rw[hg] at c;cases c
   |some v=>grind [RlOk,kJ]
section
variable {g:D12G} {m:FM DIdent Int} {N:List DGraphNode} (Pz:Pg g m N)
include Pz
theorem Td(n:g.L.length<=14)(q:∀(i:Nat) (o:DOp) (x:DIdent),g.L[i]?=some o->g.IDs[i]?=some x->x.Seq=o.Seq)(so:SmOp o){i:DIdent}(hid:pV o=some i)(t:ba prog fI 27 [.agg (aJ o)] (.agg (aj i)))(hp:1<=o.By/\o.By<=6->OpD o i):∃l:List Int,iV prog fI 7 [.ptr (av ⟨g.Cards,m,N⟩) 0,.agg (aJ o)] 3 l.length (l.flatMap cZ)/\qo g o=some l/\l.length<=2000:=by
 have w:=Pz.w;have hpl:=so.nPast;have hgl:o.Guards.length<=1000000:=by have:=so.nGuards;omega
 have nI:=w.nI;have pl:=Pz.p.len;have hG:=abh w Pz.p;have hI:=abg hG;have opx:∀x∈g.IDs,∃(i:Nat) (o:DOp),g.IDs[i]?=some x/\g.L[i]?=some o/\CheckOk o:=by grind [List.getElem?_of_mem,WfG.op]
 have hseq:∀x∈g.IDs,1<=x.Seq/\x.Seq<=2147483647:=λx hx=>by obtain⟨i,o,h1,h2,co⟩:=opx x hx;rw[q i o x h2 h1];exact(T1 co.numbers).seq
 obtain⟨v,p,e1,u,c,e2,pe,M,a⟩:=adX Pz n hpl;have hv14:v.length<=14:=by have:=EC c u.sub;omega
 have O:=XX (gl:=fI) hG (by show N.length<=14;omega) (ids:=o.Past) aa e2 pe;have hS:=SN hI O aa;generalize pf (fA g m N) p o.Past=s at hS a;have hs14:s.length<=14:=by rw[a.length_eq];exact hv14
 have hsn:s.Nodup:=a.nodup_iff.2 c;have hsm:∀x∈s,x∈g.IDs:=by grind [IdsOk.sub]
 obtain⟨fr,C,K,f1,f2,S,f4⟩:=acb (gl:=fI) (gg:=⟨g.Cards,m,N⟩) (o:=o) hs14 a (by grind);obtain⟨row,E,y,F⟩:=K4 w Pz.p aa c u.sub;have hrl:row.length<=14:=by rw[y.length_eq];exact hv14
 have hrn:row.Nodup:=y.nodup_iff.2 c;have hrm:∀x∈row,x∈g.IDs:=by grind
 have hO:ba prog fI 161 [.ptr (av ⟨g.Cards,m,N⟩) 0,aE aj s] (aE aj row):=by obtain⟨r,e,f,h⟩:=zF (Ha (fA g m N)) hsn hs14;have:r=row:=DL (Ha (fA g m N)).tr K3 (f.trans (a.trans y.symm)) h F;grind [Fl,List.Perm.length_eq]
 obtain⟨vs,U,V,W⟩:=M4 (ids:=v) aa c (by grind);have hvm:∀x∈vs,x∈g.IDs:=by grind
 have hvl:vs.length<=1000:=by grind [List.Perm.length_eq,List.length_filter_le]
 have hV:ba prog fI 232 [.ptr (av ⟨g.Cards,m,N⟩) 0,aE aj s] (aE aj vs):=by
  obtain⟨r,e,f,h⟩:=aa0 (gl:=fI) (gg:=⟨g.Cards,m,N⟩) hs14 hsn (by grind);have hq:(s.filter (JS s)).Perm (v.filter (JS v)):=by rw[show JS s=JS v from funext (S7 a)];exact a.filter _
  have:r=vs:=DL wy.tr Qi (f.trans (hq.trans V.symm)) h W;exact this▸e
 obtain⟨s1,s2⟩:=abb Pz hrm;have hO2:ba prog fI 161 [.ptr (av ⟨g.Cards,m,N⟩) 0,aE aj row] (aE aj row):=by obtain⟨r,e,f,h⟩:=zF (Ha (fA g m N)) hrn hrl;have:r=row:=DL (Ha (fA g m N)).tr K3 f h F;grind [Fl]
 have A:=Fj hI hO2 aa;have hN:=Fj hI hO aa;have j:=Ke Pz E aa hrm;obtain⟨D,X,cs,Y,H,B,b,J⟩:=afJ Pz (ids:=v) u E hrn aa hrm U hvl hvm;have hod:∀x∈row,OpD ((fA g m N).o x) x:=λx hx=>by obtain⟨i,o,h1,h2,_⟩:=opx x (hrm x hx);rw[(Pz.op h2 h1).2];exact Pz.od i o x h2 h1
 have Z:=RX (I:=fA g m N) (ids:=s) (row:=row) (s:=tP (fA g m N) row) (r:=cs) ⟨hI,Pz.cd,hod,by show row.length<=1000;omega⟩ hO hV hvl A aa Y;have hcl:cs.length<=1000:=by have:=H.length_le;omega
 have k:=aab hI Pz.cd Z (λx hx=>hod x (H.subset hx)) hcl;generalize Hk (fA g m N) cs=R at B b k;generalize tP (fA g m N) row=sen at s1 s2 hN j;refine⟨_,SP hS f1 f2 b k t hgl (λh0=>hp (M6 b h0)) hN aa,?_,?_⟩
 .unfold qo SO;rw[e1,aL,S,aL];have hj:(bif decide (0<K) then(some (decide (K<=o.Seq))) else(some false))=some C:=by grind
  rw[hj,aL];cases C with
  |true=>rfl
  |false=>
  rw[cG,cG,X,aL,hid,aL,adz (JV Pz J aa).z B b hgl i,aL];cases cm:decide (Bw R o≠0) with
  |true=>rfl
  |false=>
  have hp:=hp (M6 b (Decidable.of_not_not (of_decide_eq_false cm)));obtain⟨D',k1,k2,k3⟩:=adZ Pz J B b so hp;have hQ:=yK b hp;generalize Dd R o i=Q at k2 k3 hQ;have hdl:(mI Q).length<=1000:=by rw[(wa hQ).2.1.length_eq,List.length_map];have:=hQ.len;omega
  rw[cG,cG,k1,aL,k2,aL,j,aL,af0 hdl aa,aL,S9 (by grind) hdl aa,aL];have a1:sen.filter (QF (mI Q))=JK Q sen:=by grind [List.filter_congr,re]
  rw[a1];congr 2;refine List.filter_congr λd hd=>?_;grind [re]
 .unfold SO;cases C with
  |true=>simp
  |false=>
  cases cm:decide (Bw R o≠0) with
  |true=>simp
  |false=>
  have hQ:=yK b (hp (M6 b (Decidable.of_not_not (of_decide_eq_false cm))));generalize Dd R o i=Q at hQ;have hdl:(mI Q).length<=1000:=by rw[(wa hQ).2.1.length_eq,List.length_map];have:=hQ.len;omega
  grind
end
def Pq{α:Type}(x:Option α)(Q:α->Prop):Prop:=∀v,x=some v->Q v
section
variable {α β:Type} {x:Option α} {f:α->Option β} {Q:β->Prop} {R:α->Prop}
theorem Pq.b(h:∀v,Pq (f v) Q):Pq (x.bind f) Q:=λw e=>by obtain⟨v,_,e⟩:=Option.bind_eq_some_iff.1 e;exact h v w e
theorem Pq.m(h:Pq x R)(k:∀v,R v->Pq (f v) Q):Pq (x.bind f) Q:=λw e=>by obtain⟨v,e',e⟩:=Option.bind_eq_some_iff.1 e;exact k v (h v e') w e
theorem Pq.i{c:Bool}{a b:Option α}(h1:c=true->Pq a R)(h2:c=false->Pq b R):Pq (bif c then a else b) R:=by
 cases c
 .exact h2 rfl
 .exact h1 rfl
theorem Pq.s{v:α}(h:R v):Pq (some v) R:=λw e=>cP e▸h
end
theorem Pq.of{α:Type}{x:Option α}{Q:α->Prop}(h:T x Q):Pq x Q:=λv e=>by obtain⟨w,e',h⟩:=h;rw[e] at e';exact cP e'▸h
def Kn(o:DOp):Prop:=o.Kind=9->1<=o.Need/\o.Need<=1000000
theorem Qt(h0:0<=n)(h1:n<=1000000):Pq (sc g ids o n) Kn:=by
 unfold sc;refine .b λk=> .b λl=> .b λp=> .i (λc=>?_) λc=>?_
 .refine .b λr=> .b λd=> .m (R:=λq=>0<=q/\q<=1) (λq e=>?_) λh hq=> .b λj=> .s λ_=>?_
  .have a:=Int.tdiv_nonneg h0 (show(0:Int)<=16 by decide);have b:=Int.tdiv_le_self 16 h0;rw[bM aa aa] at e;unfold u9 at e;split at e
   .cases e
   .rename_i hz;obtain rfl:=cP e;have hm:0<iI 2 (ah d)/\iI 2 (ah d)<=2:=by unfold iI ah at*;split<;>split at hz<;>omega
    have:=Int.tmod_lt_of_pos (n.tdiv 16) hm.1;exact⟨Int.tmod_nonneg _ a,aa⟩
  .show 1<=wI (1+h)/\wI (1+h)<=1000000;rw[bM aa aa];omega
 .have c':=of_decide_eq_false c;refine .b λ_=> .b λ_=> .b λ_=> .b λ_=> .b λ_=> .b λ_=> .i (λ_=> .s λe=>absurd e c') λ_=> .s λe=>absurd e c'
theorem O7{m:Int}(hm:c8 m):Pq (sd g n m) Kn:=by
 unfold sd;refine .b λy=> .m (.of (eX hm dL)) λo h3=> .b λz=> .i (λ_=> .s λe=>absurd e (by show¬(1:Int)=9;decide)) λ_=> .b λd=> .b λp=> .b λj12=> .b λr=> .b λt=>?_;have hk:0<=wI (o.tdiv 20)/\wI (o.tdiv 20)<=1000000:=by have a:=Int.tdiv_nonneg h3.1 (show(0:Int)<=20 by decide);have b:=Int.tdiv_le_self 20 h3.1;rw[bM aa aa];omega
 have no:∀{k:Int},decide (d.Kind=k)=true->k≠9->∀{q:Int},d.Kind=9->1<=q/\q<=1000000:=λc hk _ e=>absurd ((of_decide_eq_true c).symm.trans e) hk;refine .m (R:=λx:DOp×List DIdent=>Kn x.1) (.i (λc=> .b λ_=> .s λe=>no c dL e) λ_=> .m (R:=λx:DOp×List DIdent=>Kn x.1) (.i (λc=> .b λ_=> .s λe=>no c dL e) λ_=> .m (R:=λx:DOp×List DIdent=>Kn x.1) (.i (λc=> .s λe=>no c dL e) λ_=> .m (R:=λx:DOp×List DIdent=>Kn x.1) (.i (λc=> .b λ_=> .b λ_=> .b λ_=> .s λe=>no c dL e) λ_=> .m (R:=λx:DOp×List DIdent=>Kn x.1) (.i (λc=> .s λe=>no c dL e) λ_=> .m (R:=λx:DOp×List DIdent=>Kn x.1) (.i (λc=> .s λe=>no c dL e) λ_=> .m (R:=λb:Bool=>d.Kind=9->b=true) (.i (λ_=> .s λ_=>rfl) λc=>λ_ _ e=>absurd e (of_decide_eq_false c)) λu j=> .m (R:=λx:DOp×List DIdent=>Kn x.1) (.i (λ_=> .m (Qt hk.1 hk.2) λv h=> .b λ_=> .s h) λc=> .s λe=>absurd (j e) (by rw[c];decide)) λ_ h=> .s h) λ_ h=> .s h) λ_ h=> .s h) λ_ h=> .s h) λ_ h=> .s h) λ_ h=> .s h) λw l=>?_;exact .b λ_=> .b λ_=> .b λ_=> .b λ_=> .b λ_=> .s l
def R5(l:List DCard):Bool:=decide (l.length<=12)&&(List.range 12).all λk=>match l[k]?,l[k+1]? with
 |some a,some b=>decide (a.Device<=b.Device)&&(decide (0<=a.Device)&&decide (b.Device<=1000000))
 |_,_=>true
theorem OM{l:List DCard}(h:R5 l=true):xf l:=by unfold R5 at h;simp only[bA,decide_eq_true_eq] at h;refine⟨h.1,λk a b ha hb=>?_⟩;have hk:=(cr ha).1;have:=List.all_eq_true.1 h.2 k (List.mem_range.2 aa);rw[ha,hb] at this;simpa using this
theorem Ls:xf u7:=OM aH
structure MadeOk (r:D12G) (ms:Nat->FM DIdent Int) (N:List DGraphNode):Prop where
 wf:WfG r
 ne:r.L≠[]
 run:OfRun r ms N
 pg:PgOk r (ms r.L.length) N
 gr:Grown g0 r
 gC:r.Cards=u7
 n14:r.L.length<=14
abbrev oN3(N:List DGraphNode)(n:Nat):Option Ob:=zQ (N.take n)
theorem Ui{ms:Nat->FM DIdent Int}(e:vq l 14=some r)(h:MadeOk r ms N):jg prog fI 4 [aE cZ l] [] 0 (.tup [.ref 0 0,.agg (aI r)]) [(0,oG r.Cards r.L.length 2),(1,oM (ms r.L.length)),(2,oN3 N r.L.length)] 3:=by refine pP func4 ?_;exact mt .ret (s0 10 fI [(2,.ref 0 0),(3,.ptr (aI r) 0)] [(0,oG r.Cards r.L.length 2),(1,oM (ms r.L.length)),(2,oN3 N r.L.length)] 3 0) [.ref 0 0,.agg (aI r)] [hf 6 (Jm fI e),tN 8 [] 2 [] [.agg (aI r)] [ob 0 194 [aE bv r.Cards,.mref 3,.rsl 4 0 r.L.length],(1,oM (ms r.L.length)),(2,oN3 N r.L.length)] (ZC h.run) trivial ⟨⟨rfl,.inl rfl⟩,⟨rfl,rfl,rfl,rfl,.inr ⟨rfl,cf _⟩⟩,⟨rfl,.inr ⟨rfl,az.imm _⟩⟩,trivial⟩] [hc (eB (gs:=aI r) aH),hc (rfl:r.L.length=r.L.length),hc (cf (ms r.L.length)),hc (az.imm (N.take r.L.length))]
theorem neZ(a:Int):decide (a≠a)=false:=aC
theorem HR{gl:List (Nat×List G)}{l:List Int}(hn:l.length<=1000000):ba prog gl 6 [aE cZ l,aE cZ l] (bG true):=by
 refine Gh func6 ?_;refine pN (λk:Nat=>(s0 26 gl [(0,aE cZ l),(1,aE cZ l),(5,iG (k:Int))] [] 0 0)) 1110122 (iw (n:=l.length) aa) [hr 10 (neZ (ah l))] [] (λB k w hs k5 a=>?_);unfold qZ at hs;split at hs
 .rename_i hlt;obtain rfl:=cP hs;obtain⟨x,hx⟩:∃x,l[k]?=some x:=⟨_,fy hlt⟩;have hz:=cQ hx;have k5:=k5 _ rfl;exact jw [hr 14 (fp hx),bR 19 (rZ.ixZ hz),bR 20 (rZ.p1Z tZ hz),bR 23 (rZ.ixZ hz),bR 24 (rZ.p1Z tZ hz),hr 25 (neZ x),hbb 16 (Xl (q:=k) aa)] [] k5 []
 .split at hs
  .rename_i he;subst he;exact Ar [hr 14 (gz (s:=l))] []
  .cases hs
theorem A9{i:DIdent}(so:SmOp o)(h:pV o=some i):i.By=o.By/\i.Seq=o.Seq:=by obtain⟨j,e,a,b,_⟩:=wN so;grind
theorem Nh{b:D12G}(h:Grown b g)(hb:b.L=[]):∀(i:Nat) (o:DOp),g.L[i]?=some o->∃c∈g.Cards,c.Device=o.By:=by
 induction h with
 |base=>grind
 | @step g o id up row gr w sm _ e a hid hrow ih=>
  intro i d ho;have ho:(g.L++[o])[i]?=some d:=ho;rcases je ho with⟨_,h⟩|⟨_,rfl⟩
  .exact ih i d h
  .obtain⟨c,hc,_⟩:=a.card;exact⟨c,yd hc⟩
theorem Pa{cs:List DCard}(h:cs.all KK=true){c:DCard}(hc:c∈cs):1<=c.Device/\c.Device<=6/\1<=c.Member/\c.Member<=3:=by grind [KK]
theorem aea:u7.map (·.Device)=[1,2,3,4,5,6]:=aH
section
variable {r:D12G} {ms:Nat->FM DIdent Int} {N:List DGraphNode}
theorem TF{b:D12G}{m:FM DIdent Int}(w:WfG r)(p:PgOk r m N)(gr:Grown b r)(hb:b.L=[])(hl:r.Cards.length<=1000)(h6:r.Cards.all KK=true)(hn:(r.Cards.map (·.Device)).Nodup):Pg r m N:=by have hcd:=Nh gr hb;refine⟨w,p,λi o x ho hx=>?_,λi o x ho _=>hcd i o ho,⟨hl,λc hc=>Pa h6 hc⟩,hn⟩;grind [WfG.ops,T1,CheckOk.numbers,SmOp.nGuards,OpD,A9,WfG.ids,NumF.k9,ah,Pa]
theorem aeb(h:MadeOk r ms N):Pg r (ms r.L.length) N:=TF h.wf h.pg h.gr rfl (by rw[h.gC,KL];decide) (h.gC▸Og) (by rw[h.gC,aea];decide)
end
theorem HU{m:FM DIdent Int}(P:Pg g m N)(a:g.L.length<=14){o:DOp}(so:SmOp o)(hk:Kn o):∃l:List Int,iV prog fI 7 [Z8 g.Cards m N,.agg (aJ o)] 3 l.length (l.flatMap cZ)/\qo g o=some l/\l.length<=2000:=by
 obtain⟨i,e,hi⟩:=TU so;have hb:=A9 so hi;have hg:o.Guards.length<=1000000:=by have:=so.nGuards;omega
 have:=Td P a (λi o x ho hx=>(A9 (P.w.ops i o ho).1 (P.w.ids i o x ho hx)).2) so hi (TP fI so e) λb=>⟨hb.1,hg,hk,b⟩;grind [av,RJ]
theorem aec{ms:Nat->FM DIdent Int}(h:MadeOk r ms N)(ho:r.L[k]?=some o):SmOp o/\Kn o:=by obtain⟨sm,a,_⟩:=h.wf.ops k o ho;have f:=T1 a.numbers;have:=sm.nGuards;refine⟨sm,λhk=>?_⟩;grind [NumF,ah]
theorem aed{x:Option α}{Q:α->Prop}(h:T x Q):T x λv=>x=some v/\Q v:=by obtain⟨v,e,q⟩:=h;exact⟨v,e,e,q⟩
theorem Iv(h:T (qo g o) λl=>l.length<=3000):T (jm g o) λl=>l.length<=200000:=by unfold jm;refine .bindc (zh _) λa _=> .ite (λ_=> .some aC) λ_=> .bind (h.mono λb h4=>?_);grind [cX,T.some,Od]
theorem Oh(hl:l.length<=9223372036854775807)(hi:∀x∈l,c8 x){most:Int}(hm:most<=14)(hk:k<=1000)(w:WfG g)(gr:Grown g0 g)(hg:g.L.length<=k):T (ly l most (g,(k:Int))) (Rd (λs'=>s'.2=((k+1:Nat):Int)/\(k:Int)<most/\WfG s'.1/\Grown g0 s'.1/\(g.L≠[]->s'.1.L≠[])/\s'.1.L.length<=g.L.length+1) λv=>v=g/\(k=0->most<=0)):=by
 have e2:wI (2*(k:Int))=((2*k:Nat):Int):=by grind [bM]
 have e3:wI (((2*k:Nat):Int)+1)=((2*k+1:Nat):Int):=aq aa;have at_:∀(n:Nat) {Q:Int->Prop},(∀v,c8 v->Q v)->T (bif decide ((n:Int)<ah l) then((aS l (n:Int)).bind λp=>some p) else(some 0)) Q:=λn Q q=>by refine .dec (λhp=>?_) λ_=> .some (q 0 dP);refine .bind (.ixl aa (by unfold ah at hp;omega) λy _ hy=> .some (q y (hi y hy)))
 unfold ly;simp only[e2,e3];refine .bind (T.mono (Q:=λb:Bool=>(b=true->(k:Int)<most)/\(b=false->k=0->most<=0)) (.dec (λhp=>?_) λhp=> .some ⟨λe=>(by cases e),λ_ e=>(by subst e;exact Int.not_lt.1 hp)⟩) λb hb=> .ite (λe=>?_) λe=> .some ⟨rfl,hb.2 e⟩)
 .have:(k:Int)<most:=hp;refine .ite (λ_=> .some ⟨λ_=>this,λe=>(by cases e)⟩) λh4=> .some ⟨λ_=>this,λ_ e=>?_⟩;subst e;exact absurd h4 (λe=>Bool.noConfusion e)
 have hk':=hb.1 e;have hw:wI ((k:Int)+1)=((k+1:Nat):Int):=aq aa;refine .bind (at_ (2*k) λD t=> .bind (at_ (2*k+1) λE f=>?_));obtain⟨ms,N,u,_,_,h4⟩:=OL gr rfl rfl Ls;have P:=TF w h4 gr rfl (by rw[u];show u7.length<=1000;rw[KL];decide) (u▸Og) (by rw[u];show(u7.map (·.Device)).Nodup;rw[aea];decide);refine .bind (T.mono (aed (N2 w t f)) λo ⟨z,c⟩=> .bind ((Iv (by obtain⟨_,_,e,h⟩:=HU P aa c.nopath (O7 f o z);exact⟨_,e,aa⟩)).mono λF H=> .bindc (uW (eX f dL)) λI _=> .bindc (.ite (λ_=> .some trivial) λ_=> .some trivial) λJ _=> .bindc (zh _) λK _=>?_));refine .bind (T.mono (Q:=λx:List DNode=>x.length<=1000/\∀y∈x,SmNode y) (T.loop (λs=>∃j:Nat,s.2=(j:Int)/\j<=5/\s.1.length<=j/\∀y∈s.1,SmNode y) (λs=>6-s.2.toNat) ⟨0,rfl,aa,aC,aC⟩ aC ?_) λA B=>?_)
 .rintro⟨a,i⟩ ⟨j,rfl,hj,ha,hs⟩;simp only at ha hs;have hwj:wI ((j:Int)+1)=((j+1:Nat):Int):=aq aa;unfold lw;refine .bind (T.mono (Q:=λb:Bool=>b=true->j<5) (.ite (λ_=> .ite (λ_=> .some λe=>?_) λ_=> .some λe=>by cases e) λ_=> .some λe=>by cases e) λb hb=> .ite (λe=>?_) λ_=> .some ⟨by show a.length<=1000;omega,hs⟩)
  .have:=of_decide_eq_true e;exact Int.ofNat_lt.1 this
  .have:=hb e;refine .bind (.bind (.app cq (.some (.some ⟨⟨j+1,hwj,aa,by simp;omega,λy hy=>?_⟩,?_⟩))))
   .rcases List.mem_append.1 hy with hy|hy
    .exact hs y hy
    .simp at hy;subst hy;exact⟨Mp _,aC,aC⟩
   grind
 .have so:SmOp {o with Path:=A}:=jS c.iBy c.iSeq c.iKind c.iAt c.sPast c.iDevice c.iOld c.iMember c.iRole B c.epoch c.iN c.nBody c.sRefs c.of_ c.sGuards c.iNeed c.iWait c.sBoxes c.pub c.sHist;refine .bind ((Io so).mono λM C=>?_);obtain⟨s,rfl,hr,hs⟩:=C;refine .bind ((QG w (so.sig s) hs).mono λm d=> .dec (λh0=> .some ⟨hw,hk',d.1,?_,?_,?_⟩) λ_=> .some ⟨hw,hk',w,gr,λh=>h,Nat.le_succ _⟩)
  .rcases d.2 with⟨h,_⟩|⟨id,up,row,_,a,hid,hrow,hg⟩
   .exact absurd h0 h
   .show Grown g0 m.1;rw[hg];exact .step gr w (so.sig s) hr hs a hid hrow
  .rcases d.2 with⟨h,_⟩|⟨id,up,row,_,a,hid,hrow,hg⟩
   .exact absurd h0 h
   .intro _;show m.1.L≠[];rw[hg];show g.L++[_]≠[];simp
  .rcases d.2 with⟨h,_⟩|⟨id,up,row,_,a,hid,hrow,hg⟩
   .exact absurd h0 h
   .show m.1.L.length<=_;rw[hg];show(g.L++[_]).length<=_;simp
theorem Wf(hl:l.length<=9223372036854775807)(hi:∀x∈l,c8 x){most:Int}(h0:0<most)(hm:most<=14):T (vq l most) λg=>WfG g/\Grown g0 g/\g.L≠[]/\(g.L.length:Int)<=most:=by
 unfold vq r8;rw[aL,Oe,aL];unfold Jf;rw[aL];refine .bind (T.mono (Q:=λg:D12G=>WfG g/\Grown g0 g/\g.L≠[]/\(g.L.length:Int)<=most) (T.loop (λs=>∃k:Nat,s.2=(k:Int)/\k<=1000/\WfG s.1/\Grown g0 s.1/\(k=0->s.1=g0)/\(k≠0->s.1.L≠[])/\s.1.L.length<=k/\(k:Int)<=most) (λs=>1001-s.2.toNat) ⟨0,rfl,aa,Yu,.base,λ_=>rfl,λh=>absurd rfl h,Nat.zero_le _,by show(0:Int)<=most;omega⟩ aC ?_) λv hv=> .some hv);rintro⟨g,i⟩ ⟨k,rfl,hk,w,gr,hz,a,hlk,d⟩;have hlk:g.L.length<=k:=hlk;obtain⟨r,e,hr⟩:=Oh hl hi hm hk w gr hlk;refine⟨r,e,?_⟩;cases r with
 |inr v=>obtain⟨rfl,h⟩:=hr;exact⟨w,gr,a λe=>(by have:=h e;omega),by show _<=most;omega⟩
 |inl s=>
  obtain⟨h1,h2,h3,h4,h5⟩:=hr;refine⟨⟨k+1,h1,aa,h3,h4,λe=>absurd e aa,λ_=>?_,by have:=h5.2;omega,aa⟩,?_⟩
  .by_cases hk0:k=0
   .subst hk0;have:=hz rfl;simp only at this;subst this;obtain⟨c,e',b⟩:=KM hi h0 e;cases e';intro hn;have hl'':c.L.length=1:=b;rw[show c.L=[] from hn] at hl'';cases hl''
   .exact h5.1 (a hk0)
  .rw[h1];show 1001-(((k+1:Nat):Int)).toNat<1001-((k:Int)).toNat;simp;omega
theorem Xe(hl:l.length<=9223372036854775807)(hi:∀x∈l,c8 x):∃r ms N,vq l 14=some r/\MadeOk r ms N:=by obtain⟨r,e,w,g,ne,hn⟩:=Wf hl hi (most:=14) dL dL;obtain⟨ms,N,a,_,h3,h4⟩:=OL g rfl rfl Ls;exact⟨r,ms,N,e,w,ne,h3,h4,g,a,aa⟩
def Te(x:DOp×Bool):List G:=bif x.2 then bF [9] (aJ x.1) else aJ x.1
theorem C6:RowTy prog 25 44 27 Te:=⟨aH,aH,dL,λx=>by obtain⟨o,b⟩:=x;cases b<;>rfl,λx=>by obtain⟨o,b⟩:=x;cases b<;>rfl⟩
theorem Yc(l:List DOp):(l.map λo=>(o,false)).flatMap Te=l.flatMap aJ:=by rw[List.flatMap_map];rfl
abbrev alN(r:D12G)(nx:DOp):List (DOp×Bool):=(r.L.map λo=>(o,false))++[({nx with Path:=[]},true)]
abbrev oAl(l:List (DOp×Bool)):Option Ob:=some ⟨44,l.flatMap Te,none⟩
theorem WY(d:ba prog fI 9 [] (bG true))(hl:l.length<=9223372036854775807)(hi:∀x∈l,c8 x){m:Int}(hn:c8 n)(hm:c8 m):ba prog fI 3 [aE cZ l,iG n,iG m] (bG true):=by
 obtain⟨r,j,N,p,hM⟩:=Xe hl hi;have e:=Ui p hM;obtain⟨nx,hx,sx⟩:=N2 hM.wf hn hm;have kx:=O7 hm nx hx;have sx':=sx.nopath;have pl:=hM.pg.len;have nL:=hM.n14;have haf:∀{o:DOp},SmOp o->Kn o->_:=λ{o} a b=>HU (aeb hM) hM.n14 (o:=o) a b;have hall:∀x∈(r.L.map λo=>(o,false))++[({nx with Path:=[]},true)],SmOp x.1/\Kn x.1/\(x.2=true->∃c:DOp,x.1={c with Path:=[]}):=λx hx=>by
  rcases List.mem_append.1 hx with h|h
  .grind [List.getElem?_of_mem,aec]
  .rw[List.mem_singleton] at h;subst h;exact⟨sx',kx,λ_=>⟨nx,rfl⟩⟩
 have eN:oN3 N r.L.length=zQ N:=by grind
 rw[eN,<-pl] at e;rw[<-pl] at haf;generalize j N.length=mm at e haf;have hpth:nx={nx with Path:=[]}\/True:= .inr trivial;have hN:=Jy fI hx;have hl1:(r.L.map λo=>(o,false)).length=r.L.length:=List.length_map ..;refine Gh func3 ?_;have hap0:(([]:List DOp).flatMap aJ).length=0*27/\(r.L.flatMap aJ).length=r.L.length*27/\(0+r.L.length)*328<=140737488355328/\[]++r.L.flatMap aJ=(r.L.map λo=>(o,false)).flatMap Te/\0+r.L.length=(r.L.map λo=>(o,false)).length:=by grind [RowTy.len,eJ,Yc]
 refine pN (λk:Nat=>(s0 49 fI [(7,.ref 0 0),(8,.ptr (aI r) 0),(9,.rsl 3 0 (alN r nx).length),(10,iG (k:Int))] [(0,oG r.Cards N.length 2),(1,oM mm),(2,zQ N),(3,oAl (alN r nx))] 4 0)) 111110122 (iw (n:=(alN r nx).length) cq) [tN 13 [] 0 [] [aE cZ l] [ob 0 194 [aE bv r.Cards,.mref 1,.rsl 2 0 N.length],(1,oM mm),(2,zQ N)] e trivial ⟨⟨rfl,.inl rfl⟩,⟨rfl,rfl,rfl,rfl,.inr ⟨rfl,cf _⟩⟩,⟨rfl,.inr ⟨rfl,az.imm _⟩⟩,trivial⟩,ha 21 ((r.L.map λo=>(o,false)).flatMap Te) (r.L.map λo=>(o,false)).length hap0,hf 25 hN,Tn 27 C6 328 (r.L.map λo=>(o,false)) ({nx with Path:=[]},true) (by rw[hl1];omega)] [hc (eB (gs:=aI r) aH),hc (el (alN r nx)),hc (el N),hc (cf mm),hc (az.imm N),hc (C6.imm (alN r nx))] (λB k w hs k5 g=>?_) [] [(0,0),(1,1),(2,2),(3,7)] [(2,.row),(3,.row)];generalize hA:alN r nx=A at hs k5 g⊢;have hall:∀x∈A,SmOp x.1/\Kn x.1/\(x.2=true->∃c:DOp,x.1={c with Path:=[]}):=hA▸hall;have hAl:A.length<=15:=by rw[<-hA];simp;omega
 clear hA;unfold qZ at hs;split at hs
 .rename_i hlt;obtain rfl:=cP hs;obtain⟨x,hx⟩:∃x,A[k]?=some x:=⟨_,fy hlt⟩;have hz:=cQ hx;have k5:=k5 _ rfl;obtain⟨t,bx,u⟩:=hall x (bO hx);obtain⟨q,q1,i,v⟩:=haf t bx;obtain⟨o,b⟩:=x;have f:=GU fI i;have hS:=HR (gl:=fI) (l:=q) aa;cases b
  .exact jw [hr 31 (fp hx),bR 37 (C6.ixrZ 3 hz),bR 38 (C6.pt0Z GN hz),ho 39 [Z8 r.Cards mm N,.agg (aJ o)] [hc (cf mm),hc (az.al N)] q1 (lZ q),bR 43 (C6.ixrZ 3 hz),bR 44 (C6.pt0Z GN hz),ho 45 [.agg (aI r),.agg (aJ o)] [] f (lZ q),hq 46 [aE cZ q,aE cZ q] [hc (rZ.al q),hc (rZ.al q)] hS,hbb 33 (Xl (q:=k) aa)] [hc (el A),hc (el N),hc (cf mm),hc (az.imm N),hc (C6.imm A)] k5 [] [(0,0),(1,1),(2,2),(3,3)] [(2,.row),(3,.row)]
  .obtain⟨c,rfl⟩:∃c:DOp,o={c with Path:=[]}:=u rfl;exact jw [hr 31 (fp hx),bR 37 (C6.ixrZ 3 hz),bR 38 (C6.pt0Z GN hz),ho 39 [Z8 r.Cards mm N,.agg (aJ {c with Path:=[]})] [hc (cf mm),hc (az.al N)] q1 (lZ q),bR 43 (C6.ixrZ 3 hz),bR 44 (C6.pt0Z GN hz),ho 45 [.agg (aI r),.agg (aJ {c with Path:=[]})] [] f (lZ q),hq 46 [aE cZ q,aE cZ q] [hc (rZ.al q),hc (rZ.al q)] hS,hbb 33 (Xl (q:=k) aa)] [hc (el A),hc (el N),hc (cf mm),hc (az.imm N),hc (C6.imm A)] k5 [] [(0,0),(1,1),(2,2),(3,3)] [(2,.row),(3,.row)]
 .split at hs
  .rename_i he;subst he;exact Ar [hr 31 (gz (s:=A)),hf 48 d] []
  .cases hs
section
variable {gl:List (Nat×List G)}
abbrev DnV(gl:List (Nat×List G))(fi:FuncId)(fa fc:List G)(p:DIdent->Bool):Prop:=FnV prog gl fi fa fc (λx:DIdent=>[.agg (aj x)]) (λx:Bool=>bG x) (λk=>some (p k))
theorem Lm{p:DIdent->Bool}{fi:FuncId}{fa fc:List G}(hv:DnV gl fi fa fc p){l:List DIdent}(hn:l.length<=1000000):iV prog gl 194 [aE aj l,.clo (.func fi) fa fc] 36 (l.filter p).length ((l.filter p).flatMap aj):=by
 refine OW func194 ?_;refine pN (λk:Nat=>(s0 23 gl [(1,.clo (.func fi) fa fc),(5,.rsl 0 0 ((l.take k).filter p).length),(8,aE aj l),(9,iG (ah l)),(10,iG (k:Int))] [(0,dm ((l.take k).filter p))] 1 0)) 1110122 (iw (n:=l.length) aa) [] [hc hv.im,hc (ac.imm [])] (λB k w hs k5 a=>?_) [36] [(0,0)] [(0,.row)];unfold qZ at hs;split at hs
 .rename_i hlt;obtain rfl:=cP hs;obtain⟨x,hx⟩:∃x,l[k]?=some x:=⟨_,fy hlt⟩;have hz:=cQ hx;have k5:=k5 _ rfl;have hl:((l.take k).filter p).length<=k:=Nat.le_trans (List.length_filter_le _ _) (by rw[List.length_take];omega);rw[List.take_add_one,hx,Option.toList_some,List.filter_append] at k5;generalize (l.take k).filter p=q at k5 hl⊢;have hcs:=hv.cs (c:=2) (x:=x) rfl (aY (aG 20 (.agg (aj x)) aH) bf);cases hp:p x with
  |true=>rw[hp] at hcs;rw[List.filter_cons_of_pos hp,List.filter_nil] at k5;exact jw [hr 11 (fp hx),bR 12 (ac.ixZ hz),bR 13 (ac.ptZ aW hz),Go.Proofs.YtaiecngnppbhlaaGreatDoor.hz 16 [] hcs,Tn 20 ac 24 q x aa,hbb 21 (Xl (q:=k) aa)] [hc hv.im,hc (el (q++[x])),hc (ac.imm (q++[x]))] k5 [] [(0,3)] [(0,.row)]
  |false=>rw[hp] at hcs;rw[List.filter_cons_of_neg (by simp[hp]),List.filter_nil,List.append_nil] at k5;exact jw [hr 11 (fp hx),bR 12 (ac.ixZ hz),bR 13 (ac.ptZ aW hz),Go.Proofs.YtaiecngnppbhlaaGreatDoor.hz 16 [] hcs,hbb 21 (Xl (q:=k) aa)] [hc hv.im,hc (el q),hc (ac.imm q)] k5 [] [(0,0)] [(0,.row)]
 .split at hs
  .rename_i he;subst he;rw[List.take_length];exact EI [hr 11 (gz (s:=l))] (ac.imm (l.filter p))
  .cases hs
section
variable {gg:DGraphGraph}
theorem O9{o:DOp}{l:List Int}{b:Bool}{ss:List (List Int)}(hc:ba prog gl 206 [iG o.Kind] (bG b))(hA:b=true->ba prog gl 7 [.ptr (av gg) 0,.agg (aJ o)] (aE cZ l))(a:b=true->ba prog gl 207 [aE cZ l,iG o.By] (aE Jc ss)):ba prog gl 120 [.ptr (av gg) 0,.agg (aJ o)] (aE Jc (bif b then ss else[])):=by
 refine Gh func120 ?_;cases b with
 |false=>exact Ar [hf 7 hc] []
 |true=>exact Ar [hf 7 hc,hf 11 (hA rfl),hf 14 (a rfl)] []
theorem Tk(h:GiOk gl gg I){x:DIdent}{ss:List (List Int)}(hS:ba prog gl 120 [.ptr (av gg) 0,.agg (aJ (I.o x))] (aE Jc ss)):ba prog gl 51 [.ptr (av gg) 0,.agg (aj x)] (aE Jc (bif(I.op x).isSome then ss else[])):=by
 have ho:=h.op x;refine Gh func51 ?_;generalize (I.op x).isSome=b at ho⊢;cases b with
 |false=>exact Ar [hf 10 ho] []
 |true=>exact Ar [hf 10 ho,hf 17 hS] []
def Tl(n:Nat)(o:DOp):Bool:=bif decide ((0:Int)<(n:Int)) then decide ((n:Int)=ah o.Path) else false
theorem Ye(h:GiOk gl gg I){ss:List (List Int)}(hS:ba prog gl 120 [.ptr (av gg) 0,.agg (aJ (I.o x))] (aE Jc ss)):ba prog gl 202 [.agg (aj x),.ptr [.ptr (av gg) 0] 0] (bG (Tl ss.length (I.o x))):=by
 have ho:=h.op x;refine Gh func202 ?_;unfold Tl;cases c:decide ((0:Int)<(ss.length:Int)) with
 |false=>exact Ar [hf 10 ho,hf 15 hS,hr 18 c] []
 |true=>exact Ar [hf 10 ho,hf 15 hS,hr 18 c] []
theorem M7(h:GiOk gl gg I){ss:DIdent->List (List Int)}(hS:∀x,ba prog gl 120 [.ptr (av gg) 0,.agg (aJ (I.o x))] (aE Jc (ss x)))(hO:ba prog gl 161 [.ptr (av gg) 0,aE aj ids] (aE aj row))(hn:row.length<=1000):ba prog gl 117 [.ptr (av gg) 0,aE aj ids] (aE aj (row.filter λx=>Tl (ss x).length (I.o x))):=by have hv:DnV gl 202 [] [.ptr [.ptr (av gg) 0] 0] (λx=>Tl (ss x).length (I.o x)):=⟨aH,bf,aY (aG 20 (.ptr [.ptr (av gg) 0] 0) aH) bf,λx r e=>by cases e;exact Ye h (hS x)⟩;have hF:=Lm hv (l:=row) aa;refine Gh func117 ?_;exact Ar [hf 7 hO,ho 9 [aE aj row,.clo (.func 202) [] [.ptr [.ptr (av gg) 0] 0]] [] hF (kF _)] [hc (ac.al (row.filter λx=>Tl (ss x).length (I.o x)))]
end
end
end
section
variable {P:Program} [M:Mix P] {st:St} {Q:Exit->St->Prop} {fn:Func} {Bs:List (St->Prop)} {p:List Nat}
theorem yV{ops:Array Oper}{K:St->Prop}{cx:Cx}{R:Exit->Act->World->Prop}(l2:List Oper)(c:∀st a w,K st->mh P cx st a w->wpListIn cx.F cx.nn P ops R l2 a w):∀(l:List Oper) (st:St) (a:Act) (w:World),D8 P ops K l st->mh P cx st a w->wpListIn cx.F cx.nn P ops R (l++l2) a w
 |[],st,a,w,h,r=>c st a w h r
 |o::rest,st,a,w,h,r=>by
  obtain⟨β,rb⟩:=r;rcases h with⟨hg,d,hs,hr⟩|⟨hg,hd,hr⟩
  .refine wpListIn_step λK' b=>?_;rw[if_pos (cT rb hg)];exact hs cx a w K' R ⟨β,rb⟩ λa' w' r'=>b _ _ (yV l2 c rest d a' w' hr r')
  .refine wpListIn_step λK' b=>?_;rw[if_neg (by rw[cT rb hg];simp)];exact⟨λf _=>rb.loose.fn f,b _ _ (yV l2 c rest _ _ w hr ⟨β,rb.put o.dst hd (.imm _ _ (.lit _))⟩)⟩
def cuR(P:Program)(hs a:List Hn)(c:Code)(k:Nat)(J b st:St):Option (Prop×List Nat×List Prop×St×Prop×List Nat×List Prop×St):=match c with
 | .region _ ops false=>match qd P ops hs (ops.toList.take k) st with
  |some (C,u,s1)=>match Iw P [] [] [] J s1 with
   |some (L,s2)=>match qd P ops a (ops.toList.drop k) s2 with
    |some (d,e,s3)=>match Iw P [] [] [] b s3 with
     |some (f,g)=>some (C,u,L,s2,d,e,f,g)
     |none=>none
    |none=>none
   |none=>none
  |none=>none
 |_=>none
def ku1(x:Option (Prop×List Nat×List Prop×St×Prop×List Nat×List Prop×St)):List Nat:=match x with|some (_,u,_)=>u|none=>[0]
def ku2(x:Option (Prop×List Nat×List Prop×St×Prop×List Nat×List Prop×St)):List Nat:=match x with|some (_,_,_,_,_,u,_)=>u|none=>[0]
theorem dCu(k:Nat)(J b:St)(A c O f:List HP)(kk:Gp P fn Q Bs true p b)(h1:qe A (ku1 (cuR P (bK A) (bK c) (bq p (ai fn)) k J b st))=true:=by kernel_rfl)(h2:qe c (ku2 (cuR P (bK A) (bK c) (bq p (ai fn)) k J b st))=true:=by kernel_rfl)(e:cuR P (bK A) (bK c) (bq p (ai fn)) k J b st=some (XQ A (ku1 (cuR P (bK A) (bK c) (bq p (ai fn)) k J b st)),ku1 (cuR P (bK A) (bK c) (bq p (ai fn)) k J b st),pR O,J,XQ c (ku2 (cuR P (bK A) (bK c) (bq p (ai fn)) k J b st)),ku2 (cuR P (bK A) (bK c) (bq p (ai fn)) k J b st),pR f,b):=by kernel_rfl):Gp P fn Q Bs false p st:=by
 have c1:=kA h1;have c2:=kA h2;generalize ku1 _=u1 at c1 e;generalize ku2 _=i at c2 e;generalize XQ A u1=o at c1 e;generalize XQ c i=t at c2 e;show Tr P (bq p (ai fn)) st (dz P (bE p (ai fn) Bs []) Q);unfold cuR at e;split at e;rotate_left
 .cases e
 rename_i id ops hc;split at e;rotate_left
 .cases e
 rename_i s1 j;split at e;rotate_left
 .cases e
 rename_i s2 d;split at e;rotate_left
 .cases e
 rename_i s3 l;split at e;rotate_left
 .cases e
 rename_i u r4;cases e;rw[hc];have q1:=Mz j c1;have m:=Mz l c2;have l1:=sR d (wR O);have l2:=sR r4 (wR f);have ho:ops=(ops.toList.take k++ops.toList.drop k).toArray:=aC;generalize ops.toList.take k=x at*;generalize ops.toList.drop k=y at*;subst ho;exact λcx a w R r n=>wpIn_region_lit (yV y (λs a' w' hs r'=>xK (λst' a2 g q d=>n .normal b a2 g kk (l2 cx a2 g (by rw[<-q];exact d))) y _ a' w' m (l1 cx a' w' (by rw[<-hs];exact r'))) x st a w q1 r)
end
attribute [local irreducible] Tr dz Gp
def nzs:Nat->G->G->G
 |0,g,_=>g
 |n+1,g,t=>match g,t with
  | .lit (.slice none 0 0),.sl _ _=> .sl [] 0
  | .sl l m,.sl l' _=>bif Nat.beq l.length l'.length then .sl (OX (nzs n) l l') m else g
  | .agg l,.agg l'=>bif Nat.beq l.length l'.length then .agg (OX (nzs n) l l') else g
  |_,_=>g
theorem Nf{S:Nat->Prop}{w:World}:∀(n:Nat) (g t:G) (v:Value),IV S w g v->IV S w (nzs n g t) v
 |0,g,t,v,h=>h
 |n+1,g,t,v,h=>by
  unfold nzs;split
  .cases h;exact .sl [] 0 none 0 (λ_=>undef) (Nat.le_refl _) (Nat.zero_le _) aC aC aC
  .rename_i l m d _;cases hb:Nat.beq l.length d.length with
   |false=>exact h
   |true=>
    have hl:=bc hb;cases h with
    |sl _ _ a cap us hn hm ha h1 hr=>refine .sl _ _ a cap us hn hm (by grind [AQ]) (by grind [AQ]) λi e hg=>?_;obtain⟨g,c,b,rfl⟩:=sS _ _ hl i e hg;exact Nf n g c _ (hr i g b)
  .rename_i l d;cases hb:Nat.beq l.length d.length with
   |false=>exact h
   |true=>
    have hl:=bc hb;cases h with
    |agg _ us h2 h1 hr=>refine .agg _ us (by grind [AQ]) h1 λi e u hg hu=>?_;obtain⟨g,c,b,rfl⟩:=sS _ _ hl i e hg;exact Nf n g c u (by grind)
  .exact h
theorem acd{gl:List (Nat×List G)}{f:FuncId}{r:G}{ts:List G}(gs:List G)(h:ba P gl f ts r)(hl:gs.length=ts.length:=by rfl)(e:OX (nzs 20) gs ts=ts:=by kernel_rfl):ba P gl f gs r:=λw S vs hS hG hsz a=>by refine h w S vs hS hG aa λi g u hg hu=>?_;grind [sS,Nf]
theorem Tz:ba prog fI 81 [aE cZ [1]] (aE cZ [1]):=rZ.fo (uK fI (s:=[1]) (r:=[1]) aH)
theorem ad1:ba prog fI 330 [aE cZ [1]] (.tup [Iy,Iy]):=by refine Gh func330 ?_;exact Ar [] []
theorem ad2:ba prog fI 264 [aE cZ [1],iG 1] (.tup [aE Jc [[1]],Iy]):=by refine Gh func264 ?_;refine pN (λ_:Unit=>(s0 42 fI [(0,aE cZ [1]),(1,iG 1),(4,Iy),(5,Iy)] [] 0 0)) 11122 Lg [hf 10 (fG fI (s:=[1]) (v:=1) (r:=true) aH)] [] (λB u v hs k5 a=>?_);exact Ar [hf 14 Tz,hf 19 ad1,ha 16 [aE cZ [1]] 1 (p:=True/\1<=1/\24<=140737488355328/\[aE cZ [1]]=[aE cZ [1]]/\1=1) ⟨trivial,dL,dL,rfl,rfl⟩] [hc (nH.al [[1]])]
theorem af5:OU prog fI 332 [.rsl 0 0 1] [ob 0 22 ([aE cZ [1]])] 1 1 (.tup []) [ob 0 22 ([aE cZ [1]])]:=by refine ZU func332 ?_ (λi hi=>by match i,hi with|0,_=>exact⟨_,rfl⟩);refine pN (λ_:Unit=>(s0 28 fI [(0,.rsl 0 0 1),(2,iG 0),(3,iG 0)] [ob 0 22 ([aE cZ [1]])] 1 1)) 1122 Lg [] [hc (el [()]),hc (eB (gs:=[aE cZ [1]]) aH)] (λB u v hs k5 a=>?_);exact ZT [] [hc (eB (gs:=[aE cZ [1]]) aH)] [(0,0)] [(0,.row)]
theorem af6:iV prog fI 331 [aE Jc [[1]]] 22 1 [aE cZ [1]]:=by refine OW func331 ?_;exact EI [ha 7 [aE cZ [1]] 1 (p:=0=0/\1=1/\24<=140737488355328/\[aE cZ [1]]=[aE cZ [1]]/\1=1) ⟨rfl,rfl,dL,rfl,rfl⟩] (eB (gs:=[aE cZ [1]]) aH)
theorem ad3:ba prog fI 265 [aE Jc [[1]]] (aE Jc [[1]]):=by refine Gh func265 ?_;exact Ar [hz 5 [] (DE (c:=0) aH af6 (eB aH) (nH.imm [[1]])),hz 7 [0] (wS (i:=0) (c:=1) aH af5 (aG 20 _ aH) (nH.imm [[1]]) dL (by rfl) (w5 wZ))] [hc (nH.al [[1]])]
theorem ad4:ba prog fI 207 [aE cZ [1],iG 1] (aE Jc [[1]]):=by refine Gh func207 ?_;exact Ar [hf 10 ad2,hf 14 ad3] []
theorem af7(d:Int):ba prog fI 195 [.agg (aj x),.ptr [aE cZ [d]] 0] (bG (decide (x.By=d))):=by refine Gh func195 ?_;have:=fG fI (Hh (s:=[d]) aC x.By);simp only[List.any_cons,List.any_nil,Bool.or_false] at this;exact Ar [hf 7 this] []
theorem abk{x:DIdent}(d:Int):iV prog fI 194 [aE aj [x],.clo (.func 195) [] [.ptr [aE cZ [d]] 0]] 36 ([x].filter λx=>decide (x.By=d)).length (([x].filter λx=>decide (x.By=d)).flatMap aj):=Lm ⟨aH,bf,aY (aG 20 (.ptr [aE cZ [d]] 0) aH) bf,λx r e=>by cases e;exact af7 d⟩ aC
def TB(d:Int)(p:Nat)(i:DIdent)(n:Int):List G:=[aE cZ [d],uG p,iG i.By,iG i.Seq,uG i.Sum,iG n]
section
variable {gg:DGraphGraph} {I:Gi} (h:GiOk fI gg I) {x:DIdent} (hx:x.By=1)
include h hx
theorem af8{c:DCard}(hc:I.card 2=some c):ba prog fI 116 [.ptr (av gg) 0,aE aj [x],aE cZ [2]] (.tup [.agg (TB 2 c.Lead ⟨0,0,0⟩ 0),bG true]):=by refine Gh func116 ?_;have h1:=abk (x:=x) 2;have h2:=h.card 2;rw[List.filter_cons_of_neg (by simp[hx])] at h1;rw[hc] at h2;exact Ar [ho 17 [aE aj [x],.clo (.func 195) [] [.ptr [aE cZ [2]] 0]] [] h1 (kF _),hf 40 h2,hf 44 (rZ.fo (uK fI (s:=[2]) (r:=[2]) aH))] []
theorem af9(ho:I.op x=some o)(hp:aS o.Path 0=some ⟨77,[]⟩):ba prog fI 116 [.ptr (av gg) 0,aE aj [x],aE cZ [1]] (.tup [.agg (TB 1 77 x 0),bG true]):=by refine Gh func116 ?_;have h1:=abk (x:=x) 1;have h2:=h.op x;rw[List.filter_cons_of_pos (by simp[hx])] at h1;rw[show I.o x=o by unfold Gi.o;rw[ho];rfl,ho] at h2;exact Ar [Go.Proofs.YtaiecngnppbhlaaGreatDoor.ho 17 [aE aj [x],.clo (.func 195) [] [.ptr [aE cZ [1]] 0]] [] h1 (kF _),hf 73 h2,hf 77 Tz,bR 81 (bZ.ixZ hp),bR 83 (bZ.fdZ tW 0 hp)] []
end
def lb:List DCard:=(ql [1,2]).getD []
theorem QI:ql [1,2]=some lb:=aH
theorem Hb:lb.all KK=true:=aH
theorem yW:lb.length=2:=aH
theorem Ng:xf lb:=OM aH
theorem aga:lb.map (·.Device)=[1,2]:=aH
attribute [irreducible] lb
theorem wf0{cs:List DCard}(hl:cs.length<=1000)(hc:cs.all KK=true):WfG ⟨cs,[],[],[],[]⟩ where
 nL:=aC
 nI:=rfl
 nU:=rfl
 nN:=rfl
 nC:=hl
 cards:=λc h=>by have h:=List.all_eq_true.1 hc c h;unfold KK at h;have:=of_decide_eq_true h;unfold c8 fS;omega
 up:=λi u h=>by simp at h
 rows:=λi r h=>by simp at h
 inlt:=λi k h=>by simp[yH] at h
 ops:=λi o h=>by simp at h
 ids:=λi o id h=>by simp at h
 nd:=aC
 one:=λi k u h=>by simp at h
 tr:=λi j k u h=>by simp[yH] at h
 la:=λi k h=>by simp[yH] at h
def oL:DOp:=⟨1,1,1,0,[],0,0,0,0,[⟨77,[]⟩],⟨0,0,0⟩,0,[],[],⟨0,0,0⟩,[],0,0,[],0,[],⟨0,0⟩⟩
theorem abl:SmOp oL:=by
 constructor<;>simp[oL,c8,fS]
 .exact⟨by unfold fS;decide,aC,aC⟩
 all_goals exact⟨by unfold c8;decide,by unfold c8;decide,by unfold fS;decide⟩
def oX:DOp:=(nR oL).getD oL
theorem abm:nR oL=some oX:=aH
def rL:D12G×Int:=(AO ⟨lb,[],[],[],[]⟩ oX).getD (⟨[],[],[],[],[]⟩,1)
theorem abn:AO ⟨lb,[],[],[],[]⟩ oX=some rL:=aH
theorem ad5:rL.2=0:=aH
theorem ad6:qo rL.1 oX=some [1]:=aH
attribute [irreducible] rL oX
theorem ad7:ba prog fI 206 [iG 1] (bG true):=by refine Gh func206 ?_;exact Ar [] []
theorem ad8:ba prog fI 206 [iG 0] (bG false):=by refine Gh func206 ?_;exact Ar [] []
theorem Yi:∃(c:Nat->FM DIdent Int) (N:List DGraphNode) (x:DIdent),rL.1.L=[oX]/\rL.1.IDs=[x]/\rL.1.Cards=lb/\pV oX=some x/\OfRun rL.1 c N/\Pg rL.1 (c 1) N:=by
 obtain⟨v,e,s,rfl,h1,h2⟩:=Io abl;have e:=cP (abm.symm.trans e);have so:SmOp oX:=e▸abl.sig s;have hs:fS oX.Sig.S:=by rw[e];exact h2
 have w0:=wf0 (cs:=lb) (by rw[yW];decide) Hb;obtain⟨v,ev,w,ha⟩:=QG w0 so hs;obtain rfl:=cP (abn.symm.trans ev);rcases ha with⟨h,_⟩|⟨x,up,row,_,a,hid,hrow,hg⟩
 .exact absurd ad5 h
 have gr:Grown ⟨lb,[],[],[],[]⟩ rL.1:=hg▸ .step .base w0 so (by rw[e];exact h1) hs a hid hrow;obtain⟨c,N,b,_,h3,h4⟩:=OL gr rfl rfl Ng;have hL:rL.1.L=[oX]:=by rw[hg];rfl
 rw[hL] at h4;exact⟨c,N,x,hL,by rw[hg];rfl,b,hid,h3,TF w h4 gr rfl (by rw[b,yW];decide) (b▸Hb) (by rw[b,aga];decide)⟩
abbrev oR1:aQ:=[ob 0 3 [iG 1],ob 1 22 [.rsl 0 0 1]]
theorem TC:jg prog fI 52 [aE Jc [[1]],.rsl 1 0 1] oR1 2 (bG true) oR1 2:=by
 refine pP func52 ?_;refine pN (λk:Nat=>(s0 27 fI [(0,aE Jc [[1]]),(1,.rsl 1 0 1),(5,iG (k:Int))] oR1 2 2)) 1110122 (iw (n:=1) dL) [] [hc (rfl:1=1),hc (rfl:1=1)] (λB k w hs k5 a=>?_) [] [(0,0),(1,1)] [(9,.row)];unfold qZ at hs;split at hs
 .rename_i hlt;obtain rfl:k=0:=aa;obtain rfl:=cP hs;exact jw [hq 25 [aE cZ [1],aE cZ [1]] [hc (rZ.al [1])] (HR (gl:=fI) (l:=[1]) dL)] [hc (rfl:1=1),hc (rfl:1=1)] (k5 _ rfl) [] [(0,0),(1,1)] [(9,.row)]
 .split at hs
  .rename_i he;subst he;exact mt .ret (s0 27 fI [(4,bG true)] oR1 2 2) [bG true] [] [hc (rfl:1=1)] (ρ:=[(0,0),(1,1)]) (kd:=[(9,.row)])
  .cases hs
theorem TD{gg:DGraphGraph}{d:Int}{p:Nat}{i:DIdent}(a:ba prog fI 117 [.ptr (av gg) 0,aE aj ids] (aE aj row))(b:ba prog fI 116 [.ptr (av gg) 0,aE aj row,aE cZ [d]] (.tup [.agg (TB d p i n),bG true])):ba prog fI 49 [.ptr (av gg) 0,aE aj ids,aE cZ [d]] (.tup [.agg (TB d p i n),bG true]):=by refine Gh func49 ?_;exact Ar [hf 14 a,hf 16 b] []
abbrev frL(x:DIdent)(g:G)(r:Fr):St:=(s0 97 fI ([(1,.ptr (aI rL.1) 0),(2,.ptr (aJ oX) 0),(4,g),(5,.ptr (aj x) 0)]++r) [] 0 0)
abbrev oG2:aQ:=[ob 0 30 (aI ⟨lb,[],[],[],[]⟩)]
theorem O8:ba prog fI 9 [] (bG true):=by
 obtain⟨a,N,x,hL,f,k,hid,hR,P⟩:=Yi;have w:=P.w;have hof:=ZC hR;have hnl:=P.p.len;rw[hL] at hof hnl;have hnl:N.length=1:=hnl;obtain⟨y,rfl⟩:∃y,N=[y]:=List.length_eq_one_iff.1 hnl;have hy:=(P.p.nd 0 y rfl).2.1;rw[f] at hy;obtain rfl:x=y.id:=cP hy;have hG:=abh w P.p;have hI:=abg hG;have so:=(w.ops 0 oX (by rw[hL];rfl)).1;have hb:=A9 so hid;have hk:oX.Kind=1:=aH;have hBy:oX.By=1:=aH;obtain⟨l,a1,a2,_⟩:=HU P (by rw[hL];decide) so λh=>by rw[hk] at h;cases h
 rw[ad6] at a2;obtain rfl:=cP a2;have hO:ba prog fI 161 [.ptr (av ⟨rL.1.Cards,a 1,[y]⟩) 0,aE aj [y.id]] (aE aj [y.id]):=by obtain⟨r,e,g,_⟩:=zF (Ha (q8 ⟨rL.1.Cards,a 1,[y]⟩)) (l:=[y.id]) aC aC;obtain rfl:=List.perm_singleton.1 g;exact Fl hG aC e rfl
 have hA:ba prog fI 50 [.ptr (av ⟨rL.1.Cards,a 1,[y]⟩) 0] (aE aj [y.id]):=by obtain⟨r,e,g,_⟩:=zF wy (l:=[y.id]) aC aC;obtain rfl:=List.perm_singleton.1 g;exact XU (gg:=⟨rL.1.Cards,a 1,[y]⟩) aC e rfl
 have hAf:ba prog fI 7 [.ptr (av ⟨rL.1.Cards,a 1,[y]⟩) 0,.agg (aJ oX)] (aE cZ [1]):=by have:=a1.fn rZ.sz (rZ.len _) (rZ.imm _);unfold Z8 at this;rw[<-RJ] at this;exact this
 obtain⟨n,j⟩:=P.op (i:=0) (o:=oX) (x:=y.id) (by rw[hL];rfl) (by rw[f];rfl);have hS1:ba prog fI 120 [.ptr (av ⟨rL.1.Cards,a 1,[y]⟩) 0,.agg (aJ oX)] (aE Jc [[1]]):=O9 (b:=true) (l:=[1]) (ss:=[[1]]) (by rw[hk];exact ad7) (λ_=>hAf) (λ_=>by rw[hBy];exact ad4);have hS:∀z,ba prog fI 120 [.ptr (av ⟨rL.1.Cards,a 1,[y]⟩) 0,.agg (aJ ((q8 ⟨rL.1.Cards,a 1,[y]⟩).o z))] (aE Jc (if z=y.id then[[1]] else[])):=λz=>by
  by_cases c:z=y.id
  .rw[if_pos c,c,show(q8 ⟨rL.1.Cards,a 1,[y]⟩).o y.id=oX from j];exact hS1
  .have e:(q8 ⟨rL.1.Cards,a 1,[y]⟩).o z=ip:=by
    unfold Gi.o;rw[abu w P.p,f];have:bu z [y.id]=none:=by simp[bu,c]
    rw[this];rfl
   rw[if_neg c,e];exact O9 (b:=false) (l:=[]) (ss:=[]) ad8 (λh=>by cases h) λh=>by cases h
 have d:=M7 hI hS hO aC;rw[List.filter_cons_of_pos (by rw[if_pos rfl,show(q8 ⟨rL.1.Cards,a 1,[y]⟩).o y.id=oX from j];kernel_rfl),List.filter_nil] at d;have h1:=TD d (af9 hI (x:=y.id) (hb.1.trans hBy) n aH);obtain⟨c,c2⟩:∃c,lb[1]?=some c:=⟨_,fy (by rw[yW];decide)⟩;have h2:=TD d (af8 hI (x:=y.id) (hb.1.trans hBy) (c:=c) (by show rL.1.Cards.find? _=_;rw[k];exact(show lb.find? (λc=>decide (c.Device=2))=lb[1]? by kernel_rfl).trans c2));have h3:=Tk hI (x:=y.id) (ss:=[[1]]) (by rw[show(q8 ⟨rL.1.Cards,a 1,[y]⟩).o y.id=oX from j];exact hS1);rw[show(q8 ⟨rL.1.Cards,a 1,[y]⟩).op y.id=some oX from n] at h3;change jg _ _ _ _ _ _ _ [(0,oG rL.1.Cards 1 2),(1,oM (a 1)),(2,zQ [y])] 3 at hof;simp only[av,RJ] at hA hAf h1 h2 h3;have c3:aS rL.1.Cards 1=some c:=by rw[k];exact c2
 generalize a 1=m at*;refine Gh func9 ?_;refine pO [1,0] (s0 97 fI [] [] 0 0) [] [] ?_;refine dCu 1 (s0 97 fI [(11,aE cZ [1,2])] [] 0 0) (s0 97 fI [(1,.ref 0 0)] oG2 1 0) [] [hf 12 (bT.fo (GQ fI QI)),hf 13 (M8 fI (cards:=lb) rfl)] [hc (rZ.al [1,2])] [] ?_;refine pO 1110 (s0 97 fI [(1,.ref 0 0)] oG2 1 0) [] [] ?_;refine dCu 2 (s0 97 fI [(1,.ref 0 0),(15,.sl [uG 77,Iy] 1)] oG2 1 0) (s0 97 fI [(1,.ref 0 0),(2,.ptr (aJ oX) 0)] oG2 1 0) [] [hf 17 (acd [.agg ((bF [4,14,15,19,22,24] (aJ oL)).set 9 (.sl [uG 77,Iy] 1))] (E8 fI abm))] [hc (p:=[uG 77,Iy].length=1*2/\(∀x∈[uG 77,Iy],bB x)/\1=1) ⟨rfl,eB aH,rfl⟩] [hc (eB (gs:=aJ oX) aH)] ?_;refine pO 11111100 (s0 97 fI [(1,.ptr (aI rL.1) 0),(2,.ptr (aJ oX) 0),(3,iG rL.2),(4,Z8 rL.1.Cards m [y])] [] 0 0) [hf 21 (M9 fI abn),tN 25 [] 1 [] [.agg (aI rL.1)] [ob 0 194 [aE bv rL.1.Cards,.mref 2,.rsl 3 0 1],(1,oM m),(2,zQ [y])] hof trivial ⟨⟨rfl,.inl rfl⟩,⟨rfl,rfl,rfl,rfl,.inr ⟨rfl,cf _⟩⟩,⟨rfl,.inr ⟨rfl,az.imm _⟩⟩,trivial⟩] [hc (eB (gs:=aI rL.1) aH),hc (cf m),hc (az.al [y]),hc (eB (gs:=[aE bv rL.1.Cards,gMp m,aE d7 [y]]) aH)] ?_;refine pO 111111110 (frL y.id (Z8 rL.1.Cards m [y]) []) [hr 30 (show decide (rL.2≠0)=false by rw[ad5];rfl),hf 33 (AI fI hid)] [hc (eB (gs:=aj y.id) aH)] ?_;refine dCu 4 (frL y.id (Z8 rL.1.Cards m [y]) [(35,Z8 rL.1.Cards m [y]),(37,aE aj [y.id]),(38,aE cZ [1])]) (frL y.id (Z8 rL.1.Cards m [y]) [(6,.ptr (TB 1 77 y.id 0) 0),(7,bG true)]) [hf 37 hA] [hf 39 h1] [hc (rZ.al [1])] [hc (eB (gs:=TB 1 77 y.id 0) aH)] ?_;refine pO 1111111110 (frL y.id (Z8 rL.1.Cards m [y]) [(6,.ptr (TB 1 77 y.id 0) 0),(7,bG true)]) [] [] ?_;refine dCu 4 (frL y.id (Z8 rL.1.Cards m [y]) [(6,.ptr (TB 1 77 y.id 0) 0),(7,bG true),(43,Z8 rL.1.Cards m [y]),(45,aE aj [y.id]),(46,aE cZ [2])]) (frL y.id (Z8 rL.1.Cards m [y]) [(6,.ptr (TB 1 77 y.id 0) 0),(7,bG true),(8,.ptr (TB 2 c.Lead ⟨0,0,0⟩ 0) 0),(9,bG true)]) [hf 45 hA] [hf 47 h2] [hc (rZ.al [2])] [hc (eB (gs:=TB 2 c.Lead ⟨0,0,0⟩ 0) aH)] ?_;exact Ar [hf 52 h3,hV 66 (dU (r:=true) y.id y.id aC),bR 73 (bT.ixZ c3),bR 75 (bT.fdZ tW 2 c3),hr 76 (show decide ((c.Lead:Int)=(c.Lead:Int))=true by simp),hV 82 (dU (r:=true) ⟨0,0,0⟩ ⟨0,0,0⟩ aC),hmc 88 [0,1] 3 oR1 [aE Jc [[1]],.rsl 1 0 1] [(0,⟨3,[iG 1],none⟩),(1,⟨22,[.rsl 0 0 1],none⟩)] TC ⟨⟨rfl,.inl rfl⟩,⟨rfl,.inl rfl⟩,trivial⟩ ⟨⟨rfl,.inl rfl⟩,⟨rfl,.inl rfl⟩,trivial⟩,hf 93 hAf,hq 95 [aE cZ [1],aE cZ [1]] [hc (rZ.al [1])] (HR (gl:=fI) (l:=[1]) dL)] []
abbrev Cd:List (String×DataW Unit):=[("huddle/roll.asks",Rows.laid_huddle_roll_asks),("huddle/op.kinds",Rows.laid_huddle_op_kinds)]
theorem Y8:Tryz.prog.globalNamed "huddle/roll.asks" =some 0:=aH
theorem WB:Tryz.prog.globalNamed "huddle/op.kinds" =some 1:=aH
theorem Y9:(Tryz.prog.globals[0]?).map (·.type)=some 138:=aH
theorem WC:(Tryz.prog.globals[1]?).map (·.type)=some 277:=aH
theorem PR{l:List α}{i:Nat}{v:α}(h:l[i]?=some v):(l.drop (i*1)).take 1=[v]:=by rw[Nat.mul_one];obtain⟨hi,rfl⟩:=cr h;rw[List.drop_eq_getElem_cons hi];rfl
theorem IL{sp:Nat->Bool}{fuel:Nat}{ps rs:Array TypeId}{va:Bool}{q:List MemPlace}(ht:P.underlying t=some (.func ps rs va))
  (h:DataW.trod (funcToken P) P w base sp true fuel t [v]=some (.nil,q)):v= .nilFunc:=by
 cases fuel with
 |zero=>simp[DataW.trod] at h
 |succ n=>cases v<;>simp[DataW.trod,ht] at h;rfl
theorem zo{H:Type}{enc:TypeId×Value->H}{sp:Nat->Bool}{a:Bool}{fuel n:Nat}{e:TypeId}{cs:Array Value}{ds:List (DataW H)}{p:List MemPlace}{nm:String}{g:Nat}(ht:P.underlying t=some (.array n e))(hc:P.cellsOf e=1)(hn:P.cellsOf t=n)
  (hg:P.globalNamed nm=some g) (hv:w.var? P nm=some cs) (h:DataW.trod enc P w base sp a fuel t cs.toList=some (.agg ds,p)):∀i,i<n->∃v d m q,w.cell? ⟨g,i,none⟩=some v/\ds[i]?=some d/\DataW.trod enc P w base sp a m e [v]=some (d,q):=by
 obtain⟨xs,m,_,hx,hl,hlen,b⟩:=DataW.trod_array ht h
 simp only[Prod.mk.injEq,DataW.agg.injEq] at hx
 intro i hi
 have hsz:cs.size=n:=by rw[<-hn,<-hl];simp
 have hcell:=World.var?_cell hg hv i
 have hci:cs[i]?=some (cs[i]'aa):=Array.getElem?_eq_getElem aa
 have hli:cs.toList[i]?=some (cs[i]'aa):=by rw[Array.getElem?_toList];exact hci
 have:=b i hi
 rw[hc,PR hli] at this
 have hxi:xs[i]?=some (xs[i]'aa):=fy aa
 rw[hxi] at this
 refine⟨_,(xs[i]'aa).1,m,(xs[i]'aa).2,hcell.trans hci,?_,this⟩
 rw[hx.1,List.getElem?_map,hxi]
 rfl
theorem ML{g i:Nat}(h:W.cell? ⟨g,i,none⟩=some v):g<W.heap.size:=by
 rcases Nat.lt_or_ge g W.heap.size with h'|h'
 .exact h'
 .unfold World.cell? at h;simp[Array.getElem?_eq_none h'] at h
def IM:G->Value
 | .lit v=>v
 | .clo fn _ _=> .func fn #[] #[]
 |_=> .nilFunc
theorem WD{S:Nat->Prop}{g:G}(h:(∃v,g= .lit v)\/∃n,g= .clo (.func n) [] []):IV S W g (IM g):=by
 rcases h with⟨v,rfl⟩|⟨n,rfl⟩
 .exact .lit v
 .exact .clo _ [] [] #[] #[] rfl rfl aC aC
theorem MM{g:Nat}{l:List G}(h0:g<W.heap.size)(hc:∀i x,l[i]?=some x->W.cell? ⟨g,i,none⟩=some (IM x))(hg:∀x∈l,((∃k z,x= .lit (.int k z))\/x= .lit .nilFunc)\/∃n,x= .clo (.func n) [] []):IV (λ_=>False) W (.ptr l 0) (.pointer (some ⟨g,0,none⟩)):=by
 have e:(⟨g,0,none⟩:Addr)=⟨g,0+0,none⟩:=rfl;refine .ptr l 0 g 0 (λi=>IM (l.getD i .junk)) (λh=>h) h0 (λi hi=>?_) (λi hi=>?_) (λi x hx=>?_)
 .rw[Nat.zero_add];refine hc i _ ?_;rw[List.getD_eq_getElem?_getD,fy hi];rfl
 .have hx:l[i]?=some (l[i]'hi):=fy hi;rw[List.getD_eq_getElem?_getD,hx];rcases hg _ (bO hx) with(⟨k,z,h⟩|h)|⟨n,h⟩<;>(simp only[Option.getD_some];rw[h];rfl)
 .rw[List.getD_eq_getElem?_getD,hx];simp only[Option.getD_some];refine WD ?_;rcases hg _ (bO hx) with(⟨k,z,h⟩|h)|⟨n,h⟩
  .exact .inl ⟨_,h⟩
  .exact .inl ⟨_,h⟩
  .exact .inr ⟨n,h⟩
theorem Ov(h:laidMetH Tryz.prog Cd W):IV (λ_=>False) W (.ptr (nG.flatMap cZ) 0) (.pointer (some ⟨1,0,none⟩)):=by
 have hm:laidMet Tryz.prog [("huddle/op.kinds",Rows.laid_huddle_op_kinds)] W:=h.1;obtain⟨ps,⟨g1,e,c,f1,f,q1,a,b,hv1,hd1,_,_⟩,_,_⟩:=hm;obtain rfl:=cP (WB.symm.trans a);obtain rfl:=cP (WC.symm.trans b);have hcells:=zo (n:=14) Tryz.underlying277 aH aH a hv1 hd1;have key:∀i x,(nG.flatMap cZ)[i]?=some x->W.cell? ⟨1,i,none⟩=some (IM x):=by
  intro i x hx;have hi:i<14:=(cr hx).1;obtain⟨v,d,m,q,hc,hd,hr⟩:=hcells i hi;obtain⟨k,e1,e2,_⟩:=DataW.trod_int Tryz.underlying3 hr;simp only[Prod.mk.injEq] at e2;rw[hc];simp only[List.cons.injEq,and_true] at e1;rw[e1];rw[e2.1] at hd;match i,hi with
  |0,_|1,_|2,_|3,_|4,_|5,_|6,_|7,_|8,_|9,_|10,_|11,_|12,_|13,_=>cases hd;cases hx;rfl
 refine MM (ML (key 0 _ rfl)) key λx hx=> .inl (.inl ?_);obtain⟨z,_,hz⟩:=List.mem_flatMap.1 hx;cases List.mem_singleton.1 hz;exact⟨_,_,rfl⟩
noncomputable abbrev XR(l:List UInt8):List Nat:=(List.range Tryz.prog.funcs.size).filter λf=>(Tryz.prog.funcs[f]?).any (·.name.toUTF8.data.toList==l)
theorem aaJ:XR [104,117,100,100,108,101,47,114,111,108,108,46,97,115,107,115,36,49]=[386]:=aH
theorem aaK:XR [104,117,100,100,108,101,47,114,111,108,108,46,97,115,107,115,36,50]=[388]:=aH
theorem aaL:XR [104,117,100,100,108,101,47,114,111,108,108,46,97,115,107,115,36,51]=[389]:=aH
theorem aaM:XR [104,117,100,100,108,101,47,114,111,108,108,46,97,115,107,115,36,52]=[390]:=aH
theorem aaN:XR [104,117,100,100,108,101,47,114,111,108,108,46,97,115,107,115,36,53]=[391]:=aH
theorem aaO:XR [104,117,100,100,108,101,47,114,111,108,108,46,97,115,107,115,36,54]=[392]:=aH
theorem aaP:XR [40,42,104,117,100,100,108,101,47,114,111,108,108,46,82,111,108,108,41,46,111,119,110]=[394]:=aH
theorem aaQ:XR [104,117,100,100,108,101,47,114,111,108,108,46,97,115,107,115,36,55]=[395]:=aH
theorem aaR:XR [104,117,100,100,108,101,47,114,111,108,108,46,97,115,107,115,36,56]=[396]:=aH
theorem Rc(h:laidMetH Tryz.prog Cd W):IV (λ_=>False) W (.ptr IU 0) (.pointer (some ⟨0,0,none⟩)):=by
 obtain⟨g,t,cs,fuel,p,hg,ht,hv,a⟩:=h.funcs (List.mem_cons_self ..);obtain rfl:=cP (Y8.symm.trans hg);obtain rfl:=cP (Y9.symm.trans ht);have hd1:DataW.trod (funcToken Tryz.prog) Tryz.prog W 0 (λ_=>true) true fuel 138 cs.toList=some (.agg [.nil,.nil,.held [104,117,100,100,108,101,47,114,111,108,108,46,97,115,107,115,36,49],.held [104,117,100,100,108,101,47,114,111,108,108,46,97,115,107,115,36,50],.nil,.held [104,117,100,100,108,101,47,114,111,108,108,46,97,115,107,115,36,51],.held [104,117,100,100,108,101,47,114,111,108,108,46,97,115,107,115,36,52],.nil,.held [104,117,100,100,108,101,47,114,111,108,108,46,97,115,107,115,36,53],.held [104,117,100,100,108,101,47,114,111,108,108,46,97,115,107,115,36,54],.held [40,42,104,117,100,100,108,101,47,114,111,108,108,46,82,111,108,108,41,46,111,119,110],.held [104,117,100,100,108,101,47,114,111,108,108,46,97,115,107,115,36,55],.held [40,42,104,117,100,100,108,101,47,114,111,108,108,46,82,111,108,108,41,46,111,119,110],.held [104,117,100,100,108,101,47,114,111,108,108,46,97,115,107,115,36,56]],p):=a;have hcells:=zo (n:=14) Tryz.underlying138 aH aH hg hv hd1;have key:∀i x,IU[i]?=some x->W.cell? ⟨0,i,none⟩=some (IM x):=by
  intro i x hx;have hi:i<14:=(cr hx).1;obtain⟨v,d,m,q,hc,hd,hr⟩:=hcells i hi;match i,hi with
  |0,_|1,_|2,_|3,_|4,_|5,_|6,_|7,_|8,_|9,_|10,_|11,_|12,_|13,_=>
   cases hd;cases hx;rw[hc];first
    |(rw[IL Tryz.underlying137 hr];rfl)
    |(rw[func_of_trod (f0:=386) Tryz.underlying137 aaJ hr];rfl)
    |(rw[func_of_trod (f0:=388) Tryz.underlying137 aaK hr];rfl)
    |(rw[func_of_trod (f0:=389) Tryz.underlying137 aaL hr];rfl)
    |(rw[func_of_trod (f0:=390) Tryz.underlying137 aaM hr];rfl)
    |(rw[func_of_trod (f0:=391) Tryz.underlying137 aaN hr];rfl)
    |(rw[func_of_trod (f0:=392) Tryz.underlying137 aaO hr];rfl)
    |(rw[func_of_trod (f0:=394) Tryz.underlying137 aaP hr];rfl)
    |(rw[func_of_trod (f0:=395) Tryz.underlying137 aaQ hr];rfl)
    |(rw[func_of_trod (f0:=396) Tryz.underlying137 aaR hr];rfl)
 refine MM (ML (key 0 _ rfl)) key λx hx=>?_;simp only[IU,List.mem_cons,List.not_mem_nil,or_false] at hx;rcases hx with rfl|rfl|rfl|rfl|rfl|rfl|rfl|rfl|rfl|rfl|rfl|rfl|rfl|rfl<;>first|exact .inl (.inr rfl)|exact .inr ⟨_,rfl⟩
theorem TK(h:laidMetH Tryz.prog Cd W):Gls fI (λ_=>False) W:=by
 intro g l hl;simp only[fI,List.lookup_cons] at hl;split at hl
 .rename_i e;cases hl;obtain rfl:=eq_of_beq e;exact Ov h
 .split at hl
  .rename_i e;cases hl;obtain rfl:=eq_of_beq e;exact Rc h
  .cases hl
end Go.Proofs.YtaiecngnppbhlaaGreatDoor
