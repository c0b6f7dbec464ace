/- Texts. -/
import Derived.LaidHandle
import Derived.LaidMore
import Derived.OpenShut
import Derived.ProofKit
import Derived.Test.YtghphhhpagagbaaGreatDoorRows
import Derived.Test.YtghphhhpagagbaaGreatDoorT5
namespace Go.Proofs.YtghphhhpagagbaaGreatDoor
set_option linter.unusedSectionVars false
set_option linter.unusedVariables false
set_option linter.unusedSimpArgs false
open Go.RowKit Go.Proofs.Tryz Go.ChangeShapes Go.WideShapes Go.ChangeAt
attribute [local irreducible] Tr dz Gp
variable (gl:CM)
variable {α:Type}{x:Ab}{a l:Bb}{v:Value}{D:Dk}{o:Bp}{R:Ad}{g r:AQ}{cs ids row:Ba}{n:Int}{N:Ja}{base k:Nat}{I:Gi}{ss:JX}{f:FuncId}{W w:World}{t:TypeId}
theorem Ac7{gg:Aj}{j:Nat}:∀(l:Ba) (s:OP),gW (l.foldl (λs x=>match Nj gg x with|some y=>RT s y.past|none=>s) s) j=(gW s j||l.any λx=>match Nj gg x with|some y=>gW y.past j|none=>false)
 |[],s=>aC
 |x::l,s=>by rw[List.foldl_cons,Ac7 l,List.any_cons];grind [RP]
theorem Ag3{p:Nat->Bool}{N:Ja}:x∈Vn p N↔∃(k:Nat) (y:CY),N[k]?=some y/\p k=true/\y.id=x:=by unfold Vn;simp only[Fq,HC,List.mem_zipIdx_iff_getElem?,Prod.exists];grind
theorem Ag4{p:Nat->Bool}{N:Ja}:(Vn p N).Sublist (N.map (·.id)):=by
 have h:(N.zipIdx.map (·.1.id))=N.map (·.id):=by rw[show(λq:CY×Nat=>q.1.id)=(λy:CY=>y.id)∘Prod.fst from rfl,<-IH,List.zipIdx_map_fst]
 rw[<-h];exact List.filter_sublist.map _
theorem Ac8{I:Gi}{x:Ab}:∀{l p:Ba},x∈Lx I p l↔x∈p\/x∈l/\0<I.lev x
 |[],p=>by simp[Lx]
 |y::l,p=>by have a:Lx I p (y::l)=Lx I (bif 0<I.lev y then bif p.any λz=>decide (y=z)then p else p++[y]else p) l:=rfl;rw[a,Ac8];grind
theorem Ae9{I:Gi}:∀{l p:Ba},p.Nodup->(Lx I p l).Nodup
 |[],p,h=>h
 |y::l,p,h=>by have a:Lx I p (y::l)=Lx I (bif 0<I.lev y then bif p.any λz=>decide (y=z)then p else p++[y]else p) l:=rfl;rw[a];refine Ae9 ?_;grind
section
variable {g:AQ} {m:Jq} {N:Ja} (P:Pg g m N)
include P
theorem Ajd:N.map (·.id)=g.IDs:=by
 refine List.ext_getElem? λk=>?_;have pl:=P.p.len;have nI:=P.w.nI;rw[M7];cases hy:N[k]? with
 |none=>grind
 |some y=>rw[(P.p.nd k y hy).2.1];rfl
theorem Ac9{l:Ba}{j:Nat}(hj:j<256):gW (Se ⟨g.Cards,m,N⟩ l) j=true↔uX g l j:=by
 have z:gW z4 j=false:=by unfold gW z4;split<;>simp
 rw[show gW (Se ⟨g.Cards,m,N⟩ l) j=_ from Ac7 l z4,z,Bool.false_or,List.any_eq_true];unfold uX;refine⟨λ⟨x,hx,h⟩=>⟨x,hx,?_⟩,λ⟨x,hx,n,h1,h2⟩=>⟨x,hx,?_⟩⟩
 .rw[Us P.w P.p] at h;cases hk:bu x g.IDs with
  |none=>rw[hk] at h;simp at h
  |some n=>
   rw[hk,aL] at h;cases hy:N[n]? with
   |none=>rw[hy] at h;simp at h
   |some y=>rw[hy] at h;exact⟨n,rfl,((P.p.nd n y hy).2.2.1 j hj).symm.trans h⟩
 .have hn:=(cr (gb h1).1).1;have pl:=P.p.len;have nI:=P.w.nI;obtain⟨y,hy⟩:∃y,N[n]?=some y:=⟨_,DS aa⟩;rw[Us P.w P.p,h1,aL,hy];exact((P.p.nd n y hy).2.2.1 j hj).trans h2
theorem Ag5:0<(Cd g m N).lev x↔x∈g.IDs:=by
 have pl:=P.p.len;have nI:=P.w.nI;cases hk:bu x g.IDs with
 |none=>
  have:(Cd g m N).lev x=0:=by show(match Nj ⟨g.Cards,m,N⟩ x with|some y=>y.level|none=>0)=_;rw[Us P.w P.p,hk];rfl
  grind [jv]
 |some k=>have hid:=(gb hk).1;obtain⟨y,a,c,_⟩:=Ww P.w P.p hid;have hkl:=(cr hid).1;obtain⟨u,hu,_⟩:=dk (l:=g.Up) (k:=k) (by have:=P.w.nU;omega);have b:=P.p.lv k y u a hu;grind [Ag2]
theorem Ak0(h14:g.L.length<=14){l:Ba}(hl:l.length<=1000):∃v p,MY g l=some v/\GL g v/\v.Nodup/\O6 GR (Vn (gW (Se ⟨g.Cards,m,N⟩ l)) N)=some p/\p.length=(Vn (gW (Se ⟨g.Cards,m,N⟩ l)) N).length/\p.length<=14/\(Lx (Cd g m N) p l).Perm v:=by
 have pl:=P.p.len;have nI:=P.w.nI;obtain⟨v,e,b,a,c,d⟩:=yf P.w (ids:=l) aa;have hs:=Ag4 (p:=gW (Se ⟨g.Cards,m,N⟩ l)) (N:=N);rw[Ajd P] at hs;have hle:=hs.length_le;obtain⟨p,e2,p1,p2⟩:=Ss PO (P.w.nd.sublist hs) aa;have hpl:=p1.length_eq;refine⟨v,p,e,b,a,e2,hpl,aa,(List.perm_ext_iff_of_nodup (Ae9 (p1.nodup_iff.2 (P.w.nd.sublist hs))) a).2 λx=>?_⟩;rw[Ac8,c,p1.mem_iff,Ag3,Ag5 P];refine or_congr_left ⟨λ⟨k,y,h1,h2,h3⟩=>?_,λ⟨k,h1,h2⟩=>?_⟩
 .have hk:=(cr h1).1;exact⟨k,h3▸(P.p.nd k y h1).2.1,(Ac9 P aa).1 h2⟩
 .have hk:=(cr h1).1;obtain⟨y,hy⟩:∃y,N[k]?=some y:=⟨_,DS aa⟩;have:=(P.p.nd k y hy).2.1;grind [Ac9]
end
theorem Aje{gl:CM}{gg:Aj}{o:Bp}{s v:Ba}(hn:s.length<=14)(hp:s.Perm v)(hs:∀x∈v,1<=x.Seq):∃fr k w,ba prog gl 68 [.ptr (Ag gg) 0,aE aj s] (aE Bv fr)/\Aa2 fr (λf=>JJ f o)=some k/\qN v o.By=some w/\k=(decide (0<w)&&decide (w<=o.Seq)):=by
 obtain⟨fs,hq,hi⟩:=AiA hn;have hl:=AaE (ids:=s) aa;have hI:=Agn s aa;have hfl:fs.length=(Uu s).2.es.length:=by rw[hq.length_eq,Hv]
 have hF:=(AbJ (gl:=gl) (gg:=gg) (ids:=s) (r:=fs) (n:=fs.length) aa aa hfl.symm hi).fn Bi.sz (Bi.len _) (Bi.imm _);obtain⟨w,e,hw⟩:=UG (ids:=v) (by have:=hp.length_eq;omega) hs o.By;refine⟨fs,_,w,hF,?_,e,rfl⟩;rw[show(λf=>JJ f o)=λf=>some (decide (f.Device=o.By)&&decide (f.Seq<=o.Seq)) from funext λf=>by unfold JJ;cases decide (f.Device=o.By)<;>rfl,Abs (p:=λf:Bh=>decide (f.Device=o.By)&&decide (f.Seq<=o.Seq)) aa λ_ _=>rfl];congr 1;rw[Bool.eq_iff_iff,List.any_eq_true];simp only[bA,decide_eq_true_eq];have hm:∀f:Bh,f∈fs↔(Uu s).2.get f.Device=some f.Seq:=λf=>by rw[hq.mem_iff,Ua]
 have hc:∀f,OY v f=OY s f:=λf=>(Abi hp f).symm;have hex:∀{d q:Int},2<=OY s ⟨d,q⟩->∃y∈v,y.By=d/\y.Seq=q:=λ{d q} h=>by unfold OY at h;obtain⟨y,hy⟩:=List.exists_mem_of_length_pos (l:=s.filter λx=>decide (x.By=d)&&decide (x.Seq=q)) (Nat.lt_of_lt_of_le B5 h);rw[HC] at hy;have:=hy.2;simp only[bA,decide_eq_true_eq] at this;exact⟨y,hp.mem_iff.1 hy.1,this.1,this.2⟩
 unfold FsI at hw;simp only[hc] at hw;refine⟨λ⟨f,hf,h1,h2⟩=>?_,λ⟨h1,h2⟩=>?_⟩
 .rw[hm] at hf;have h3:=hI.a _ _ hf;obtain⟨y,g,c,i⟩:=hex h3;rw[h1] at h3 c;rcases hw with⟨_,h5⟩|⟨z,k1,k2,k3,j,k5⟩
  .exact absurd (i▸h3) (h5 y g c)
  .have a:=k5 y g c (i▸h3);have b:=hs z k1;omega
 .rcases hw with⟨h5,_⟩|⟨z,k1,k2,k3,j,k5⟩
  .omega
  .obtain⟨q,q1,m⟩:=hI.b _ _ j;exact⟨⟨o.By,q⟩,(hm _).2 q1,rfl,by show q<=o.Seq;omega⟩
theorem Ak1{D':Dk}{i:Ab}(h:o7 D o i=some D'):D'.In=D.In:=by grind [o7,GI]
theorem Aih(h:Rr R D)(hR:Bn R)(d:Int):Qs R d=decide (d∈JN R):=by
 have hp:=(OJ hR).2.1;have hi:=h.in_ d;unfold Qs Hx;rw[Bool.eq_iff_iff,decide_eq_true_iff,hp.mem_iff,Fq];by_cases c:d∈D.In
 .grind [Hr]
 .rw[Bt c] at hi;rw[hi];refine⟨(by grind),λ⟨q,hq,e⟩=>?_⟩;have hg:=JL hR.ci (k:=q.1) (v:=q.2.1) (n:=q.2.2) hq;grind
theorem af0{b:Bb}(h1:a.length<=1000)(h2:b.length<=1000):AB (qn a b) ([],0)=some (b.filter (QF a)):=by
 refine T.eq (T.forA b.length (λk acc=>acc=(b.take k).filter (QF a)) aa aC (λk acc hk hj=>?_) λacc hj=>?_)
 .obtain⟨y,hy,hm⟩:=dk hk;subst hj;have hl:((b.take k).filter (QF a)).length<=1000:=by grind
  unfold qn;simp only[eA hk,ax,au,hy,aL,cX (show a.length<=1000000 by omega)];refine .ite (λc=> .bind (.app cq (.some ⟨aq aa,?_⟩))) λc=> .some ⟨aq aa,?_⟩
  .grind [Rb]
  .rw[Rb hy,Re];simp[c]
 .unfold qn;dsimp only;rw[eF,A9];subst hj;exact .some (show _=_ by rw[EZ])
theorem af1{b x:Bb}(h0:x.length<=1000)(h1:a.length<=1000)(h2:b.length<=1000):AB (qm a b) (x,0)=some (x++a.filter λd=> !QF b d):=by
 refine T.eq (T.forA a.length (λk acc=>acc=x++(a.take k).filter λd=> !QF b d) aa aC (λk acc hk hj=>?_) λacc hj=>?_)
 .obtain⟨y,hy,hm⟩:=dk hk;subst hj;have hl:((a.take k).filter λd=> !QF b d).length<=1000:=by grind
  unfold qm;simp only[eA hk,ax,au,hy,aL,cX (show b.length<=1000000 by omega)];refine .ite (λc=> .bind (.app cq (.some ⟨aq aa,?_⟩))) λc=> .some ⟨aq aa,?_⟩
  .grind [Rb]
  .rw[Rb hy,Re];simp[c]
 .unfold qm;dsimp only;rw[eF,A9];subst hj;exact .some (show _=_ by rw[EZ])
section
variable {g:AQ} {m:Jq} {N:Ja} (P:Pg g m N)
include P
theorem Ak2(k:JB g 1000 D)(h:Rr R D)(hR:Bn R){i:Ab}(so:Bg o)(hp:Xd o i):∃D',DM D o i=some D'/\lu D'=some (JN (Vr R o i))/\∀d,Qs (Vr R o i) d=decide (d∈JN (Vr R o i)):=by
 obtain⟨D',e,k',_⟩:=Gc P.w B5 k so i;refine⟨D',e,?_⟩;have z:=AaT P k B5;have hQ:=R4 hR hp;have a:=k.dev;have b:=k.nL;by_cases c:o.Kind=9
 .have eD:DM D o i=o7 D o i:=by unfold DM;rw[ofE z.z,aL];obtain⟨f,e3,_⟩:=X3 z.z h (XX D.Cards o.By);grind
  rw[eD] at e;have ei:=Ak1 e;have eQ:(Vr R o i).in_=R.in_:=by grind [Vr,Aak]
  have e1:JN (Vr R o i)=JN R:=by grind [JN]
  have e2:lu D'=lu D:=by grind [lu]
  refine⟨by grind [AkL,Sy.z],λd=>?_⟩;rw[e1,<-Aih h hR d];grind [Qs]
 .obtain⟨j,e2,h2⟩:=doE z (by grind) h hR (o:=o) (i:=i) (by grind);rw[e] at e2;obtain rfl:=Bj e2;exact⟨AkL ⟨by rw[k'.cards];exact P.w.nC,by grind [JB],by grind [JB],by grind [JB]⟩ h2 hQ,Aih h2 hQ⟩
end
theorem Acc(hR:Bn R)(h:Uo R o=0):1<=o.By/\o.By<=6:=by
 unfold Uo at h;split at h
 .grind [Bn,DE]
 .cases c:Qs R o.By with
  |false=>grind
  |true=>
   unfold Qs Hx at c;cases hg:R.in_.get o.By with
   |none=>grind
   |some v=>grind [Bn,Hr]
section
variable {g:AQ} {m:Jq} {N:Ja} (P:Pg g m N)
include P
theorem Afb(h14:g.L.length<=14)(j:∀(i:Nat) (o:Bp) (x:Ab),g.L[i]?=some o->g.IDs[i]?=some x->x.Seq=o.Seq)(so:Bg o){i:Ab}(hid:pV o=some i)(k:ba prog fI 70 [.agg (aJ o)] (.agg (aj i)))(hp:1<=o.By/\o.By<=6->Xd o i):∃l:Bb,iV prog fI 27 [.ptr (Ag ⟨g.Cards,m,N⟩) 0,.agg (aJ o)] 3 l.length (l.flatMap cZ)/\qo g o=some l/\l.length<=2000/\l.Nodup:=by
 have w:=P.w;have hpl:=so.nPast;have hgl:o.Guards.length<=1000000:=by grind [Bg.nGuards]
 have nI:=w.nI;have pl:=P.p.len;have hG:=Y4 w P.p;have hI:=Abh hG;have opx:∀x∈g.IDs,∃(i:Nat) (o:Bp),g.IDs[i]?=some x/\g.L[i]?=some o/\Fp o:=by grind [Hd,Fs.op]
 have hseq:∀x∈g.IDs,1<=x.Seq/\x.Seq<=2147483647:=λx hx=>by obtain⟨i,o,h1,h2,W⟩:=opx x hx;rw[j i o x h2 h1];exact(T1 W.numbers).seq
 obtain⟨v,p,e1,n,c,e2,pe,H,a⟩:=Ak0 P h14 hpl;have hv14:v.length<=14:=by have:=EC c n.sub;omega
 have J:=AgY (gl:=fI) hG (by show N.length<=14;omega) (ids:=o.Past) aa e2 pe;have hS:=Ae4 hI J aa;generalize Lx (Cd g m N) p o.Past=s at hS a;have hs14:s.length<=14:=by rw[a.length_eq];exact hv14
 have hsn:s.Nodup:=a.nodup_iff.2 c;have hsm:∀x∈s,x∈g.IDs:=by grind [GL.sub]
 obtain⟨fr,y,F,f1,f2,K,X⟩:=Aje (gl:=fI) (gg:=⟨g.Cards,m,N⟩) (o:=o) hs14 a (by grind);obtain⟨row,A,B,C⟩:=UH w P.p aa c n.sub;have hrl:row.length<=14:=by rw[B.length_eq];exact hv14
 have hrn:row.Nodup:=B.nodup_iff.2 c;have hrm:∀x∈row,x∈g.IDs:=by grind
 have hO:ba prog fI 47 [.ptr (Ag ⟨g.Cards,m,N⟩) 0,aE aj s] (aE aj row):=by obtain⟨r,e,q,d⟩:=Ss (UF (Cd g m N)) hsn hs14;have:r=row:=T0 (UF (Cd g m N)).tr PE (by grind) d C;grind [XM,List.Perm.length_eq]
 obtain⟨vs,M,Y,O⟩:=Acb (ids:=v) aa c (by grind);have hvm:∀x∈vs,x∈g.IDs:=by grind
 have hvl:vs.length<=1000:=by grind [List.Perm.length_eq,Np]
 have hV:ba prog fI 238 [.ptr (Ag ⟨g.Cards,m,N⟩) 0,aE aj s] (aE aj vs):=by
  obtain⟨r,e,q,d⟩:=Ah1 (gl:=fI) (gg:=⟨g.Cards,m,N⟩) hs14 hsn (by grind);have hq:(s.filter (voP s)).Perm (v.filter (voP v)):=by rw[show voP s=voP v from funext (Ae8 a)];grind
  have:r=vs:=T0 PO.tr AdM (by grind) d O;exact this▸e
 obtain⟨s1,s2⟩:=Ah9 P hrm;have hO2:ba prog fI 47 [.ptr (Ag ⟨g.Cards,m,N⟩) 0,aE aj row] (aE aj row):=by obtain⟨r,e,q,d⟩:=Ss (UF (Cd g m N)) hrn hrl;have:r=row:=T0 (UF (Cd g m N)).tr PE q d C;grind [XM]
 have t:=XK hI hO2 aa;have hN:=XK hI hO aa;have f:=AaW P A aa hrm;obtain⟨D,S,cs,U,Z,u,b,E⟩:=AmJ P (ids:=v) n A hrn aa hrm M hvl hvm;have hod:∀x∈row,Xd ((Cd g m N).o x) x:=λx hx=>by obtain⟨i,o,h1,h2,_⟩:=opx x (hrm x hx);rw[(P.op h2 h1).2];grind [Pg.od]
 have V:=Ad7 (I:=Cd g m N) (ids:=s) (row:=row) (s:=ON (Cd g m N) row) (r:=cs) ⟨hI,P.cd,hod,by show row.length<=1000;omega⟩ hO hV hvl t aa U;have hcl:cs.length<=1000:=by grind
 have h:=AhH hI P.cd V (by grind) hcl;generalize ZI (Cd g m N) cs=R at u b h;generalize ON (Cd g m N) row=sen at s1 s2 hN f;refine⟨_,Ae6 hS f1 f2 b h k hgl (by grind [Acc]) hN aa,?_,?_⟩
 .unfold qo Ae5;rw[e1,aL,K,aL];have hj:(bif 0<F then(some (decide (F<=o.Seq)))else(some false))=some y:=by grind
  rw[hj,aL];cases y with
  |true=>rfl
  |false=>
  rw[A9,A9,S,aL,hid,aL,Akx (AaT P E aa).z u b hgl i,aL];cases cm:decide (Uo R o≠0) with
  |true=>rfl
  |false=>
  have hp:=hp (Acc b (Decidable.of_not_not (Mj cm)));obtain⟨D',k1,k2,k3⟩:=Ak2 P E u b so hp;have hQ:=R4 b hp;generalize Vr R o i=Q at k2 k3 hQ;have hdl:(JN Q).length<=1000:=by rw[(OJ hQ).2.1.length_eq,Hv];grind [Bn.len]
  rw[A9,A9,k1,aL,k2,aL,f,aL,af0 hdl aa,aL,af1 (by grind) hdl aa,aL];have a1:sen.filter (QF (JN Q))=haS Q sen:=by grind [List.filter_congr,JH]
  rw[a1];congr 2;grind [List.filter_congr,JH]
 .unfold Ae5;cases y with
  |true=>simp
  |false=>
  cases cm:decide (Uo R o≠0) with
  |true=>simp
  |false=>
  have hQ:=R4 b (hp (Acc b (Decidable.of_not_not (Mj cm))));generalize Vr R o i=Q at hQ;have hdl:(JN Q).length<=1000:=by rw[(OJ hQ).2.1.length_eq,Hv];grind [Bn.len]
  have dn:(JN Q).Nodup:=(OJ hQ).2.1.nodup_iff.2 hQ.ci.kd;grind
end
def Pq{α:Type}(x:Option α)(Q:α->Prop):Prop:=∀v,x=some v->Q v
section
variable {α β:Type} {x:Option α} {f:α->Option β} {Q:β->Prop} {R:α->Prop}
theorem Pq.b(h:∀v,Pq (f v) Q):Pq (x.bind f) Q:=λw e=>by obtain⟨v,_,e⟩:=GI.1 e;exact h v w e
theorem Pq.m(h:Pq x R)(k:∀v,R v->Pq (f v) Q):Pq (x.bind f) Q:=λw e=>by obtain⟨v,e',e⟩:=GI.1 e;exact k v (h v e') w e
theorem Pq.i{c:Bool}{a b:Option α}(h1:c=true->Pq a R)(h2:c=false->Pq b R):Pq (bif c then a else b) R:=by grind
theorem Pq.s{v:α}(h:R v):Pq (some v) R:=λw e=>(by grind)
end
theorem Pq.of{α:Type}{x:Option α}{Q:α->Prop}(h:T x Q):Pq x Q:=λv e=>by obtain⟨w,e',h⟩:=h;grind
def Kn(o:Bp):Prop:=o.Kind=9->1<=o.Need/\o.Need<=1000000
theorem AdP(h0:0<=n)(h1:n<=1000000):Pq (sc g ids o n) Kn:=by
 unfold sc;refine .b λj=> .b λk=> .b λl=> .i (λc=>?_) λc=>?_
 .refine .b λp=> .b λa=> .m (R:=λq=>0<=q/\q<=1) (λq e=>?_) λd hq=> .b λh=> .s λ_=>?_
  .grind [bM,u9,iI,ah]
  grind [bM]
 .have c':=Mj c;refine .b λ_=> .b λ_=> .b λ_=> .b λ_=> .b λ_=> .b λ_=> .i (λ_=> .s λe=>absurd e c') λ_=> .s λe=>absurd e c'
theorem Ag6{m:Int}(hm:c8 m):Pq (sd g n m) Kn:=by
 unfold sd;refine .b λw=> .m (.of (eX hm B5)) λj h3=> .b λy=> .i (λ_=> .s λe=>(by grind)) λ_=> .b λa=> .b λl=> .b λj12=> .b λo=> .b λp=>?_;have hk:0<=wI (j.tdiv 20)/\wI (j.tdiv 20)<=1000000:=by grind [bM]
 have no:∀{k:Int},decide (a.Kind=k)=true->k≠9->∀{q:Int},a.Kind=9->1<=q/\q<=1000000:=by grind
 refine .m (R:=λx:Bp×Ba=>Kn x.1) (.i (λc=> .b λ_=> .s λe=>(by grind)) λ_=> .m (R:=λx:Bp×Ba=>Kn x.1) (.i (λc=> .b λ_=> .s λe=>(by grind)) λ_=> .m (R:=λx:Bp×Ba=>Kn x.1) (.i (λc=> .s λe=>(by grind)) λ_=> .m (R:=λx:Bp×Ba=>Kn x.1) (.i (λc=> .b λ_=> .b λ_=> .b λ_=> .s λe=>(by grind)) λ_=> .m (R:=λx:Bp×Ba=>Kn x.1) (.i (λc=> .s λe=>(by grind)) λ_=> .m (R:=λx:Bp×Ba=>Kn x.1) (.i (λc=> .s λe=>(by grind)) λ_=> .m (R:=λb:Bool=>a.Kind=9->b=true) (by grind [Pq.s]) λr t=> .m (R:=λx:Bp×Ba=>Kn x.1) (.i (λ_=> .m (AdP hk.1 hk.2) λu h=> .b λ_=> .s h) λc=> .s λe=>(by grind)) λ_ h=> .s h) λ_ h=> .s h) λ_ h=> .s h) λ_ h=> .s h) λ_ h=> .s h) λ_ h=> .s h) λv d=>?_;exact .b λ_=> .b λ_=> .b λ_=> .b λ_=> .b λ_=> .s d
def R5(l:Mi):Bool:=decide (l.length<=12)&&(List.range 12).all λk=>match l[k]?,l[k+1]? with
 |some a,some b=>decide (a.Device<=b.Device)&&(decide (0<=a.Device)&&decide (b.Device<=1000000))
 |_,_=>true
theorem OM{l:Mi}(h:R5 l=true):xf l:=by unfold R5 at h;simp only[bA,decide_eq_true_eq] at h;refine⟨h.1,λk a b ha hb=>?_⟩;have hk:=(cr ha).1;have:=GV.1 h.2 k (List.mem_range.2 aa);rw[ha,hb] at this;simpa using this
theorem Ls:xf u7:=OM aH
structure Aaa (r:AQ) (ms:Nat->Jq) (N:Ja):Prop where
 wf:Fs r
 ne:r.L≠[]
 run:Abc r ms N
 pg:Ou r (ms r.L.length) N
 gr:Lz g0 r
 gC:r.Cards=u7
 n14:r.L.length<=14
abbrev oN3(N:Ja)(n:Nat):Option Ob:=zQ (N.take n)
theorem Ui{ms:Nat->Jq}(e:vq l 14=some r)(h:Aaa r ms N):jg prog fI 10 [aE cZ l] [] 0 (.tup [.ref 0 0,.agg (aI r)]) [(0,oG r.Cards r.L.length 2),(1,oM (ms r.L.length)),(2,oN3 N r.L.length)] 3:=by refine pP func10 ?_;exact mt .ret (s0 10 fI [(2,.ref 0 0),(3,.ptr (aI r) 0)] [(0,oG r.Cards r.L.length 2),(1,oM (ms r.L.length)),(2,oN3 N r.L.length)] 3 0) [.ref 0 0,.agg (aI r)] [hf 6 (Jm fI e),tN 8 [] 2 [] [.agg (aI r)] [ob 0 111 [aE bv r.Cards,.mref 3,.rsl 4 0 r.L.length],(1,oM (ms r.L.length)),(2,oN3 N r.L.length)] (ZC h.run) trivial ⟨⟨rfl,.inl rfl⟩,⟨rfl,rfl,rfl,rfl,.inr ⟨rfl,cf _⟩⟩,⟨rfl,.inr ⟨rfl,az.imm _⟩⟩,trivial⟩] [hc (eB (gs:=aI r) aH),hc (rfl:r.L.length=r.L.length),hc (cf (ms r.L.length)),hc (az.imm (N.take r.L.length))]
theorem neZ(a:Int):decide (a≠a)=false:=aC
theorem Aac{gl:CM}{l:Bb}(hn:l.length<=1000000):ba prog gl 29 [aE cZ l,aE cZ l] (bG true):=by
 refine Gh func29 ?_;refine pN (λk:Nat=>(s0 26 gl [(0,aE cZ l),(1,aE cZ l),(5,iG (k:Int))] [] 0 0)) 1110122 (Fw (n:=l.length) aa) [hr 10 (neZ (ah l))] [] (λB k w hs k5 a=>?_);unfold LC at hs;split at hs
 .rename_i hlt;obtain rfl:=Bj hs;obtain⟨x,hx⟩:∃x,l[k]?=some x:=by simp_all
  have hz:=Be hx;have k5:=k5 _ rfl;exact jw [hr 14 (Dl hx),AA 19 (rZ.ixZ hz),AA 20 (rZ.p1Z tZ hz),AA 23 (rZ.ixZ hz),AA 24 (rZ.p1Z tZ hz),hr 25 (neZ x),hbb 16 (Xl (q:=k) aa)] [] k5 []
 .split at hs
  .rename_i he;subst he;exact Ar [hr 14 (Ef (s:=l))] []
  .cases hs
theorem NP{i:Ab}(so:Bg o)(h:pV o=some i):i.By=o.By/\i.Seq=o.Seq:=by obtain⟨j,e,a,b,_⟩:=wN so;grind
theorem Acg{b:AQ}(h:Lz b g)(hb:b.L=[]):∀(i:Nat) (o:Bp),g.L[i]?=some o->∃c∈g.Cards,c.Device=o.By:=by
 induction h with
 |base=>grind
 | @step g o id up row gr w sm _ e a hid hrow ih=>
  intro i d ho;have ho:(g.L++[o])[i]?=some d:=ho;rcases je ho with⟨_,h⟩|⟨_,rfl⟩
  .exact ih i d h
  .obtain⟨c,hc,_⟩:=a.card;exact⟨c,yd hc⟩
theorem Adb{cs:Mi}(h:cs.all KK=true){c:DQ}(hc:c∈cs):1<=c.Device/\c.Device<=6/\1<=c.Member/\c.Member<=3:=by grind [KK]
theorem Ak8:u7.map (·.Device)=[1,2,3,4,5,6]:=aH
section
variable {r:AQ} {ms:Nat->Jq} {N:Ja}
theorem Afe{b:AQ}{m:Jq}(w:Fs r)(p:Ou r m N)(gr:Lz b r)(hb:b.L=[])(hl:r.Cards.length<=1000)(h6:r.Cards.all KK=true)(hn:(r.Cards.map (·.Device)).Nodup):Pg r m N:=by have hcd:=Acg gr hb;refine⟨w,p,λi o x ho hx=>?_,(by grind),⟨hl,λc hc=>Adb h6 hc⟩,hn⟩;grind [Fs.ops,T1,Fp.numbers,Bg.nGuards,Xd,NP,Fs.ids,Ot.k9,ah,Adb]
theorem Ak9(h:Aaa r ms N):Pg r (ms r.L.length) N:=Afe h.wf h.pg h.gr rfl (by rw[h.gC,KL];decide) (h.gC▸Og) (by rw[h.gC,Ak8];decide)
end
theorem Adc{m:Jq}(P:Pg g m N)(h14:g.L.length<=14)(so:Bg o)(hk:Kn o):∃l:Bb,iV prog fI 27 [Z8 g.Cards m N,.agg (aJ o)] 3 l.length (l.flatMap cZ)/\qo g o=some l/\l.length<=2000/\l.Nodup:=by
 obtain⟨i,e,hi⟩:=TU so;have hb:=NP so hi;have hg:o.Guards.length<=1000000:=by grind [Bg.nGuards]
 have:=Afb P h14 (λi o x ho hx=>(NP (P.w.ops i o ho).1 (P.w.ids i o x ho hx)).2) so hi (TP fI so e) λb=>⟨hb.1,hg,hk,b⟩;grind [Ag,RJ]
theorem Ala{ms:Nat->Jq}(h:Aaa r ms N)(ho:r.L[k]?=some o):Bg o/\Kn o:=by obtain⟨sm,a,_⟩:=h.wf.ops k o ho;have f:=T1 a.numbers;have:=sm.nGuards;refine⟨sm,λhk=>?_⟩;grind [Ot,ah]
theorem Alb{x:Option α}{Q:α->Prop}(h:T x Q):T x λv=>x=some v/\Q v:=by obtain⟨v,e,q⟩:=h;exact⟨v,e,e,q⟩
theorem Iv(h:T (qo g o) λl=>l.length<=3000):T (jm g o) λl=>l.length<=200000:=by unfold jm;refine .bindc (zh _) λa _=> .ite (λ_=> .some aC) λ_=> .bind (h.mono λb h4=>?_);grind [cX,T.some,Od]
theorem Oh(hl:l.length<=9223372036854775807)(hi:∀x∈l,c8 x){most:Int}(hm:most<=14)(hk:k<=1000)(w:Fs g)(gr:Lz g0 g)(hg:g.L.length<=k):T (ly l most (g,(k:Int))) (Rd (λs'=>s'.2=((k+1:Nat):Int)/\(k:Int)<most/\Fs s'.1/\Lz g0 s'.1/\(g.L≠[]->s'.1.L≠[])/\s'.1.L.length<=g.L.length+1) λv=>v=g/\(k=0->most<=0)):=by
 have e2:wI (2*(k:Int))=((2*k:Nat):Int):=by grind [bM]
 have e3:wI (((2*k:Nat):Int)+1)=((2*k+1:Nat):Int):=aq aa;have at_:∀(n:Nat) {Q:Int->Prop},(∀v,c8 v->Q v)->T (bif (n:Int)<ah l then((aS l (n:Int)).bind λp=>some p)else(some 0)) Q:=λn Q q=>by refine .dec (λhp=>?_) λ_=> .some (q 0 dP);refine .bind (.ixl aa (by unfold ah at hp;omega) λy _ hy=> .some (q y (hi y hy)))
 unfold ly;simp only[e2,e3];refine .bind (T.mono (Q:=λb:Bool=>(b=true->(k:Int)<most)/\(b=false->k=0->most<=0)) (.dec (λhp=>?_) λhp=> .some ⟨λe=>(by cases e),λ_ e=>(by subst e;exact Int.not_lt.1 hp)⟩) λb hb=> .ite (λe=>?_) λe=> .some ⟨rfl,hb.2 e⟩)
 .have:(k:Int)<most:=hp;refine .ite (λ_=> .some ⟨λ_=>this,λe=>(by cases e)⟩) λh4=> .some ⟨λ_=>this,λ_ e=>?_⟩;subst e;exact absurd h4 (λe=>Bool.noConfusion e)
 have hk':=hb.1 e;have hw:wI ((k:Int)+1)=((k+1:Nat):Int):=aq aa;refine .bind (at_ (2*k) λD t=> .bind (at_ (2*k+1) λE f=>?_));obtain⟨ms,N,u,_,_,h4⟩:=OL gr rfl rfl Ls;have P:=Afe w h4 gr rfl (by rw[u];show u7.length<=1000;rw[KL];decide) (u▸Og) (by rw[u];show(u7.map (·.Device)).Nodup;rw[Ak8];decide);refine .bind (T.mono (Alb (N2 w t f)) λo ⟨z,c⟩=> .bind ((Iv (by obtain⟨_,_,e,h⟩:=Adc P aa c.nopath (Ag6 f o z);exact⟨_,e,aa⟩)).mono λF H=> .bindc (uW (eX f B5)) λI _=> .bindc (.ite (λ_=> .some trivial) λ_=> .some trivial) λJ _=> .bindc (zh _) λK _=>?_));refine .bind (T.mono (Q:=λx:List E5=>x.length<=1000/\∀y∈x,Jb y) (T.loop (λs=>∃j:Nat,s.2=(j:Int)/\j<=5/\s.1.length<=j/\∀y∈s.1,Jb y) (λs=>6-s.2.toNat) ⟨0,rfl,aa,aC,aC⟩ aC ?_) λA B=>?_)
 .rintro⟨a,i⟩ ⟨j,rfl,hj,ha,hs⟩;simp only at ha hs;have hwj:wI ((j:Int)+1)=((j+1:Nat):Int):=aq aa;unfold lw;refine .bind (T.mono (Q:=λb:Bool=>b=true->j<5) (.ite (λ_=> .ite (λ_=> .some λe=>?_) λ_=> .some λe=>by cases e) λ_=> .some λe=>by cases e) λb hb=> .ite (λe=>?_) λ_=> .some ⟨by grind,hs⟩)
  .grind
  .have:=hb e;refine .bind (.bind (.app cq (.some (.some ⟨⟨j+1,hwj,aa,by simp;omega,λy hy=>?_⟩,?_⟩))))
   .rcases I9.1 hy with hy|hy
    .grind
    .simp at hy;subst hy;exact⟨Mp _,aC,aC⟩
   grind
 .have so:Bg {o with Path:=A}:=Hi c.iBy c.iSeq c.iKind c.iAt c.sPast c.iDevice c.iOld c.iMember c.iRole B c.epoch c.iN c.nBody c.sRefs c.of_ c.sGuards c.iNeed c.iWait c.sBoxes c.pub c.sHist;refine .bind ((Io so).mono λM C=>?_);obtain⟨s,rfl,hr,hs⟩:=C;refine .bind ((QG w (so.sig s) hs).mono λm d=> .dec (λh0=> .some ⟨hw,hk',d.1,?_,?_,?_⟩) λ_=> .some ⟨hw,hk',w,gr,λh=>h,Nat.le_succ _⟩)
  .rcases d.2 with⟨h,_⟩|⟨id,up,row,_,a,hid,hrow,hg⟩
   .grind
   .show Lz g0 m.1;rw[hg];exact .step gr w (so.sig s) hr hs a hid hrow
  .rcases d.2 with⟨h,_⟩|⟨id,up,row,_,a,hid,hrow,hg⟩
   .grind
   .intro _;show m.1.L≠[];rw[hg];show g.L++[_]≠[];simp
  .rcases d.2 with⟨h,_⟩|⟨id,up,row,_,a,hid,hrow,hg⟩
   .grind
   .show m.1.L.length<=_;rw[hg];show(g.L++[_]).length<=_;simp
theorem Wf(hl:l.length<=9223372036854775807)(hi:∀x∈l,c8 x){most:Int}(h0:0<most)(hm:most<=14):T (vq l most) λg=>Fs g/\Lz g0 g/\g.L≠[]/\(g.L.length:Int)<=most:=by
 unfold vq r8;rw[aL,Oe,aL];unfold Jf;rw[aL];refine .bind (T.mono (Q:=λg:AQ=>Fs g/\Lz g0 g/\g.L≠[]/\(g.L.length:Int)<=most) (T.loop (λs=>∃k:Nat,s.2=(k:Int)/\k<=1000/\Fs s.1/\Lz g0 s.1/\(k=0->s.1=g0)/\(k≠0->s.1.L≠[])/\s.1.L.length<=k/\(k:Int)<=most) (λs=>1001-s.2.toNat) ⟨0,rfl,aa,Yu,.base,λ_=>rfl,(by grind),Nat.zero_le _,by grind⟩ aC ?_) λv hv=> .some hv);rintro⟨g,i⟩ ⟨k,rfl,hk,w,gr,hz,a,hlk,b⟩;have hlk:g.L.length<=k:=hlk;obtain⟨r,e,hr⟩:=Oh hl hi hm hk w gr hlk;refine⟨r,e,?_⟩;cases r with
 |inr v=>obtain⟨rfl,h⟩:=hr;constructor<;>grind
 |inl s=>obtain⟨h1,h2,h3,h4,h5⟩:=hr;refine⟨⟨k+1,h1,aa,h3,h4,(by grind),λ_=>?_,by grind,aa⟩,?_⟩;all_goals grind [KM]
theorem Xe(hl:l.length<=9223372036854775807)(hi:∀x∈l,c8 x):∃r ms N,vq l 14=some r/\Aaa r ms N:=by obtain⟨r,e,w,g,ne,hn⟩:=Wf hl hi (most:=14) B5 B5;obtain⟨ms,N,a,_,h3,h4⟩:=OL g rfl rfl Ls;exact⟨r,ms,N,e,w,ne,h3,h4,g,a,aa⟩
section
variable {gl:CM}
abbrev DnV(gl:CM)(fi:FuncId)(fa fc:Bk)(p:Ab->Bool):Prop:=Ue prog gl fi fa fc (λx:Ab=>[.agg (aj x)]) (λx:Bool=>bG x) (λk=>some (p k))
theorem Abj{p:Ab->Bool}{fi:FuncId}{fa fc:Bk}(hv:DnV gl fi fa fc p){l:Ba}(hn:l.length<=1000000):iV prog gl 46 [aE aj l,.clo (.func fi) fa fc] 25 (l.filter p).length ((l.filter p).flatMap aj):=by
 refine OW func46 ?_;refine pN (λk:Nat=>(s0 23 gl [(1,.clo (.func fi) fa fc),(5,.rsl 0 0 ((l.take k).filter p).length),(8,aE aj l),(9,iG (ah l)),(10,iG (k:Int))] [(0,Bz ((l.take k).filter p))] 1 0)) 1110122 (Fw (n:=l.length) aa) [] [hc hv.im,hc (ac.imm [])] (λB k w hs k5 a=>?_) [25] [(0,0)] [(0,.row)];unfold LC at hs;split at hs
 .rename_i hlt;obtain rfl:=Bj hs;obtain⟨x,hx⟩:∃x,l[k]?=some x:=⟨_,DS hlt⟩;have hz:=Be hx;have k5:=k5 _ rfl;have hl:((l.take k).filter p).length<=k:=MG (Np _ _) (by rw[MH];omega);rw[JI,hx,Option.toList_some,Re] at k5;generalize (l.take k).filter p=q at k5 hl⊢;have hcs:=hv.cs (c:=2) (x:=x) rfl (aY (aG 20 (.agg (aj x)) aH) bf);cases hp:p x with
  |true=>rw[hp] at hcs;rw[List.filter_cons_of_pos hp,List.filter_nil] at k5;exact jw [hr 11 (Dl hx),AA 12 (ac.ixZ hz),AA 13 (ac.ptZ aW hz),Go.Proofs.YtghphhhpagagbaaGreatDoor.hz 16 [] hcs,Tn 20 ac 24 q x aa,hbb 21 (Xl (q:=k) aa)] [hc hv.im,hc (el (q++[x])),hc (ac.imm (q++[x]))] k5 [] [(0,3)] [(0,.row)]
  |false=>rw[hp] at hcs;rw[List.filter_cons_of_neg (by simp[hp]),List.filter_nil,KY] at k5;exact jw [hr 11 (Dl hx),AA 12 (ac.ixZ hz),AA 13 (ac.ptZ aW hz),Go.Proofs.YtghphhhpagagbaaGreatDoor.hz 16 [] hcs,hbb 21 (Xl (q:=k) aa)] [hc hv.im,hc (el q),hc (ac.imm q)] k5 [] [(0,0)] [(0,.row)]
 .split at hs
  .rename_i he;subst he;rw[EZ];exact EI [hr 11 (Ef (s:=l))] (ac.imm (l.filter p))
  .cases hs
section
variable {gg:Aj}
theorem Ada{l:Bb}{b:Bool}{ss:JX}(hc:ba prog gl 104 [iG o.Kind] (bG b))(hA:b=true->ba prog gl 27 [.ptr (Ag gg) 0,.agg (aJ o)] (aE cZ l))(a:b=true->ba prog gl 26 [aE cZ l,iG o.By] (aE Jc ss)):ba prog gl 49 [.ptr (Ag gg) 0,.agg (aJ o)] (aE Jc (bif b then ss else[])):=by
 refine Gh func49 ?_;cases b with
 |false=>exact Ar [hf 7 hc] []
 |true=>exact Ar [hf 7 hc,hf 11 (hA rfl),hf 14 (a rfl)] []
theorem Afc(h:RX gl gg I)(hS:ba prog gl 49 [.ptr (Ag gg) 0,.agg (aJ (I.o x))] (aE Jc ss)):ba prog gl 16 [.ptr (Ag gg) 0,.agg (aj x)] (aE Jc (bif(I.op x).isSome then ss else[])):=by
 have ho:=h.op x;refine Gh func16 ?_;generalize (I.op x).isSome=b at ho⊢;cases b with
 |false=>exact Ar [hf 10 ho] []
 |true=>exact Ar [hf 10 ho,hf 17 hS] []
def Abk(n:Nat)(o:Bp):Bool:=bif (0:Int)<(n:Int)then decide ((n:Int)=ah o.Path)else false
theorem Ag7(h:RX gl gg I)(hS:ba prog gl 49 [.ptr (Ag gg) 0,.agg (aJ (I.o x))] (aE Jc ss)):ba prog gl 48 [.agg (aj x),.ptr [.ptr (Ag gg) 0] 0] (bG (Abk ss.length (I.o x))):=by
 have ho:=h.op x;refine Gh func48 ?_;unfold Abk;cases c:decide ((0:Int)<(ss.length:Int)) with
 |false=>exact Ar [hf 10 ho,hf 15 hS,hr 18 c] []
 |true=>exact Ar [hf 10 ho,hf 15 hS,hr 18 c] []
theorem Acd(h:RX gl gg I){ss:Ab->JX}(hS:∀x,ba prog gl 49 [.ptr (Ag gg) 0,.agg (aJ (I.o x))] (aE Jc (ss x)))(hO:ba prog gl 47 [.ptr (Ag gg) 0,aE aj ids] (aE aj row))(hn:row.length<=1000):ba prog gl 13 [.ptr (Ag gg) 0,aE aj ids] (aE aj (row.filter λx=>Abk (ss x).length (I.o x))):=by have hv:DnV gl 48 [] [.ptr [.ptr (Ag gg) 0] 0] (λx=>Abk (ss x).length (I.o x)):=⟨aH,bf,aY (aG 20 (.ptr [.ptr (Ag gg) 0] 0) aH) bf,λx r e=>by cases e;exact Ag7 h (hS x)⟩;have hF:=Abj hv (l:=row) aa;refine Gh func13 ?_;exact Ar [hf 7 hO,ho 9 [aE aj row,.clo (.func 48) [] [.ptr [.ptr (Ag gg) 0] 0]] [] hF (kF _)] [hc (ac.al (row.filter λx=>Abk (ss x).length (I.o x)))]
end
end
def AgM(k:Int):Bool:=(Fa k).getD false
theorem AeO{k:Int}(h:0<=k/\k<=13):Fa k=some (AgM k)/\ba prog fI 104 [iG k] (bG (AgM k)):=by
 have:k=0\/k=1\/k=2\/k=3\/k=4\/k=5\/k=6\/k=7\/k=8\/k=9\/k=10\/k=11\/k=12\/k=13:=aa;rcases this with rfl|rfl|rfl|rfl|rfl|rfl|rfl|rfl|rfl|rfl|rfl|rfl|rfl|rfl
 all_goals
  refine⟨aH,Gh func104 ?_⟩
  exact Ar [] []
def aah(g:AQ)(o:Bp):Bb:=(qo g o).getD []
def LW(g:AQ)(o:Bp):JX:=bif AgM o.Kind then tpL o.By (aah g o) else[]
theorem AcZ{m:Jq}(P:Pg g m N)(h14:g.L.length<=14){o:Bp}(so:Bg o)(hk:Kn o)(h13:0<=o.Kind/\o.Kind<=13):ba prog fI 49 [.ptr (Ag ⟨g.Cards,m,N⟩) 0,.agg (aJ o)] (aE Jc (LW g o))/\jm g o=some (LW g o)/\Uk o.By (LW g o)/\ba prog fI 27 [.ptr (Ag ⟨g.Cards,m,N⟩) 0,.agg (aJ o)] (aE cZ (aah g o))/\qo g o=some (aah g o)/\(aah g o).length<=2000:=by
 obtain⟨l,hA,e,hl,hn⟩:=Adc P h14 so hk;obtain⟨c1,c2⟩:=AeO h13;have hA':ba prog fI 27 [.ptr (Ag ⟨g.Cards,m,N⟩) 0,.agg (aJ o)] (aE cZ l):=by grind [AH.fo,rZ,Ag,RJ]
 grind [aah,LW,Ada,AeN,jm,cX,JH,AeM,tpL,aae,Ai2]
section
set_option maxHeartbeats 2000000
theorem aaj:fg prog 56=some false:=aH
def SO(g:AQ)(l:Bb)(a:Ba×Int):Option ((Ba×Int)⊕Ba):=
 (bif a.2<ah l then(some (decide (a.2<4)))else(some false)).bind λb=>bif b then((aS l a.2).bind λc=>(iq c (ah g.IDs)).bind λd=>(aS g.IDs d).bind λe=>(aT 24 a.1 [e]).bind λf=>some (.inl (f,wI (a.2+1))))else(some (.inr a.1))
def Ul(g:AQ)(l:Bb):Option Ba:=
 (bif ah l=0 then(some true)else(some (decide (ah g.L=0)))).bind λb=>bif b then((xt g).bind λc=>some c)else((AB (SO g l) ([],0)).bind λd=>(MY g d).bind λa=>some a)
theorem aal{g l}:LK prog gl (Ul g l) 11 [.agg (aI g),aE cZ l] 25 aj:=
 gc func11 λK=>cN 1100 (so [0] [(2,.ref 0 0)] [ob 0 33 (aI g)] 1) []<|cC 1100 (λi=>sf [] [(15,bG i)]) (λi=>eH [15] (ak λp e5=>aw [ho 17 [.agg (aI g)] [] (DK gl e5) (kF p)]<|mr c0 K (ac.imm _))<|rdL 111101 11110122 (λj=>sg [2] [(5,aE aj j)]) (λa=>so [15] [(5,.rsl 1 0 a.1.length),(6,iG a.2)] [ob 1 25 (a.1.flatMap aj)] 2) [hc (ac.imm [])] (vs:=[25]) (ρ:=[(0,0),(1,1)]) (kd:=[(1,.row)]) (λj=>ak λk e16=>aw [ho 45 [.agg (aI g),aE aj j] [] (ua gl e16) (kF k)]<|mr c0 K (ac.imm _)) λa m k9=>cN 1111012200 (sf [] []) [hc (el a.1),hc (ac.imm a.1)] (ρ:=[(0,0),(1,1)]) (kd:=[(1,.row)])<|cC 1111012200 (λb=>sf [] [(25,bG b)]) (λb=>eH [25] (ak λq c=>ak λr n=>ak λs d=>ak λe o=>aw [AA 33 (rZ.ixZ c),AA 34 (rZ.p1Z tZ c),hf 38 (iL gl n),AA 39 (ac.ixZ d),AA 40 (ac.ptZ aW d),dg 42 ac o]<|cj m [hc (el e),hc (ac.imm e)] (ρ:=[(0,0),(1,3)]) (kd:=[(1,.row)]))<|aA c1 k9 [hc (ac.al a.1)]) λb f=>aF 21 (aA c0 f [hc (el a.1),hc (ac.imm a.1)] (ρ:=[(0,0),(1,1)]) (kd:=[(1,.row)]))<|aA c0 f [hc (el a.1),hc (ac.imm a.1)] (ρ:=[(0,0),(1,1)]) (kd:=[(1,.row)])) λi h=>aF 9 (aA c0 h [])<|aA c0 h []
def Nh(g:AQ)(c:Ba)(s3:Ba×Int):Option ((Ba×Int)⊕Ba):=
 bif s3.2<ah c then((aS c s3.2).bind λd=>(fC g d).bind λa=>bif a<0 then(some (.inl (s3.1,wI (s3.2+1))))else((aS g.L a).bind λe=>(jm g e).bind λb=>(bif 0<ah b then((aS g.L a).bind λf=>some (decide (ah b=ah f.Path)))else(some false)).bind λh=>bif h then((aS c s3.2).bind λi=>(aT 24 s3.1 [i]).bind λj=>some (.inl (j,wI (s3.2+1))))else(some (.inl (s3.1,wI (s3.2+1))))))else(some (.inr s3.1))
def Sb(g:AQ)(ids:Ba):Option Ba:=
 (n8 g ids).bind λa=>(AB (Nh g a) ([],0)).bind λb=>some b
theorem Yb{g ids}:LK prog gl (Sb g ids) 14 [.agg (aI g),aE aj ids] 25 aj:=
 gc func14 λK=>ak λo e2=>aw [hf 12 (ac.fo (G7 gl e2))]<|rdL 111101 11110122 (λi=>sp [] [(6,.rsl 0 0 i.length)] [ob 0 25 (i.flatMap aj)] 1) (λs3=>sp [] [(2,.ref 0 0),(5,aE aj o),(6,.rsl 1 0 s3.1.length),(7,iG s3.2)] [ob 0 33 (aI g),ob 1 25 (s3.1.flatMap aj)] 2) [hc (ac.imm [])] (vs:=[25]) (ρ:=[(0,0),(1,1)]) (kd:=[(1,.row)]) (λi=>mr c0 K (ac.imm _)) λs3 j k6=>aF 16 (ak λp b=>ak λk e16=>aw [AA 22 (ac.ixZ b),AA 23 (ac.ptZ aW b),hf 24 (dX gl e16)]<|aF 26 (cj j [hc (el s3.1),hc (ac.imm s3.1)] (ρ:=[(0,0),(1,1)]) (kd:=[(1,.row)]))<|ak λq c=>ak λl m=>aw [AA 31 (eJ.ixZ c),AA 32 (eJ.ptZ GN c),hf 33 (nH.fo (E6 gl m))]<|cN 111101221021110 (sf [] [(8,iG k),(9,iG (ah l))]) [hc (el s3.1),hc (ac.imm s3.1)] (ρ:=[(0,0),(1,1)]) (kd:=[(1,.row)])<|cC 111101221021110 (λa=>sf [8,9] [(47,bG a)]) (λa=>eH [47] (ak λr d=>ak λe n=>aw [AA 51 (ac.ixZ d),AA 52 (ac.ptZ aW d),dg 54 ac n]<|cj j [hc (el e),hc (ac.imm e)] (ρ:=[(0,0),(1,3)]) (kd:=[(1,.row)]))<|cj j [hc (el s3.1),hc (ac.imm s3.1)] (ρ:=[(0,0),(1,1)]) (kd:=[(1,.row)])) λa f=>aF 36 (ak λs h=>aw [AA 42 (eJ.ixZ h),AA 44 (eJ.fdZ aaj 9 h)]<|aA c0 f [hc (el s3.1),hc (ac.imm s3.1)] (ρ:=[(0,0),(1,1)]) (kd:=[(1,.row)]))<|aA c0 f [hc (el s3.1),hc (ac.imm s3.1)] (ρ:=[(0,0),(1,1)]) (kd:=[(1,.row)]))<|aA c1 k6 [hc (el s3.1),hc (ac.imm s3.1)] (ρ:=[(0,1)]) (kd:=[(0,.row)])
def Oo(g:AQ)(commit:Ab):Option JX:=
 (fC g commit).bind λa=>bif a<0 then(some [])else((aS g.L a).bind λb=>(jm g b).bind λc=>some c)
theorem Ab4{g commit}:LK prog gl (Oo g commit) 17 [.agg (aI g),.agg (aj commit)] 22 Jc:=
 gc func17 λK=>ak λb e2=>aw [hf 8 (dX gl e2)]<|aF 10 (mr c0 K (nH.imm _))<|ak λd e5=>ak λa e7=>aw [AA 15 (eJ.ixZ e5),AA 16 (eJ.ptZ GN e5),hz 17 [] (Qh (c:=2) aH (E6 gl e7) (eB aH) (nH.imm a))]<|mr c0 K (nH.imm _)
end
theorem AeP{g:AQ}(w:Fs g)(hnd:g.IDs.Nodup)(hi:∀x∈l,c8 x):T (Ul g l) λv=>GL g v/\v.Nodup:=by
 have nL:=w.nL;have nI:=w.nI;unfold Ul;refine .bind (T.mono (Q:=λb:Bool=>b=false->0<g.L.length) (by grind [T.some,ah]) λb hb=> .ite (λ_=> .bind (by grind [T.mono,Cz,T.some,GL,List.Perm.length_eq])) λh=>?_);have hp:=hb h;refine .bind (T.mono (T.loop (Q:=λr:Ba=>r.length<=10) (λs=>0<=s.2/\s.2<=4/\(s.1.length:Int)<=s.2) (λs=>(5-s.2).toNat) (by grind) (by grind) ?_) λv hv=> .bind (by grind [T.mono,yf,T.some]));rintro⟨a,i⟩ ⟨c,i1,d⟩;simp only at c i1 d;unfold SO;refine .bind (T.mono (Q:=λb:Bool=>b=true->i<l.length/\i<4) (.dec (λh1=> .some λe=>⟨h1,DR e⟩) (by grind [T.some])) λb hb=> .ite (λe=>?_) λ_=> .some (show a.length<=10 by omega));obtain⟨b1,b2⟩:=hb e;have hw:wI (i+1)=i+1:=by grind [bM]
 refine .bind (.ixl c b1 λy _ hy=> .bind ((eX (hi y hy) (by unfold ah;omega)).mono λv hv=> .bind (.ixl hv.1 hv.2 λz _ _=> .bind (.app (by grind) (.some ⟨(by grind),?_⟩)))));all_goals grind
section
variable {g:AQ} {m:Jq} {N:Ja} (P:Pg g m N) (h14:g.L.length<=14) (hkn:∀(k:Nat) (o:Bp),g.L[k]?=some o->Kn o)
include P h14 hkn
theorem Ac0(x:Ab):ba prog fI 49 [.ptr (Ag ⟨g.Cards,m,N⟩) 0,.agg (aJ ((Cd g m N).o x))] (aE Jc (LW g ((Cd g m N).o x)))/\Uk x.By (LW g ((Cd g m N).o x))/\(x∉g.IDs->LW g ((Cd g m N).o x)=[])/\Oo g x=some (LW g ((Cd g m N).o x)):=by
 have w:=P.w;have nI:=w.nI;have nL:=w.nL;by_cases hx:x∈g.IDs
 .obtain⟨i,o,e1,e2,e3,_,so,a⟩:=w.place (lj.2 hx);obtain⟨h1,h2,h3,_⟩:=AcZ P h14 so (hkn i o e3) (by have:=a.kind;omega);rw[(P.op e3 e2).2];rw[<-(NP so (w.ids i o x e3 e2)).1] at h3;refine⟨h1,h3,λh=>absurd hx h,?_⟩;unfold Oo;rw[dC aa,aL,e1,show decide ((i:Int)<0)=false from C6 aa,A9,au,e3,aL,h2];rfl
 .have e:(Cd g m N).o x=ip:=by unfold Gi.o;rw[Af5 w P.p,jv.2 hx];rfl
  have hp:gO g x<0:=Int.not_le.1 λh=>hx (lj.1 h);have e2:LW g ip=[]:=rfl;rw[e,e2];refine⟨Ada (b:=false) (l:=[]) (ss:=[]) (AeO (k:=0) B5).2 (λh=>by cases h) (λh=>by cases h),aae,λ_=>rfl,?_⟩;unfold Oo;rw[dC aa,aL,C3 hp,ax]
theorem AeQ(x:Ab):ba prog fI 16 [.ptr (Ag ⟨g.Cards,m,N⟩) 0,.agg (aj x)] (aE Jc (LW g ((Cd g m N).o x))):=by
 obtain⟨h1,_,h2,_⟩:=Ac0 P h14 hkn x;have h:=Afc (Abh (Y4 P.w P.p)) h1;by_cases hx:x∈g.IDs
 .obtain⟨i,o,_,e2,e3,_⟩:=P.w.place (lj.2 hx);rw[show((Cd g m N).op x).isSome=true by rw[(P.op e3 e2).1];rfl] at h;exact h
 .rw[show((Cd g m N).op x).isSome=false by rw[Af5 P.w P.p,jv.2 hx];rfl] at h;rw[h2 hx];exact h
include P h14 hkn
def Wq(g:AQ)(I:Gi)(x:Ab):Bool:=Abk (LW g (I.o x)).length (I.o x)
theorem Aa8{v:Ba}(hv:GL g v)(a:v.Nodup):∃row:Ba,ba prog fI 13 [.ptr (Ag ⟨g.Cards,m,N⟩) 0,aE aj v] (aE aj (row.filter (Wq g (Cd g m N))))/\Sb g v=some (row.filter (Wq g (Cd g m N)))/\row.Perm v/\(row.Pairwise λx y=>Nk (Cd g m N) x y<0)/\row.length<=14:=by
 have w:=P.w;have nI:=w.nI;have hI:=Abh (Y4 w P.p);have hv14:v.length<=14:=by have:=EC a hv.sub;omega
 obtain⟨row,j,b,f⟩:=UH w P.p aa a hv.sub;have hrl:row.length<=14:=by rw[b.length_eq];exact hv14
 have hO:ba prog fI 47 [.ptr (Ag ⟨g.Cards,m,N⟩) 0,aE aj v] (aE aj row):=by obtain⟨r,e,l,q⟩:=Ss (UF (Cd g m N)) a hv14;have:r=row:=T0 (UF (Cd g m N)).tr PE (l.trans b.symm) q f;grind [XM,Y4,Pg.p,List.Perm.length_eq]
 refine⟨row,Acd hI (by grind [Ac0]) hO aa,?_,b,f,hrl⟩;unfold Sb;rw[j,aL];refine T.eq (.bind (T.mono (T.forA (Q:=λr:Ba=>r=row.filter (Wq g (Cd g m N))) row.length (λk acc=>acc=(row.take k).filter (Wq g (Cd g m N))) aa aC (λk acc hk hj=>?_) λacc hj=>?_) λ_ h=> .some h))
 .obtain⟨x,hx⟩:∃x,row[k]?=some x:=by simp_all
  obtain⟨i,o,e1,e2,e3,_,so,s⟩:=w.place (lj.2 (hv.sub x (b.mem_iff.1 (bO hx))));obtain⟨_,hS,hl,_⟩:=AcZ P h14 so (hkn i o e3) (by grind [Fp]);have hl:=hl.n;have ha:acc.length<=14:=by grind
  unfold Nh;dsimp only;rw[eA hk,ax,au,hx,aL,dC aa,aL,e1,show decide ((i:Int)<0)=false from(by simp_all),A9,au,e3,aL,hS,aL];have hc:(bif 0<ah (LW g o)then(((some o:Option Bp)).bind λd=>some (decide (ah (LW g o)=ah d.Path)))else(some false))=some (Wq g (Cd g m N) x):=by unfold Wq;rw[(P.op e3 e2).2];grind [Abk,ah]
  rw[hc,aL,JI,hx,Option.toList_some,Re];cases c:Wq g (Cd g m N) x with
  |true=>rw[ax,aL,show List.filter (Wq g (Cd g m N)) [x]=[x] by simp[c]];exact .bind (.app (by grind) (.some ⟨aq aa,by rw[hj]⟩))
  |false=>rw[A9,show List.filter (Wq g (Cd g m N)) [x]=[] by simp[c],KY];exact .some ⟨aq aa,hj⟩
 .unfold Nh;dsimp only;rw[eF,A9];exact .some (show acc=_ by grind)
end
section
variable {gl:CM}
end
structure G9 where
 Set:Bb
 Pub:Nat
 By:Ab
 N:Int
def DP(x:G9):Bk:=[aE cZ x.Set,uG x.Pub,iG x.By.By,iG x.By.Seq,uG x.By.Sum,iG x.N]
def DD:G9:=⟨[],0,⟨0,0,0⟩,0⟩
def Ni(set:Bb)(d:Int):Bool:=decide (d∈set)
def RG(cs:Ba)(set:Bb):Ba:=cs.filter λx=>Ni set x.By
def Sc(b a:Bb):Bool:=bif (a.length:Int)=(b.length:Int)then !(a.any λd=> !Ni b d)else false
def aao(I:Gi)(x y:Ab):Bool:=bif !decide (y=x)then !I.bef y x else false
def aas(I:Gi)(x:Ab)(n:Nat):Nat:=(((I.o x).Path[n]?).getD ⟨0,[]⟩).Pub
def JD(I:Gi)(ss:Ab->JX)(cs:Ba)(set:Bb):Option G9:=match(RG cs set).getLast? with
 |none=>match set with
  |[d]=>(I.card d).map λc=>⟨[d],c.Lead,⟨0,0,0⟩,0⟩
  |_=>none
 |some x=>if set.length=1 then some ⟨set,aas I x 0,x,0⟩else if(RG cs set).any (aao I x)=true then none else match(ss x).findIdx? (Sc set) with
  |none=>none
  |some n=>some ⟨set,aas I x n,x,(n:Int)⟩
theorem AmW{s:List α}{f:α->Fo}{p:α->Bool}(hn:s.length<2305843009213693952)(hf:∀x∈s,f x=some (p x)):UK s f=some (match s.findIdx? p with|some j=>(j:Int)|none=> -1):=by
 obtain⟨r,h1,h2⟩:=Ahj (s:=s) p hn (step:=Hz s f) (by grind [Hz,Dl,Be]) (by grind [Hz,Ef]);unfold UK;rw[h1];rcases h2 with⟨rfl,h2⟩|⟨j,rfl,_,h2⟩
 .rw[show s.findIdx? p=none from(by grind)];rfl
 .rw[h2];rfl
section
variable {gl:CM}
theorem O4:Aa1 prog gl Jc (λx=>[aE cZ x]) 120:=λs f fi_f fa_f fc_f a=>
 cy func120 λK=>Nw 1101 (λg=>sg [] []) (λs1=>sf [] [(7,iG (ah s)),(8,iG s1)]) [hc (a.im)] K (λg=>rv K) λs1 k5 h k6=>aF 9 (CA 14 nH.ixZ 15 (nH.p1Y Vs) λd=>ak λi e=>kV (λb=>aw [hz 16 [] (cS (a.cs (c:=0) e (aY (aG 20 (aE cZ d) aH) (bf))) b)]<|aP c3 k6 []) λb=>aw [hz 16 [] (cS (a.cs (c:=0) e (aY (aG 20 (aE cZ d) aH) (bf))) b)]<|cj k5 [hc (a.im)])<|aA c2 h []
theorem Aig{set:Bb}(hs:set.length<=1000000)(d:Int):ba prog gl 77 [aE cZ set,iG d] (bG (Ni set d)):=Dq gl (by grind [Td,Ni])
theorem AeS{b:Bb}(ha:a.length<=1000000)(hb:b.length<=1000000):ba prog gl 122 [aE cZ a,aE cZ b] (bG (Sc b a)):=by
 have h1:∀d,ba prog gl 215 [iG d,.ptr [aE cZ b] 0] (bG (!Ni b d)):=λd=>by refine Gh func215 ?_;exact Ar [hf 6 (Aig (gl:=gl) hb d)] []
 have h2:=ml gl (fi_f:=215) (fa_f:=[]) (fc_f:=[.ptr [aE cZ b] 0]) (f:=λd=>some (!Ni b d)) ⟨aH,bf,aY (aG 20 (.ptr [aE cZ b] 0) aH) bf,λf r e=>by cases e;exact h1 f⟩ (Abs (s:=a) aa λ_ _=>rfl);refine Gh func122 ?_;unfold Sc;cases c:decide ((a.length:Int)=(b.length:Int)) with
 |false=>exact Ar [hr 9 c] []
 |true=>exact Ar [hr 9 c,hq 13 [aE cZ a,.clo (.func 215) [] [.ptr [aE cZ b] 0]] [] h2] []
section
variable {gg:Aj} {I:Gi} (hI:RX gl gg I) {ss:Ab->JX} (hS:∀x,ba prog gl 16 [.ptr (Ag gg) 0,.agg (aj x)] (aE Jc (ss x))) {cs:Ba} {set:Bb} (hn:cs.length<=1000) (hl:set.length<=1000000) (hp:∀x∈cs,0<(ss x).length/\(ss x).length=(I.o x).Path.length/\(ss x).length<=3000/\∀s∈ss x,s.length<=3000)
include hI hS hn hl hp
theorem AeT:∃s,ba prog gl 57 [.ptr (Ag gg) 0,aE aj cs,aE cZ set] (.tup [.agg (DP s),bG (JD I ss cs set).isSome])/\∀q,JD I ss cs set=some q->s=q:=by
 have h1:∀x,ba prog gl 116 [.agg (aj x),.ptr [aE cZ set] 0] (bG (Ni set x.By)):=λx=>by refine Gh func116 ?_;exact Ar [hf 7 (Aig (gl:=gl) hl x.By)] []
 have hF:iV prog gl 46 [aE aj cs,.clo (.func 116) [] [.ptr [aE cZ set] 0]] 25 (RG cs set).length ((RG cs set).flatMap aj):=Abj ⟨aH,bf,aY (aG 20 (.ptr [aE cZ set] 0) aH) bf,(by grind)⟩ aa;have hK:∀l:Bb,l.length<=1000000->ba prog gl 117 [aE cZ l] (aE cZ l):=λl hl=>rZ.fo (uK gl (T.eq (.app (by grind) rfl)));have hm:∀x∈RG cs set,x∈cs/\Ni set x.By=true:=λx hx=>HC.1 hx;have hol:(RG cs set).length<=1000:=MG (Np ..) hn;unfold JD;generalize RG cs set=own at hF hm hol⊢;rcases List.eq_nil_or_concat own with rfl|⟨q,x,rfl⟩
 .match set with
  |[]=>exact⟨DD,Gh func57 (Ar [ho 17 [aE aj cs,.clo (.func 116) [] [.ptr [aE cZ []] 0]] [] hF (kF _)] []),(by grind)⟩
  |[d]=>
   refine⟨⟨[d],((I.card d).getD TC).Lead,⟨0,0,0⟩,0⟩,?_,λq e=>?_⟩
   .have e:((I.card d).map λc=>(⟨[d],c.Lead,⟨0,0,0⟩,0⟩:G9)).isSome=(I.card d).isSome:=by grind
    show ba _ _ _ _ (.tup [.agg (DP _),bG ((I.card d).map λc=>(⟨[d],c.Lead,⟨0,0,0⟩,0⟩:G9)).isSome]);rw[e];refine Gh func57 ?_;exact Ar [ho 17 [aE aj cs,.clo (.func 116) [] [.ptr [aE cZ [d]] 0]] [] hF (kF _),hf 40 (hI.card d),hf 44 (hK [d] aC)] []
   .cases h:I.card d<;>grind
  |a::b::r=>exact⟨DD,Gh func57 (Ar [ho 17 [aE aj cs,.clo (.func 116) [] [.ptr [aE cZ (a::b::r)] 0]] [] hF (kF _),hr 20 (show decide (((a::b::r).length:Int)=0)=false from C6 cq),hr 24 (show decide ((1:Int)<((a::b::r).length:Int))=true from C3 cq)] []),λq e=>by cases e⟩
 .rw[List.concat_eq_append] at*;obtain⟨hx,hi⟩:=hm x aC;obtain⟨p1,p2,g,i⟩:=hp x hx;have hs:0<set.length:=by
   cases set with
   |nil=>exact absurd (DR hi) (Ll)
   |cons a r=>simp
  have ex:aS (q++[x]) (q.length:Int)=some x:=Be aC;have e52:lD .sub (iG (((q++[x]).length:Nat):Int)) (iG 1)=some (iG (q.length:Int)):=by rw[Rf] at hol⊢;grind [dec]
  have ep:∀n,n<(ss x).length->∃y:E5,aS (I.o x).Path (n:Int)=some y/\aas I x n=y.Pub:=λn h=>by
   obtain⟨y,hy⟩:∃y,(I.o x).Path[n]?=some y:=by simp_all
   grind [Be,aas]
  have st:∀s b,Gp prog Tryz.f57 (tH prog Tryz.f57 (.tup [.agg (DP s),bG b])) [] false [1,1,1,1,1,0] (s0 87 gl [(3,.ptr [.ptr (Ag gg) 0] 0),(5,.ptr [aE cZ set] 0),(6,.ref 0 0),(8,aE aj (q++[x])),(11,.ptr (aj x) 0)] [ob 0 48 (bF [0] (DP DD))] 1 0)->ba prog gl 57 [.ptr (Ag gg) 0,aE aj cs,aE cZ set] (.tup [.agg (DP s),bG b]):=λs b h=>by
   refine Gh func57 ?_;have hA:=ho 17 [aE aj cs,.clo (.func 116) [] [.ptr [aE cZ set] 0]] [] hF (kF _);have e1:decide ((set.length:Int)=0)=false:=C6 aa;have e2:decide (((q++[x]).length:Int)=0)=false:=by grind
   cases hb:decide ((1:Int)<(set.length:Int))<;>exact pO 1111110 _ [ho 17 [aE aj cs,.clo (.func 116) [] [.ptr [aE cZ set] 0]] [] hF (kF _),hr 20 e1,hr 24 hb,hr 28 e2,hr 34 e2,hbb 52 e52,AA 53 (ac.ixrZ 3 ex),AA 54 (ac.pt0Z aW ex)] [hc (eB (gs:=[.ptr (Ag gg) 0]) aH),hc (eB (gs:=[aE cZ set]) aH),hc (ac.al (q++[x])),hc (eB (gs:=aj x) aH)] h [] [(0,2)]
  have ho:=hI.op x;have h2:∀y,ba prog gl 119 [.agg (aj y),.ptr (aj x) 0,.ptr [.ptr (Ag gg) 0] 0] (bG (aao I x y)):=λy=>by
   refine Gh func119 ?_;have hb:=hI.bef y x;unfold aao;cases c:decide (y=x) with
   |false=>exact Ar [hV 7 (dy y x (r:=true) (by rw[c];rfl)),hf 12 hb] []
   |true=>exact Ar [hV 7 (dy y x (r:=false) (by rw[c];rfl))] []
  have h3:=kP gl (fi_f:=119) (fa_f:=[]) (fc_f:=[.ptr (aj x) 0,.ptr [.ptr (Ag gg) 0] 0]) (f:=λy=>some (aao I x y)) ⟨aH,bf,aY (aG 20 (.ptr (aj x) 0) aH) (aY (aG 20 (.ptr [.ptr (Ag gg) 0] 0) aH) bf),λy r e=>by cases e;exact h2 y⟩ (Abs (s:=q++[x]) aa λ_ _=>rfl);have h4:∀s,s.length<=1000000->ba prog gl 121 [aE cZ s,.ptr [aE cZ set] 0] (bG (Sc set s)):=λs hs=>by refine Gh func121 ?_;exact Ar [hf 6 (AeS (gl:=gl) hs hl)] []
  have h5:=O4 (gl:=gl) (fi_f:=121) (fa_f:=[]) (fc_f:=[.ptr [aE cZ set] 0]) (f:=λs=>if s.length<=1000000 then some (Sc set s)else none) ⟨aH,bf,aY (aG 20 (.ptr [aE cZ set] 0) aH) bf,(by grind)⟩ (AmW (s:=ss x) (p:=Sc set) aa (by grind));have hk:=hK set hl;have hS:=hS x;rw[show(q++[x]).getLast?=some x by simp];dsimp only;by_cases hb:set.length=1
  .rw[Bu hb];obtain⟨y,hy,hp⟩:=ep 0 p1;rw[hp];refine⟨⟨set,y.Pub,x,0⟩,st _ _ ?_,(by grind)⟩;exact Ar [hr 57 (show decide ((1:Int)<(set.length:Int))=false from C6 aa),hf 73 ho,hf 77 hk,AA 81 (bZ.ixZ hy),AA 83 (bZ.fdZ tW 0 hy)] []
  .rw[Bt hb];have hb:decide ((1:Int)<(set.length:Int))=true:=C3 aa;generalize (q++[x]).any (aao I x)=t at h3⊢;cases t with
   |true=>rw[Bu rfl];exact⟨DD,st _ _ (Ar [hr 57 hb,hf 60 h3] []),(by grind)⟩
   |false=>
    rw[Bt aC];cases hd:(ss x).findIdx? (Sc set) with
    |none=>rw[hd] at h5;exact⟨DD,st _ _ (Ar [hr 57 hb,hf 60 h3,hf 64 hS,hf 66 h5] []),(by grind)⟩
    |some n=>rw[hd] at h5;obtain⟨y,hy,hp⟩:=ep n (by grind [List.findIdx?_eq_some_iff_getElem]);dsimp only;rw[hp];refine⟨⟨set,y.Pub,x,(n:Int)⟩,st _ _ ?_,(by grind)⟩;exact Ar [hr 57 hb,hf 60 h3,hf 64 hS,hf 66 h5,hr 68 (show decide ((n:Int)<0)=false from C6 aa),hf 73 ho,hf 77 hk,AA 81 (bZ.ixZ hy),AA 83 (bZ.fdZ tW 0 hy)] []
theorem Ai3(a:ba prog gl 13 [.ptr (Ag gg) 0,aE aj ids] (aE aj cs)):ba prog gl 21 [.ptr (Ag gg) 0,aE aj ids,aE cZ set] (.tup [.agg (DP ((JD I ss cs set).getD DD)),bG (JD I ss cs set).isSome]):=by
 obtain⟨s,h1,h2⟩:=AeT hI hS hn hl hp;refine Gh func21 ?_;cases e:JD I ss cs set with
 |none=>rw[e] at h1;exact Ar [hf 14 a,hf 16 h1] []
 |some q=>rw[e] at h1;rw[h2 q e] at h1;exact Ar [hf 14 a,hf 16 h1] []
end
end
theorem AgP{N:Ja}{u:Bb}{j:Int}(h:j∈u):lvN N j<lvF N u:=by
 have key:∀(u:Bb) (a:Int),a<=u.foldl (λa j=>E0 a (lvN N j+1)) a/\∀j∈u,lvN N j+1<=u.foldl (λa j=>E0 a (lvN N j+1)) a:=by intro u;induction u<;>grind [E0]
 have:=(key u 1).2 j h;unfold lvF;omega
section
variable {g:AQ} {m:Jq} {N:Ja} (P:Pg g m N)
include P
theorem AeU:∀(d i k:Nat) {y z:CY},i-k<=d->Rh g i k=true->N[i]?=some y->N[k]?=some z->z.level<y.level
 |0,i,k,y,z,hd,h,_,_=>absurd (P.w.inlt i k h).1 aa
 |d+1,i,k,y,z,hd,h,hy,hz=>by
  have w:=P.w;have one:∀{i:Nat} {u:Bb} {y:CY},N[i]?=some y->g.Up[i]?=some u->(k:Int)∈u->z.level<y.level:=λ{i u y} h1 h2 h3=>by rw[P.p.lv i y u h1 h2];have:=AgP (N:=N) h3;grind [lvN]
  obtain⟨u,hu,h1|⟨j,v,h1,h2,h3⟩⟩:=w.la i k h
  .grind
  .have hj:=(w.inlt i j h1);obtain⟨q,hq⟩:∃q,N[j]?=some q:=by grind
   have hk:=(w.up j v h2).2 _ h3;exact Int.lt_trans (one hq h2 h3) (AeU d i j aa h1 hy hq)
theorem AgQ{y:Ab}(h:(Cd g m N).bef x y=true):Nk (Cd g m N) x y<0:=by
 rw[AcB P.w P.p] at h;split at h
 .rename_i i j hi hj;obtain⟨hi,_⟩:=gb hi;obtain⟨hj,_⟩:=gb hj;obtain⟨a,a1,a2,_⟩:=Ww P.w P.p hi;obtain⟨b,b1,b2,_⟩:=Ww P.w P.p hj;have:=AeU P _ _ _ (Dx _) h b1 a1;exact S8.2 (by grind)
 .cases h
end
section
variable {g:AQ} {m:Jq} {N:Ja} (P:Pg g m N) (h14:g.L.length<=14) (hkn:∀(k:Nat) (o:Bp),g.L[k]?=some o->Kn o)
include P h14
theorem Ai4:∃al,ba prog fI 24 [.ptr (Ag ⟨g.Cards,m,N⟩) 0] (aE aj al)/\al.Perm g.IDs/\GL g al/\al.Nodup:=by
 have w:=P.w;have nI:=w.nI;have pl:=P.p.len;have e:Vn (λ_=>true) N=g.IDs:=by
  refine List.ext_getElem? λi=>?_;unfold Vn;rw[List.filter_eq_self.2 aC,M7,List.getElem?_zipIdx];cases h:N[i]? with
  |none=>rw[List.getElem?_eq_none_iff] at h;exact(List.getElem?_eq_none aa).symm
  |some y=>exact(P.p.nd i y h).2.1.symm
 obtain⟨r,h1,h2,_⟩:=Ss PO (l:=g.IDs) w.nd aa;refine⟨r,AgV (gg:=⟨g.Cards,m,N⟩) (by show N.length<=14;omega) (by show O6 GR (Vn _ N)=_;rw[e];exact h1) (by show r.length=(Vn _ N).length;rw[e];exact h2.length_eq),h2,⟨λx hx=>h2.mem_iff.1 hx,by rw[h2.length_eq];omega⟩,h2.nodup_iff.2 w.nd⟩
include hkn
theorem aat(h:Wq g (Cd g m N) x=true):∃(i:Nat) (o:Bp),g.IDs[i]?=some x/\g.L[i]?=some o/\(Cd g m N).o x=o/\(Cd g m N).op x=some o/\0<(LW g o).length/\(LW g o).length=o.Path.length/\Uk x.By (LW g o)/\LW g o=tpL o.By (aah g o)/\x.By=o.By/\Bg o/\Fp o:=by
 obtain⟨_,h2,h3,_⟩:=Ac0 P h14 hkn x;unfold Wq Abk at h;have hp:0<(LW g ((Cd g m N).o x)).length:=by
  cases c:decide ((0:Int)<((LW g ((Cd g m N).o x)).length:Int)) with
  |true=>have:=DR c;omega
  |false=>rw[c] at h;cases h
 have hx:x∈g.IDs:=by
  by_cases hx:x∈g.IDs
  .exact hx
  .rw[h3 hx] at hp;cases hp
 obtain⟨i,o,_,e2,e3,_,so,d⟩:=P.w.place (lj.2 hx);obtain⟨b,a⟩:=P.op e3 e2;rw[a] at h h2 hp;rw[C3 aa,ax] at h;refine⟨i,o,e2,e3,a,b,hp,by have:=DR h;unfold ah at this;omega,h2,?_,(NP so (P.w.ids i o x e3 e2)).1,so,d⟩;unfold LW at hp⊢;cases c:AgM o.Kind with
 |true=>rfl
 |false=>rw[c] at hp;cases hp
theorem Ac2(hr:row.length<=14)(a:ba prog fI 13 [.ptr (Ag ⟨g.Cards,m,N⟩) 0,aE aj ids] (aE aj (row.filter (Wq g (Cd g m N))))){set:Bb}(hl:set.length<=1000000):ba prog fI 21 [.ptr (Ag ⟨g.Cards,m,N⟩) 0,aE aj ids,aE cZ set] (.tup [.agg (DP ((JD (Cd g m N) (λx=>LW g ((Cd g m N).o x)) (row.filter (Wq g (Cd g m N))) set).getD DD)),bG (JD (Cd g m N) (λx=>LW g ((Cd g m N).o x)) (row.filter (Wq g (Cd g m N))) set).isSome]):=
 Ai3 (Abh (Y4 P.w P.p)) (λx=>AeQ P h14 hkn x) (MG (Np ..) aa) hl (λx hx=>by obtain⟨i,o,_,_,e,_,h1,h2,h3,_⟩:=aat P h14 hkn (HC.1 hx).2;rw[e];exact⟨h1,h2,h3.n,λs hs=>(h3.m s hs).2.1⟩) a
end
theorem AgR(hl:l.length<=9223372036854775807)(hi:∀x∈l,c8 x):∃(r:AQ) (m:Jq) (N:Ja),Pg r m N/\r.L.length<=14/\(∀(k:Nat) (o:Bp),r.L[k]?=some o->Kn o)/\Lz g0 r/\r.Cards=u7/\jg prog fI 10 [aE cZ l] [] 0 (.tup [.ref 0 0,.agg (aI r)]) [(0,oG r.Cards N.length 2),(1,oM m),(2,zQ N)] 3:=by
 obtain⟨r,b,N,c,hM⟩:=Xe hl hi;have a:=Ui c hM;have pl:=hM.pg.len;have eN:oN3 N r.L.length=zQ N:=by grind
 rw[eN,<-pl] at a;exact⟨r,b N.length,N,by rw[pl];exact Ak9 hM,hM.n14,λk o h=>(Ala hM h).2,hM.gr,hM.gC,a⟩
def LX(l:Bb)(s1:Bb×Int):Option ((Bb×Int)⊕Bb):=
 (bif s1.2<ah l then(some (decide (s1.2<6)))else(some false)).bind λb=>bif b then((aS l s1.2).bind λc=>(iq c 7).bind λa=>(fb s1.1 (wI (1+a))).bind λd=>bif(!d)then((aT 8 s1.1 ([wI (1+a)]:Bb)).bind λe=>some (.inl (e,wI (s1.2+1))))else(some (.inl (s1.1,wI (s1.2+1)))))else(some (.inr s1.1))
def Lw(l:Bb):Option Bb:=
 (AB (LX l) ([],0)).bind λa=>some a
theorem Sd{l}:LK prog gl (Lw l) 20 [aE cZ l] 3 cZ:=
 gc func20 λK=>HU 11101 (λc=>sp [] [(3,.rsl 0 0 c.length)] [ob 0 3 (c.flatMap cZ)] 1) (λs1=>so [] [(3,.rsl 0 0 s1.1.length),(4,iG s1.2)] [ob 0 3 (s1.1.flatMap cZ)] 1) [hc (rZ.imm [])] (vs:=[3]) (ρ:=[(0,0)]) (kd:=[(0,.row)]) (λc=>mr c0 K (rZ.imm _)) λs1 k5 g=>Nv 111012200 (sf [] []) (DF rZ s1.1) 13 (ak λh a=>BA 20 (iL gl) λd=>ak λi e=>aw [AA 18 (rZ.ixZ a),AA 19 (rZ.p1Z tZ a),hq 24 [aE cZ s1.1,iG (wI (1+d))] [hc (rZ.al s1.1)] (C7 gl e)]<|aF 25 (Ge (dg 29 rZ) λf=>cj k5 (DF rZ f) (ρ:=[(0,2)]) (kd:=[(0,.row)]))<|cj k5 (DF rZ s1.1) (ρ:=[(0,0)]) (kd:=[(0,.row)])) (aA c1 g (DF rZ s1.1) (ρ:=[(0,0)]) (kd:=[(0,.row)])) (ρ:=[(0,0)]) (kd:=[(0,.row)]) λb=>aF 9 (aA c0 b (DF rZ s1.1) (ρ:=[(0,0)]) (kd:=[(0,.row)]))<|aA c0 b (DF rZ s1.1) (ρ:=[(0,0)]) (kd:=[(0,.row)])
theorem Ai6(hi:∀x∈l,c8 x):T (Lw l) λv=>v.length<=6:=by
 unfold Lw;refine .bind (T.mono (T.loop (Q:=λr:Bb=>r.length<=6) (λs=>0<=s.2/\s.2<=6/\(s.1.length:Int)<=s.2) (λs=>(7-s.2).toNat) ⟨aC,aC,aC⟩ (by show(7-(0:Int)).toNat<_;omega) ?_) λv hv=> .some hv);rintro⟨a,i⟩ ⟨c,i1,d⟩;simp only at c i1 d;unfold LX;refine .bind (T.mono (Q:=λb:Bool=>b=true->i<l.length/\i<6) (.dec (λh1=> .some λe=>⟨h1,DR e⟩) λ_=> .some λe=>by cases e) λb hb=> .ite (λe=>?_) λ_=> .some (show a.length<=6 by omega));obtain⟨b1,b2⟩:=hb e;have hw:wI (i+1)=i+1:=bM aa aa;refine .bind (.ixl c b1 λy _ hy=> .bind ((eX (hi y hy) aa).mono λv hv=> .bind (.of (cX (show a.length<=1000000 by omega) _) (.ite (λ_=> .bind (.app (by simp only[List.length_singleton];omega) (.some ⟨⟨?_,?_,?_⟩,?_⟩))) λ_=> .some ⟨⟨?_,?_,?_⟩,?_⟩))));all_goals first
  |(show 0<=wI (i+1);omega)
  |(show wI (i+1)<=6;omega)
  |(show((a++[_]).length:Int)<=wI (i+1);rw[Rf,List.length_singleton];omega)
  |(show(a.length:Int)<=wI (i+1);omega)
  |(show(7-wI (i+1)).toNat<(7-i).toNat;omega)
theorem BG:AH prog 53 48 6 DP:=⟨aH,aH,B5,λ_=>rfl,λ_=>rfl⟩
theorem AeX{ss:Ab->JX}{s:Bb}{q:G9}(h:JD I ss cs s=some q):q.Set=s:=by
 unfold JD at h;split at h
 .split at h
  .obtain⟨c,_,rfl⟩:=DL.1 h;rfl
  .cases h
 .split at h
  .cases h;rfl
  .split at h
   .cases h
   .split at h<;>cases h;rfl
section
set_option maxHeartbeats 2000000
def Qn(g:AQ)(a:Ab)(b:Ab):Fo:=
 (fC g a).bind λe=>(fC g b).bind λf=>(bif 0<=e then(bif 0<=f then((aS g.In (E0 f 0)).bind λc=>(aS c (E0 e 0)).bind λd=>some d)else(some false))else(some false)).bind λh=>some h
theorem aaE{g a b}:DG prog gl (Qn g a b) 59 [.agg (aI g),.agg (aj a),.agg (aj b)] bG:=
 cy func59 λK=>BA 11 (dX gl) λh=>BA 14 (dX gl) λi=>cN 11110 (sp [] [(3,.ref 0 0),(7,iG h),(8,iG i)] [ob 0 33 (aI g)] 1) []<|cC 11110 (λe=>sk [] [(6,bG e)] [] 0) (λe=>rv K) λe f=>aF 16 (aF 20 (ak λj c=>ak λk d=>aw [AA 26 (zV.ixZ c),AA 27 (zV.p1Z Vt c),AA 30 (rO.ixZ d),AA 31 (rO.p1Z tO d)]<|rx f)<|rx f)<|rx f
def PC(a:Bb)(b:Bb)(s1:Int):Option ((Int)⊕(Unit⊕Bool)):=
 bif s1<ah a then((aS a s1).bind λc=>(fb b c).bind λd=>bif(!d)then(some (.inr (.inr false)))else(some (.inl (wI (s1+1)))))else(some (.inr (.inl ())))
def SP(a:Bb)(b:Bb):Fo:=
 (AB (PC a b) 0).bind λc=>ma c (λd=>some (decide (ah a=ah b))) (λq=>some q)
theorem UD{a b}:DG prog gl (SP a b) 60 [aE cZ a,aE cZ b] bG:=
 cy func60 λK=>Nw 1101 (λd=>sf [] []) (λs1=>sf [] [(5,iG s1)]) [] K (λd=>rv K) λs1 k5 e k6=>aF 9 (ak λf c=>BA 17 (C7 gl) λg=>aw [AA 15 (rZ.ixZ c),AA 16 (rZ.p1Z tZ c)]<|aF 18 (aP c3 k6 [])<|rb k5)<|aA c2 e []
def M0(g:AQ)(set:Bb)(l:Ba)(b:G9×Int)(c:JX)(a:G9×Int):Option ((G9×Int)⊕(G9⊕(G9×Bool))):=
 bif a.2<ah c then((aS c a.2).bind λd=>(SP d set).bind λe=>bif e then((aS l b.2).bind λf=>(fC g f).bind λh=>(aS g.L h).bind λi=>(aS i.Path a.2).bind λj=>(aS l b.2).bind λk=>some (.inr (.inr (⟨set,j.Pub,k,a.2⟩,true))))else(some (.inl (a.1,wI (a.2+1)))))else(some (.inr (.inl a.1)))
def KZ(g:AQ)(c:Ba)(b:G9×Int)(a:Bool×Int):Option ((Bool×Int)⊕(Bool)):=
 bif a.2<ah c then((bif a.1 then(bif a.2=b.2 then(some true)else((aS c a.2).bind λd=>(aS c b.2).bind λe=>(Qn g d e).bind λf=>some f))else(some false)).bind λh=>some (.inl (h,wI (a.2+1))))else(some (.inr a.1))
def K0(g:AQ)(set:Bb)(c:Ba)(a:G9×Int):Option ((G9×Int)⊕(G9⊕(G9×Bool))):=
 bif a.2<ah c then((AB (KZ g c a) (true,0)).bind λd=>bif(!d)then(some (.inl (a.1,wI (a.2+1))))else((aS c a.2).bind λe=>(Oo g e).bind λf=>(AB (M0 g set c a f) (a.1,0)).bind λh=>ma h (λb=>some (.inl (b,wI (a.2+1)))) (λq=>some (.inr (.inr q)))))else(some (.inr (.inl a.1)))
def M1(a:Ba)(set:Bb)(s1:Ba×Int):Option ((Ba×Int)⊕Ba):=
 bif s1.2<ah a then((aS a s1.2).bind λb=>(fb set b.By).bind λc=>bif c then((aS a s1.2).bind λd=>(aT 24 s1.1 [d]).bind λe=>some (.inl (e,wI (s1.2+1))))else(some (.inl (s1.1,wI (s1.2+1)))))else(some (.inr s1.1))
def Wv(g:AQ)(a:Ba)(set:Bb):Option (G9×Bool):=
 (AB (M1 a set) ([],0)).bind λd=>bif ah set=1 then(bif 0<ah d then((aS d (wI ((ah d)-1))).bind λb=>(fC g b).bind λe=>(aS g.L e).bind λf=>(aS f.Path 0).bind λh=>some (⟨set,h.Pub,b,0⟩,true))else((aS set 0).bind λi=>(vz g i).bind λc=>bif(!c.2)then(some (⟨[],0,⟨0,0,0⟩,0⟩,false))else(some (⟨set,c.1.Lead,⟨0,0,0⟩,0⟩,true))))else((AB (K0 g set d) (⟨[],0,⟨0,0,0⟩,0⟩,0)).bind λj=>ma j (λk=>some (⟨[],0,⟨0,0,0⟩,0⟩,false)) (λq=>some q))
theorem Aa9{g commits set}:DG prog gl (Wv g commits set) 22 [.agg (aI g),aE aj commits,aE cZ set] (λr=> .tup [.agg (DP r.1),bG r.2]):=
 cy func22 λK=>HU 11101 (λP=>sp [2] [(3,.ref 0 0),(6,.ref 1 0),(8,aE aj P)] [ob 0 33 (aI g),ob 1 48 (bF [0] (DP DD))] 2) (λs1=>so [0] [(3,.ref 0 0),(6,.ref 1 0),(8,.rsl 2 0 s1.1.length),(9,iG s1.2)] [ob 0 33 (aI g),ob 1 48 (bF [0] (DP DD)),ob 2 25 (s1.1.flatMap aj)] 3) [hc (ac.imm [])] (vs:=[25]) (ρ:=rI 3) (kd:=[(2,.row)]) (λP=>aF 41 (aF 44 (ak λQ k=>BA 56 (dX gl) λR=>ak λS l=>ak λU m=>aw [AA 49 (ac.ixZ k),AA 50 (ac.ptZ aW k),AA 57 (eJ.ixZ l),AA 59 (eJ.fdZ aaj 9 l),AA 60 (bZ.ixZ m),AA 62 (bZ.fdZ tW 0 m)]<|rv K)<|ak λV n=>BA 70 (AN gl) λW=>aw [AA 68 (rZ.ixZ n),AA 69 (rZ.p1Z tZ n)]<|aF 74 (rv K)<|rv K)<|Nw 1111101 (λa=>sk [] [(6,.ref 0 0)] [ob 0 48 (DP a)] 1) (λc=>so [] [(13,iG c.2)] [ob 1 48 (DP c.1)] 2) [] K (λa=>rv K) λc o D E=>aF 83 (HU 111110122102101 (λp=>sf [] [(14,bG p)]) (λd=>sf [] [(14,bG d.1),(15,iG d.2)]) [] (λp=>aF 111 (rb o)<|ak λX q=>ak λF H=>aw [AA 115 (ac.ixZ q),AA 116 (ac.ptZ aW q),hf 117 (nH.fo (Ab4 gl H))]<|Nw 11111012210211111 (λb=>so [14] [] [ob 1 48 (DP b)] 2) (λe=>so [14] [(16,aE Jc F),(17,iG e.2)] [ob 1 48 (DP e.1)] 2) [] E (λb=>rb o) λe I J L=>aF 121 (ak λY s=>ak λZ t=>aw [AA 126 (nH.ixZ s),AA 127 (nH.p1Z Vs s)]<|kV (λf=>ak λy64 u=>BA 139 (dX gl) λv66=>ak λy68 v=>ak λy70 w=>ak λy72 x=>aw [hf 129 (cF (UD gl t) f),AA 137 (ac.ixZ u),AA 138 (ac.ptZ aW u),AA 140 (eJ.ixZ v),AA 142 (eJ.fdZ aaj 9 v),AA 144 (bZ.ixZ w),AA 146 (bZ.fdZ tW 0 w),AA 149 (ac.ixZ x),AA 150 (ac.ptZ aW x)]<|aP c3 L []) λf=>aw [hf 129 (cF (UD gl t) f)]<|rb I)<|aA c2 J []) λd M N=>aF 89 (cN 11111012210210122102 (sf [] []) []<|cC 11111012210210122102 (λh=>sf [] [(14,bG h)]) (λh=>rb M) λh i=>aF 92 (aF 96 (rx i)<|ak λy81 y=>ak λy83 z=>BA 107 (aaE gl) λv85=>aw [AA 101 (ac.ixZ y),AA 102 (ac.ptZ aW y),AA 105 (ac.ixZ z),AA 106 (ac.ptZ aW z)]<|rx i)<|rx i)<|aA c1 N [])<|aA c2 D [] (ρ:=[(0,1)])) λs1 k5 k4=>aF 22 (ak λy88 A=>ak λv90 B=>aw [AA 28 (ac.ixZ A),AA 30 (ac.fdZ tZ 0 A)]<|kV (λj=>ak λy93 C=>Ge (dg 38 ac) λO=>aw [hf 31 (cF (C7 gl B) j),AA 35 (ac.ixZ C),AA 36 (ac.ptZ aW C)]<|cj k5 (DF ac O) (ρ:=[(0,0),(1,1),(2,4)]) (kd:=[(2,.row)])) λj=>aw [hf 31 (cF (C7 gl B) j)]<|cj k5 (DF ac s1.1) (ρ:=rI 3) (kd:=[(2,.row)]))<|aA c1 k4 [hc (ac.al s1.1)]
end
theorem AdI{b:Bb}(ha:a.length<=1000000)(hb:b.length<=1000000):SP a b=some (Sc b a):=by
 unfold SP;refine T.eq (.bind (T.mono (T.forI (Q:=λr=>(r= .inl ()/\(a.any λd=> !Ni b d)=false)\/(r= .inr false/\(a.any λd=> !Ni b d)=true)) a.length (λk=>∀x∈a.take k,x∈b) aa aC (λk hk hj=>?_) λhj=>?_) λr hr=>?_))
 .obtain⟨x,hx⟩:∃x,a[k]?=some x:=by simp_all
  unfold PC;rw[Dl hx,ax,Be hx,aL,cX hb,JH,aL];by_cases h:x∈b
  .rw[C3 h];refine .some ⟨aq aa,λy hy=>?_⟩;grind [JI]
  .rw[C6 h];exact .some (.inr (by grind [Ni]))
 .unfold PC;rw[Ef];rw[EZ] at hj;exact .some (.inl (by grind [Ni]))
 .unfold Sc;rcases hr with⟨rfl,e⟩|⟨rfl,e⟩<;>rw[e]
  .refine .some ?_;grind [ah]
  .refine .some ?_;grind
section
variable {g:AQ} {m:Jq} {N:Ja} (P:Pg g m N) (h14:g.L.length<=14) (hkn:∀(k:Nat) (o:Bp),g.L[k]?=some o->Kn o)
include P
theorem AmX(a b:Ab):Qn g a b=some ((Cd g m N).bef a b):=by
 have w:=P.w;have nI:=w.nI;have nL:=w.nL;unfold Qn;rw[dC aa,dC aa,aL,aL,AcB w P.p];unfold gO;cases ha:bu a g.IDs with
 |none=>rfl
 |some i=>
  cases hb:bu b g.IDs with
  |none=>grind
  |some j=>have h1:=(cr (gb ha).1).1;have h2:=(cr (gb hb).1).1;grind [Fs.cell,E0,au,Rh]
include h14 hkn
theorem AeV{cs:Ba}(hcs:∀x∈cs,Wq g (Cd g m N) x=true)(hs:cs.Pairwise λx y=>Nk (Cd g m N) x y<0)(hn:cs.length<=14){set:Bb}(hl:set.length<=1000000):Wv g cs set=some ((JD (Cd g m N) (λx=>LW g ((Cd g m N).o x)) cs set).getD DD,(JD (Cd g m N) (λx=>LW g ((Cd g m N).o x)) cs set).isSome):=by
 have w:=P.w;have nI:=w.nI;have nL:=w.nL;have e0:AB (M1 cs set) ([],0)=some (RG cs set):=by
  refine T.eq (T.forA cs.length (λk acc=>acc=(cs.take k).filter λx=>Ni set x.By) aa aC (λk acc hk hj=>?_) λacc hj=>?_)
  .obtain⟨x,hx⟩:∃x,cs[k]?=some x:=⟨_,DS hk⟩;have ha:acc.length<=14:=by grind
   unfold M1;dsimp only;rw[eA hk,ax,au,hx,aL,cX hl,JH,aL,show decide (x.By∈set)=Ni set x.By from rfl,JI,hx,Option.toList_some,Re,aL];cases c:Ni set x.By with
   |true=>rw[ax,show List.filter (λx=>Ni set x.By) [x]=[x] by simp[c]];exact .bind (.app (by grind) (.some ⟨aq aa,by rw[hj]⟩))
   |false=>rw[A9,show List.filter (λx=>Ni set x.By) [x]=[] by simp[c],KY];exact .some ⟨aq aa,hj⟩
  .unfold M1;dsimp only;rw[eF,A9];exact .some (show acc=_ by rw[hj,EZ];rfl)
 unfold Wv;rw[e0,aL];have hm:∀x∈RG cs set,x∈cs/\Ni set x.By=true:=λx hx=>HC.1 hx;have hp:(RG cs set).Pairwise λx y=>Nk (Cd g m N) x y<0:=hs.sublist List.filter_sublist;have hol:(RG cs set).length<=14:=MG (Np ..) hn;unfold JD;generalize RG cs set=own at hm hp hol⊢;have hat:∀x∈own,∃(i:Nat) (o:Bp),fC g x=some (i:Int)/\aS g.L (i:Int)=some o/\(Cd g m N).o x=o/\0<(LW g o).length/\(LW g o).length=o.Path.length/\Uk x.By (LW g o)/\Oo g x=some (LW g o):=λx hx=>by obtain⟨i,o,i1,D,B,_,E,i6,F,_⟩:=aat P h14 hkn (hcs x (hm x hx).1);obtain⟨_,_,_,h4⟩:=Ac0 P h14 hkn x;rw[B] at h4;refine⟨i,o,?_,by rw[au,D],B,E,i6,F,h4⟩;rw[dC aa];unfold gO;rw[M5 w i1]
 rcases List.eq_nil_or_concat own with rfl|⟨l,x,rfl⟩
 .by_cases h1:set.length=1
  .obtain⟨d,rfl⟩:=List.length_eq_one_iff.1 h1;rw[C3 (show ah [d]=1 from rfl),ax,C6 (show¬0<ah ([]:Ba) by simp[ah]),A9,show aS [d] 0=some d from rfl,aL,Cw (by have:=w.nC;omega),aL];unfold mZ;show _=some (((g.Cards.find? λc=>decide (c.Device=d)).map (λc=>(⟨[d],c.Lead,⟨0,0,0⟩,0⟩:G9))).getD DD,((g.Cards.find? λc=>decide (c.Device=d)).map (λc=>(⟨[d],c.Lead,⟨0,0,0⟩,0⟩:G9))).isSome);cases g.Cards.find? λc=>decide (c.Device=d)<;>rfl
  .rw[C6 (show¬ah set=1 by unfold ah;omega),A9,OH (r:= .inl DD) rfl];match set,h1 with
   |[],_=>rfl
   |a::b::r,_=>rfl
   |[a],h=>grind
 .rw[List.concat_eq_append] at*;have hxo:(l++[x])[l.length]?=some x:=aC;have hle:(l++[x]).length=l.length+1:=aC;rw[show(l++[x]).getLast?=some x by simp];obtain⟨M,ox,p1,p2,H,I,O,C,J⟩:=hat x aC;have hpub:∀n,n<(LW g ox).length->∃y:E5,aS ox.Path (n:Int)=some y/\aas (Cd g m N) x n=y.Pub:=λn h=>by obtain⟨y,hy⟩:∃y,ox.Path[n]?=some y:=⟨_,DS aa⟩;grind [au,aas]
  by_cases h1:set.length=1
  .obtain⟨y,hy,A⟩:=hpub 0 I;rw[C3 (show ah set=1 by unfold ah;omega),ax,C3 (show 0<ah (l++[x]) by unfold ah;omega),ax,show wI (ah (l++[x])-1)=(l.length:Int) by grind [bM,ah],au,hxo,aL,p1,aL,p2,aL,show aS ox.Path 0=some y from hy,aL];grind
  .rw[C6 (show¬ah set=1 by unfold ah;omega),A9];dsimp only;rw[Bt h1,H];have hB:∀(i:Nat) (f:Ab),(l++[x])[i]?=some f->T (AB (KZ g (l++[x]) (DD,(i:Int))) (true,0)) λb=>b=true↔∀j y,(l++[x])[j]?=some y->j≠i->(Cd g m N).bef y f=true:=λi f u=>by
    refine T.forA (l++[x]).length (λk acc=>acc=true↔∀j y,j<k->(l++[x])[j]?=some y->j≠i->(Cd g m N).bef y f=true) aa aC (λk acc hk hj=>?_) λacc hj=>?_
    .obtain⟨y,hy⟩:∃y,(l++[x])[k]?=some y:=⟨_,DS hk⟩;unfold KZ;dsimp only;rw[eA hk,ax,au,hy,au,u];have hst:∀b:Bool,(b=true↔∀j y,j<k+1->(l++[x])[j]?=some y->j≠i->(Cd g m N).bef y f=true)->T (some (.inl (b,wI ((k:Int)+1)))) (Rd (λs':Bool×Int=>s'.2=((k+1:Nat):Int)/\(s'.1=true↔∀j y,j<k+1->(l++[x])[j]?=some y->j≠i->(Cd g m N).bef y f=true)) λb:Bool=>b=true↔∀j y,(l++[x])[j]?=some y->j≠i->(Cd g m N).bef y f=true):=λb hb=> .some ⟨aq aa,hb⟩;cases acc with
     |false=>refine hst false ⟨λh=>(by cases h),λh=>?_⟩;exact absurd (hj.2 λj y hj=>h j y aa) B5
     |true=>
      have hj:=hj.1 rfl;by_cases hki:k=i
      .grind
      .rw[ax,C6 aa,A9,aL,aL,AmX P,aL,aL];grind
    .unfold KZ;dsimp only;rw[eF,A9];refine .some (hj.trans ⟨λh j y hy hne=>h j y (cr hy).1 hy hne,λh j y _=>h j y⟩)
   have hF:T (AB (M0 g set (l++[x]) (DD,(l.length:Int)) (LW g ox)) (DD,0)) λr=>r=match(LW g ox).findIdx? (Sc set) with|some n=> .inr (⟨set,aas (Cd g m N) x n,x,(n:Int)⟩,true)|none=> .inl DD:=by
    have Q:=C.n;refine T.forA (LW g ox).length (λk acc=>acc=DD/\∀j t,j<k->(LW g ox)[j]?=some t->Sc set t=false) aa aC (λk acc hk hj=>?_) λacc hj=>?_
    .obtain⟨t,ht⟩:∃t,(LW g ox)[k]?=some t:=⟨_,DS hk⟩;have:=(C.m t (bO ht)).2.1;unfold M0;dsimp only;rw[eA hk,ax,au,ht,aL,AdI aa hl,aL];cases c:Sc set t with
     |true=>
      obtain⟨y,hy,A⟩:=hpub k hk;rw[ax,au,hxo,aL,p1,aL,p2,aL,hy,aL,aL];refine .some (show _=_ from ?_);obtain⟨h1,h2⟩:=cr ht;rw[show(LW g ox).findIdx? (Sc set)=some k from List.findIdx?_eq_some_iff_getElem.2 ⟨h1,by rw[h2];exact c,λj v=>by have:=hj.2 j _ v (DS aa);simp[this]⟩]
      grind
     |false=>
      rw[A9];refine .some ⟨aq aa,hj.1,λj t' v hj'=>?_⟩;by_cases e:j=k
      .subst e;rw[ht] at hj';rw[<-Bj hj'];exact c
      .exact hj.2 j t' aa hj'
    .unfold M0;dsimp only;rw[eF,A9];refine .some (show _=_ from ?_);rw[show(LW g ox).findIdx? (Sc set)=none from List.findIdx?_eq_none_iff.2 λt ht=>by obtain⟨j,hj'⟩:=Hd ht;grind,hj.1]
   have hstep:∀(k:Nat) (y:Ab),(l++[x])[k]?=some y->∃b,AB (KZ g (l++[x]) (DD,(k:Int))) (true,0)=some b/\(b=true↔∀j z,(l++[x])[j]?=some z->j≠k->(Cd g m N).bef z y=true):=λk y h=>hB k y h;have hlast:(∀j z,(l++[x])[j]?=some z->j≠l.length->(Cd g m N).bef z x=true)↔(l++[x]).any (aao (Cd g m N) x)=false:=by
    rw[List.any_eq_false];have hx:∀z∈l,z≠x:=λz hz e=>by rw[List.pairwise_append] at hp;exact PE x (e▸hp.2.2 z hz x aC)
    constructor
    .intro h z hz;unfold aao;rcases I9.1 hz with hz|hz
     .obtain⟨j,hj⟩:=Hd hz;grind
     grind
    .intro h j z hz hne;have hjl:j<l.length:=by grind
     rw[List.getElem?_append_left hjl] at hz;have hm:=bO hz;have:=h z (List.mem_append_left _ hm);grind [aao]
   have hfst:∀(k:Nat) (y:Ab),k<l.length->(l++[x])[k]?=some y->¬∀j z,(l++[x])[j]?=some z->j≠k->(Cd g m N).bef z y=true:=λk y hk hy h=>by have h1:=AgQ P (h l.length x hxo aa);rw[List.getElem?_append_left hk] at hy;rw[List.pairwise_append] at hp;exact PE x ((UF (Cd g m N)).tr _ _ _ h1 (hp.2.2 y (bO hy) x aC))
   obtain⟨bl,b1,b2⟩:=hstep l.length x hxo;rw[hlast] at b2;obtain⟨p,f1,f2⟩:=hF;have hL:T (AB (K0 g set (l++[x])) (DD,0)) λr=>r=bif bl then p else .inl DD:=by
    have hst:∀k:Nat,k<(l++[x]).length->K0 g set (l++[x]) (DD,(k:Int))=if k=l.length/\bl=true then(match p with| .inl s=>some (.inl (s,((k+1:Nat):Int)))| .inr q=>some (.inr (.inr q)))else some (.inl (DD,((k+1:Nat):Int))):=λk hk=>by
     obtain⟨y,hy⟩:∃y,(l++[x])[k]?=some y:=⟨_,DS hk⟩;unfold K0;dsimp only;rw[eA hk,ax,au,hy];by_cases hkl:k=l.length
     .subst hkl;rw[hxo] at hy;cases hy;rw[b1,aL];cases bl with
      |false=>grind [aq]
      |true=>
       rw[Bu ⟨rfl,rfl⟩];show(Oo g x).bind _=_;rw[J,aL,f1,aL];cases p with
       |inl s=>show some (Sum.inl (s,wI ((l.length:Int)+1)))=_;grind [aq]
       |inr q=>rfl
     .obtain⟨b,c1,c2⟩:=hstep k y hy;have hbf:b=false:=by grind
      subst hbf;rw[c1,aL,Bt λh=>hkl h.1];grind [aq]
    have hfz:∀s,p= .inl s->s=DD:=λs h=>by rw[h] at f2;split at f2<;>cases f2;rfl
    refine T.loop (λs=>∃k:Nat,k<=l.length+1/\s=(DD,(k:Int))/\(k=l.length+1->(bif bl then p else .inl DD)= .inl DD)) (λs=>l.length+1-s.2.toNat) ⟨0,aa,rfl,λh=>aa⟩ cq ?_;rintro _ ⟨k,hk,rfl,hd⟩;by_cases he:k=l.length+1
    .unfold K0;dsimp only;rw[show(k:Int)=(((l++[x]).length:Nat):Int) by rw[hle,he],eF,A9];exact .some (show Sum.inl DD=_ from(hd he).symm)
    .rw[hst k aa];split
     .rename_i hc;cases hfl:p with
      |inr q=>refine .some (show Sum.inr q=_ from ?_);grind
      |inl s=>obtain rfl:=hfz s hfl;refine .some ⟨⟨k+1,aa,rfl,λ_=>?_⟩,by simp;omega⟩;cases bl<;>rfl
     .rename_i hc;refine .some ⟨⟨k+1,aa,rfl,λh=>?_⟩,by simp;omega⟩;grind
   obtain⟨r,K,rfl⟩:=hL;rw[show(⟨[],0,⟨0,0,0⟩,0⟩:G9)=DD from rfl,K,aL];cases bl with
   |false=>
    have hb:(l++[x]).any (aao (Cd g m N) x)=true:=by grind
    rw[Bu hb];rfl
   |true=>rw[Bt (by grind),f2,ax];cases(LW g ox).findIdx? (Sc set)<;>rfl
end
section
variable {P:Br} [M:Mix P] {st:St} {Q:Exit->St->Prop} {fn:Func} {Bs:List (St->Prop)} {p:Bq}
theorem Sf{ops:Array Oper}{K:St->Prop}{cx:Cx}{R:Exit->Act->World->Prop}(l2:HD)(hK:∀st a w,K st->mh P cx st a w->wpListIn cx.F cx.nn P ops R l2 a w):∀(l:HD) (st:St) (a:Act) (w:World),D8 P ops K l st->mh P cx st a w->wpListIn cx.F cx.nn P ops R (l++l2) a w
 |[],st,a,w,h,r=>hK st a w h r
 |o::rest,st,a,w,h,r=>by
  obtain⟨β,rb⟩:=r;rcases h with⟨hg,c,hs,hr⟩|⟨hg,hd,hr⟩
  .refine wpListIn_step λK' b=>?_;rw[Bu (cT rb hg)];exact hs cx a w K' R ⟨β,rb⟩ λa' w' r'=>b _ _ (Sf l2 hK rest c a' w' hr r')
  .refine wpListIn_step λK' b=>?_;rw[Bt (by rw[cT rb hg];simp)];exact⟨λf _=>rb.loose.fn f,b _ _ (Sf l2 hK rest _ _ w hr ⟨β,rb.put o.dst hd (.imm _ _ (.lit _))⟩)⟩
def cuR(P:Br)(hs a:List Hn)(c:Code)(k:Nat)(J b st:St):Option (Prop×Bq×JQ×St×Prop×Bq×JQ×St):=match c with
 | .region _ ops false=>match qd P ops hs (ops.toList.take k) st with
  |some (C,u,s1)=>match Iw P [] [] [] J s1 with
   |some (L,s2)=>match qd P ops a (ops.toList.drop k) s2 with
    |some (d,e,s3)=>match Iw P [] [] [] b s3 with
     |some (f,g)=>some (C,u,L,s2,d,e,f,g)
     |none=>none
    |none=>none
   |none=>none
  |none=>none
 |_=>none
def ku1(x:Option (Prop×Bq×JQ×St×Prop×Bq×JQ×St)):Bq:=match x with|some (_,u,_)=>u|none=>[0]
def ku2(x:Option (Prop×Bq×JQ×St×Prop×Bq×JQ×St)):Bq:=match x with|some (_,_,_,_,_,u,_)=>u|none=>[0]
section
attribute [local semireducible] Tr dz Gp
theorem dCu(k:Nat)(J b:St)(A c O f:List HP)(kk:Gp P fn Q Bs true p b)(h1:qe A (ku1 (cuR P (bK A) (bK c) (bq p (ai fn)) k J b st))=true:=by kernel_rfl)(h2:qe c (ku2 (cuR P (bK A) (bK c) (bq p (ai fn)) k J b st))=true:=by kernel_rfl)(e:cuR P (bK A) (bK c) (bq p (ai fn)) k J b st=some (psU A (ku1 (cuR P (bK A) (bK c) (bq p (ai fn)) k J b st)),ku1 (cuR P (bK A) (bK c) (bq p (ai fn)) k J b st),pR O,J,psU c (ku2 (cuR P (bK A) (bK c) (bq p (ai fn)) k J b st)),ku2 (cuR P (bK A) (bK c) (bq p (ai fn)) k J b st),pR f,b):=by kernel_rfl):Gp P fn Q Bs false p st:=by
 have c1:=kA h1;have c2:=kA h2;generalize ku1 _=u1 at c1 e;generalize ku2 _=h at c2 e;generalize psU A u1=n at c1 e;generalize psU c h=o at c2 e;show Tr P (bq p (ai fn)) st (dz P (bE p (ai fn) Bs []) Q);unfold cuR at e;split at e;rotate_left
 .cases e
 rename_i id ops hc;split at e;rotate_left
 .cases e
 rename_i s1 i;split at e;rotate_left
 .cases e
 rename_i s2 d;split at e;rotate_left
 .cases e
 rename_i s3 j;split at e;rotate_left
 .cases e
 rename_i t r4;cases e;rw[hc];have q1:=Mz i c1;have l:=Mz j c2;have l1:=sR d (wR O);have l2:=sR r4 (wR f);have ho:ops=(ops.toList.take k++ops.toList.drop k).toArray:=aC;generalize ops.toList.take k=x at*;generalize ops.toList.drop k=y at*;subst ho;exact λcx a w R r m=>wpIn_region_lit (Sf y (λs a' w' hs r'=>xK (λst' a2 g q d=>m .normal b a2 g kk (l2 cx a2 g (by rw[<-q];exact d))) y _ a' w' l (l1 cx a' w' (by rw[<-hs];exact r'))) x st a w q1 r)
end
end
def nzs:Nat->G->G->G
 |0,g,_=>g
 |n+1,g,t=>match g,t with
  | .lit (.slice none 0 0),.sl _ _=> .sl [] 0
  | .sl l m,.sl l' _=>bif Nat.beq l.length l'.length then .sl (OX (nzs n) l l') m else g
  | .agg l,.agg l'=>bif Nat.beq l.length l'.length then .agg (OX (nzs n) l l')else g
  |_,_=>g
theorem Ace{S:Fv}{w:World}:∀(n:Nat) (g t:G) (v:Value),IV S w g v->IV S w (nzs n g t) v
 |0,g,t,v,h=>h
 |n+1,g,t,v,h=>by
  unfold nzs;split
  .cases h;exact .sl [] 0 none 0 (λ_=>undef) (Dx _) (Nat.zero_le _) aC aC aC
  .rename_i l m d _;cases hb:Nat.beq l.length d.length with
   |false=>exact h
   |true=>
    have hl:=bc hb;cases h with
    |sl _ _ a cap us hn hm ha h1 hr=>refine .sl _ _ a cap us hn hm (by grind [SJ]) (by grind [SJ]) λi e hg=>?_;obtain⟨g,c,b,rfl⟩:=sS _ _ hl i e hg;exact Ace n g c _ (hr i g b)
  .rename_i l d;cases hb:Nat.beq l.length d.length with
   |false=>exact h
   |true=>
    have hl:=bc hb;cases h with
    |agg _ us h2 h1 hr=>refine .agg _ us (by grind [SJ]) h1 λi e u hg hu=>?_;obtain⟨g,c,b,rfl⟩:=sS _ _ hl i e hg;exact Ace n g c u (by grind)
  .exact h
theorem Ajf{P:Br}{gl:CM}{r:G}{ts:Bk}(gs:Bk)(h:ba P gl f ts r)(hl:gs.length=ts.length:=by rfl)(e:OX (nzs 20) gs ts=ts:=by kernel_rfl):ba P gl f gs r:=λw S vs hS hG hsz a=>by refine h w S vs hS hG aa λi g u hg hu=>?_;grind [sS,Ace]
theorem AeR{pre:Bk}{r:G}(h:ba prog fI f (pre++[aE cZ []]) r):ba prog fI f (pre++[Iy]) r:=λw S vs hS hG hsz a=>by
 refine h w S vs hS hG (by grind) λi g u hg hu=>?_;rcases HB i pre.length with hi|hi
 .grind
 .rw[List.getElem?_append_right hi] at hg;obtain⟨j,hj⟩:∃j,j=i-pre.length:=⟨_,rfl⟩;rw[<-hj] at hg;cases j with
  |zero=>cases hg;have:=a i Iy u (by rw[List.getElem?_append_right hi,<-hj];rfl) hu;cases this;exact .sl [] 0 none 0 (λ_=>undef) (Dx _) (Nat.zero_le _) aC aC aC
  |succ j=>cases hg
def cNL(x:Option Bb):Bk:=match x with|none=>[Iy]|some l=>[aE cZ l]
theorem rNL:AH prog 30 22 1 cNL:=⟨aH,aH,B5,λx=>by cases x<;>rfl,λx=>by cases x<;>rfl⟩
abbrev oNL(l:List (Option Bb)):Option Ob:=some ⟨22,l.flatMap cNL,none⟩
def Lv(I:Gi)(ss:Ab->JX)(cs:Ba):Nat->Bb->List G9
 |0,_=>[]
 |n+1,s=>match JD I ss cs s with
  |some q=>[q]
  |none=>if 1<s.length then Lv I ss cs n (s.take (LV s.length))++Lv I ss cs n (s.drop (LV s.length)) else[]
theorem AgS{s:Bb}(h:1<s.length)(hs:s.length<=3000):ba prog fI 95 [aE cZ s] (.tup [aE cZ (s.take (LV s.length)),aE cZ (s.drop (LV s.length))])/\(s.take (LV s.length)).length<s.length/\(s.drop (LV s.length)).length<s.length/\(s.take (LV s.length)).length+(s.drop (LV s.length)).length=s.length:=by obtain⟨e,k1,k2⟩:=UB (n:=s.length) aa aa;refine⟨UA fI (r:=(s.take (LV s.length),s.drop (LV s.length))) ?_,by simp;omega,by simp;omega,by simp;omega⟩;unfold LT fF;rw[C6 (show¬ah s<2 by unfold ah;omega),A9,show ah s=(s.length:Int) from rfl,AcY,e,aL];refine T.eq (.bind (.pre aa aa (.bind (.app cq (.bind (.suf aa aa (.bind (.app cq (.some ?_)))))))));simp
section
variable {g:AQ} {m:Jq} {N:Ja} (P:Pg g m N) (h14:g.L.length<=14) (hkn:∀(k:Nat) (o:Bp),g.L[k]?=some o->Kn o)
include P h14 hkn
theorem AmY{cs:Ba}(hcs:∀x∈cs,Wq g (Cd g m N) x=true)(hn:cs.length<=14){set:Bb}(hl:set.length<=1000000):∃s,ba prog fI 57 [.ptr (Ag ⟨g.Cards,m,N⟩) 0,aE aj cs,aE cZ set] (.tup [.agg (DP s),bG (JD (Cd g m N) (λx=>LW g ((Cd g m N).o x)) cs set).isSome])/\∀q,JD (Cd g m N) (λx=>LW g ((Cd g m N).o x)) cs set=some q->s=q:=
 AeT (Abh (Y4 P.w P.p)) (λx=>AeQ P h14 hkn x) aa hl λx hx=>by obtain⟨i,o,_,_,e,_,h1,h2,h3,_⟩:=aat P h14 hkn (hcs x hx);rw[e];exact⟨h1,h2,h3.n,λs hs=>(h3.m s hs).2.1⟩
end
theorem Aba{ss:Ab->JX}:JD I ss cs []=none:=by unfold JD;rw[show RG cs []=[] by simp[RG,Ni]];rfl
theorem Ny{I:Gi}{ss:Ab->JX}{cs:Ba}:∀(n:Nat) (s:Bb),(Lv I ss cs n s).length<=s.length
 |0,_=>by simp[Lv]
 |n+1,s=>by
  unfold Lv;split
  .rename_i q h;cases s with
   |nil=>rw[Aba] at h;cases h
   |cons a s=>simp
  .split
   .have a:=Ny (I:=I) (ss:=ss) (cs:=cs) n (s.take (LV s.length));have b:=Ny (I:=I) (ss:=ss) (cs:=cs) n (s.drop (LV s.length));rw[MH] at a;rw[List.length_drop] at b;rw[Rf];omega
   .simp
section
variable {g:AQ} {m:Jq} {N:Ja} {cs:Ba}
abbrev mtG(g:AQ)(m:Jq)(N:Ja)(cs:Ba):Bk:=[.ptr [Z8 g.Cards m N] 0,.ptr [aE aj cs] 0,.ref 0 0,.ref 1 0]
abbrev oSl(l:List G9):Option Ob:=some ⟨48,l.flatMap DP,none⟩
abbrev Vm(g:AQ)(m:Jq)(N:Ja)(cs:Ba)(j:Nat)(l:List G9):aQ:=[ob 0 53 [.rsl j 0 l.length],ob 1 156 ([.clo (.func 94) [] (mtG g m N cs)]),(j,oSl l)]
theorem Ab7{ss:Ab->JX}{I:Gi}(hK:∀s:Bb,s.length<=3000->∃q,ba prog fI 57 [Z8 g.Cards m N,aE aj cs,aE cZ s] (.tup [.agg (DP q),bG (JD I ss cs s).isSome])/\∀z,JD I ss cs s=some z->q=z):∀(n:Nat) (s:Bb) (l:List G9),s.length<n->s.length<=3000->l.length+s.length<=1000000->jg prog fI 94 (aE cZ s::mtG g m N cs) (Vm g m N cs 2 l) 3 (.tup []) (Vm g m N cs (if Lv I ss cs n s=[]then 2 else 3) (l++Lv I ss cs n s)) (if Lv I ss cs n s=[]then 3 else 4)
 |0,_,_,h,_,_=>absurd h (Nat.not_lt_zero _)
 |n+1,s,l,h,hs,hl=>by
  obtain⟨q,h1,h2⟩:=hK s hs;unfold Lv;refine pP func94 ?_;cases e:JD I ss cs s with
  |some z=>rw[e] at h1;obtain rfl:=h2 z e;dsimp only;rw[Bt (List.cons_ne_nil _ _),Bt (List.cons_ne_nil _ _)];exact mt .normal (s0 36 fI [] (Vm g m N cs 3 (l++[q])) 4 3) [] [hf 14 h1,Tn 21 BG 64 l q aa] [hc (el (l++[q])),hc (BG.imm (l++[q]))] (ρ:=rI 3++[(3,5)]) (kd:=[(3,.row),(999999,.clo)])
  |none=>
   rw[e] at h1;dsimp only;by_cases hl1:1<s.length
   .rw[Bu hl1];have hg:decide ((1:Int)<(s.length:Int))=true:=C3 aa;refine pO 1114130 (s0 36 fI [(0,aE cZ s),(4,.ref 1 0)] (Vm g m N cs 2 l) 3 3) [hf 14 h1,hr 24 hg] [hc (el l),hc (BG.imm l)] ?_ (ρ:=rI 3) (kd:=[(2,.row),(999999,.clo)]);obtain⟨hk,k1,k2,k3⟩:=AgS hl1 hs;have i1:=Ab7 hK n (s.take (LV s.length)) l aa aa aa;have c:=λ(a:List G9) (ha:a.length+(s.drop (LV s.length)).length<=1000000)=>Ab7 hK n (s.drop (LV s.length)) a aa aa ha;have b1:=Ny (I:=I) (ss:=ss) (cs:=cs) n (s.take (LV s.length));generalize s.take (LV s.length)=u at*;generalize s.drop (LV s.length)=v at*;generalize Lv I ss cs n u=x at*;generalize Lv I ss cs n v=y at*;cases x with
    |nil=>
     have c:=c l aa;rw[Bu rfl,Bu rfl,KY] at i1;rw[MJ];cases y with
     |nil=>rw[Bu rfl,Bu rfl,KY] at c⊢;exact mt .normal (s0 36 fI [] (Vm g m N cs 2 l) 3 3) [] [hf 27 hk,tN 32 [0,1,2] 3 (Vm g m N cs 2 l) (aE cZ u::mtG g m N cs) (Vm g m N cs 2 l) i1 ⟨⟨rfl,.inl rfl⟩,⟨rfl,.inl rfl⟩,⟨rfl,.inr ⟨rfl,BG.imm l⟩⟩,trivial⟩ ⟨⟨rfl,.inl rfl⟩,⟨rfl,.inl rfl⟩,⟨rfl,.inr ⟨rfl,BG.imm l⟩⟩,trivial⟩,tN 35 [0,1,2] 3 (Vm g m N cs 2 l) (aE cZ v::mtG g m N cs) (Vm g m N cs 2 l) c ⟨⟨rfl,.inl rfl⟩,⟨rfl,.inl rfl⟩,⟨rfl,.inr ⟨rfl,BG.imm l⟩⟩,trivial⟩ ⟨⟨rfl,.inl rfl⟩,⟨rfl,.inl rfl⟩,⟨rfl,.inr ⟨rfl,BG.imm l⟩⟩,trivial⟩] [hc (el l),hc (BG.imm l)] (ρ:=rI 3) (kd:=[(2,.row),(999999,.clo)])
     |cons b y=>rw[Bt (List.cons_ne_nil _ _),Bt (List.cons_ne_nil _ _)] at c⊢;exact mt .normal (s0 36 fI [] (Vm g m N cs 3 (l++b::y)) 4 3) [] [hf 27 hk,tN 32 [0,1,2] 3 (Vm g m N cs 2 l) (aE cZ u::mtG g m N cs) (Vm g m N cs 2 l) i1 ⟨⟨rfl,.inl rfl⟩,⟨rfl,.inl rfl⟩,⟨rfl,.inr ⟨rfl,BG.imm l⟩⟩,trivial⟩ ⟨⟨rfl,.inl rfl⟩,⟨rfl,.inl rfl⟩,⟨rfl,.inr ⟨rfl,BG.imm l⟩⟩,trivial⟩,tN 35 [0,1,2] 3 (Vm g m N cs 2 l) (aE cZ v::mtG g m N cs) [ob 0 53 [.rsl 3 0 (l++b::y).length],ob 1 156 ([.clo (.func 94) [] (mtG g m N cs)]),(2,none),(3,oSl (l++b::y))] c ⟨⟨rfl,.inl rfl⟩,⟨rfl,.inl rfl⟩,⟨rfl,.inr ⟨rfl,BG.imm l⟩⟩,trivial⟩ ⟨⟨rfl,.inl rfl⟩,⟨rfl,.inl rfl⟩,⟨rfl,.inr ⟨rfl,BG.imm (l++b::y)⟩⟩,trivial⟩] [hc (el (l++b::y)),hc (BG.imm (l++b::y))] (ρ:=rI 4) (kd:=[(3,.row),(999999,.clo)])
    |cons a x=>
     rw[Bt (List.cons_ne_nil _ _),Bt (List.cons_ne_nil _ _)] at i1;have c:=c (l++a::x) (by rw[Rf];omega);cases y with
     |nil=>rw[Bu rfl,Bu rfl,KY] at c;rw[KY,Bt (List.cons_ne_nil _ _),Bt (List.cons_ne_nil _ _)];exact mt .normal (s0 36 fI [] (Vm g m N cs 3 (l++a::x)) 4 3) [] [hf 27 hk,tN 32 [0,1,2] 3 (Vm g m N cs 2 l) (aE cZ u::mtG g m N cs) [ob 0 53 [.rsl 3 0 (l++a::x).length],ob 1 156 ([.clo (.func 94) [] (mtG g m N cs)]),(2,none),(3,oSl (l++a::x))] i1 ⟨⟨rfl,.inl rfl⟩,⟨rfl,.inl rfl⟩,⟨rfl,.inr ⟨rfl,BG.imm l⟩⟩,trivial⟩ ⟨⟨rfl,.inl rfl⟩,⟨rfl,.inl rfl⟩,⟨rfl,.inr ⟨rfl,BG.imm (l++a::x)⟩⟩,trivial⟩,tN 35 [0,1,3] 4 (Vm g m N cs 3 (l++a::x)) (aE cZ v::mtG g m N cs) [ob 0 53 [.rsl 3 0 (l++a::x).length],ob 1 156 ([.clo (.func 94) [] (mtG g m N cs)]),(2,oSl (l++a::x))] c ⟨⟨rfl,.inl rfl⟩,⟨rfl,.inl rfl⟩,⟨rfl,.inr ⟨rfl,BG.imm (l++a::x)⟩⟩,trivial⟩ ⟨⟨rfl,.inl rfl⟩,⟨rfl,.inl rfl⟩,⟨rfl,.inr ⟨rfl,BG.imm (l++a::x)⟩⟩,trivial⟩] [hc (el (l++a::x)),hc (BG.imm (l++a::x))] (ρ:=rI 4) (kd:=[(3,.row),(999999,.clo)])
     |cons b y=>rw[Bt (List.cons_ne_nil _ _),Bt (List.cons_ne_nil _ _)] at c;rw[List.cons_append,Bt (List.cons_ne_nil _ _),Bt (List.cons_ne_nil _ _),<-List.cons_append,<-List.append_assoc];exact mt .normal (s0 36 fI [] (Vm g m N cs 3 (l++a::x++b::y)) 4 3) [] [hf 27 hk,tN 32 [0,1,2] 3 (Vm g m N cs 2 l) (aE cZ u::mtG g m N cs) [ob 0 53 [.rsl 3 0 (l++a::x).length],ob 1 156 ([.clo (.func 94) [] (mtG g m N cs)]),(2,none),(3,oSl (l++a::x))] i1 ⟨⟨rfl,.inl rfl⟩,⟨rfl,.inl rfl⟩,⟨rfl,.inr ⟨rfl,BG.imm l⟩⟩,trivial⟩ ⟨⟨rfl,.inl rfl⟩,⟨rfl,.inl rfl⟩,⟨rfl,.inr ⟨rfl,BG.imm (l++a::x)⟩⟩,trivial⟩,tN 35 [0,1,3] 4 (Vm g m N cs 3 (l++a::x)) (aE cZ v::mtG g m N cs) [ob 0 53 [.rsl 4 0 (l++a::x++b::y).length],ob 1 156 ([.clo (.func 94) [] (mtG g m N cs)]),(2,none),(3,oSl (l++a::x++b::y))] c ⟨⟨rfl,.inl rfl⟩,⟨rfl,.inl rfl⟩,⟨rfl,.inr ⟨rfl,BG.imm (l++a::x)⟩⟩,trivial⟩ ⟨⟨rfl,.inl rfl⟩,⟨rfl,.inl rfl⟩,⟨rfl,.inr ⟨rfl,BG.imm (l++a::x++b::y)⟩⟩,trivial⟩] [hc (el (l++a::x++b::y)),hc (BG.imm (l++a::x++b::y))] (ρ:=rI 3++[(3,4)]) (kd:=[(3,.row),(999999,.clo)])
   .rw[Bt hl1,Bu rfl,Bu rfl,KY];exact mt .normal (s0 36 fI [] (Vm g m N cs 2 l) 3 3) [] [hf 14 h1,hr 24 (show decide ((1:Int)<(s.length:Int))=false from C6 aa)] [hc (el l),hc (BG.imm l)] (ρ:=rI 3) (kd:=[(2,.row),(999999,.clo)])
theorem AeW{ss:Ab->JX}{I:Gi}(b:ba prog fI 13 [Z8 g.Cards m N,aE aj ids] (aE aj cs))(hK:∀s:Bb,s.length<=3000->∃q,ba prog fI 57 [Z8 g.Cards m N,aE aj cs,aE cZ s] (.tup [.agg (DP q),bG (JD I ss cs s).isSome])/\∀z,JD I ss cs s=some z->q=z){s:Bb}(hs:s.length<=3000):iV prog fI 40 [Z8 g.Cards m N,aE aj ids,aE cZ s] 48 (Lv I ss cs (s.length+1) s).length ((Lv I ss cs (s.length+1) s).flatMap DP):=by
 have h1:=Ab7 hK (s.length+1) s [] aa hs cq;generalize Lv I ss cs (s.length+1) s=r at*;refine OW func40 ?_;refine pO 1110 (s0 18 fI [(2,aE cZ s),(3,.ptr [Z8 g.Cards m N] 0),(7,.ptr [aE aj cs] 0)] [] 0 0) [hf 12 b] [hc (eB (gs:=[Z8 g.Cards m N]) aH),hc (eB (gs:=[aE aj cs]) aH)] ?_;refine pO 1111110 (s0 18 fI [(2,aE cZ s),(8,.ref 0 0),(9,.ref 1 0)] (Vm g m N cs 2 []) 3 0) [] [hc (BG.imm [])] ?_ (vs:=[48]) (ρ:=rI 3) (kd:=[(2,.row),(999999,.clo)]);cases r with
 |nil=>rw[Bu rfl,Bu rfl] at h1;exact EI [tN 16 [0,1,2] 3 (Vm g m N cs 2 []) (aE cZ s::mtG g m N cs) (Vm g m N cs 2 []) h1 ⟨⟨rfl,.inl rfl⟩,⟨rfl,.inl rfl⟩,⟨rfl,.inr ⟨rfl,BG.imm []⟩⟩,trivial⟩ ⟨⟨rfl,.inl rfl⟩,⟨rfl,.inl rfl⟩,⟨rfl,.inr ⟨rfl,BG.imm []⟩⟩,trivial⟩] (BG.imm [])
 |cons a x=>rw[Bt (List.cons_ne_nil _ _),Bt (List.cons_ne_nil _ _),MJ] at h1;exact EI [tN 16 [0,1,2] 3 (Vm g m N cs 2 []) (aE cZ s::mtG g m N cs) [ob 0 53 [.rsl 3 0 (a::x).length],ob 1 156 ([.clo (.func 94) [] (mtG g m N cs)]),(2,none),(3,oSl (a::x))] h1 ⟨⟨rfl,.inl rfl⟩,⟨rfl,.inl rfl⟩,⟨rfl,.inr ⟨rfl,BG.imm []⟩⟩,trivial⟩ ⟨⟨rfl,.inl rfl⟩,⟨rfl,.inl rfl⟩,⟨rfl,.inr ⟨rfl,BG.imm (a::x)⟩⟩,trivial⟩] (BG.imm (a::x))
end
theorem Ab5{g:AQ}{I:Gi}{ss:Ab->JX}{cs:Ba}(a:∀s:Bb,s.length<=3000->ba prog fI 22 [.agg (aI g),aE aj cs,aE cZ s] (.tup [.agg (DP ((JD I ss cs s).getD DD)),bG (JD I ss cs s).isSome])):∀(n:Nat) (s:Bb),s.length<n->s.length<=3000->iV prog fI 41 [.agg (aI g),aE aj cs,aE cZ s] 48 (Lv I ss cs n s).length ((Lv I ss cs n s).flatMap DP)
 |0,_,h,_=>absurd h (Nat.not_lt_zero _)
 |n+1,s,h,hs=>by
  have h1:=a s hs;refine OW func41 ?_;by_cases h0:s.length=0
  .obtain rfl:=List.length_eq_zero_iff.1 h0;unfold Lv;rw[Aba];exact EI [] (BG.imm [])
  .have e0:decide ((s.length:Int)=0)=false:=C6 aa;unfold Lv;cases e:JD I ss cs s with
   |some q=>rw[e] at h1;exact EI [hr 13 e0,hf 18 h1] (BG.imm [q])
   |none=>
    rw[e] at h1;dsimp only;by_cases hl:1<s.length
    .rw[Bu hl];obtain⟨e1,k1,k2⟩:=UB (n:=s.length) aa aa;have hL:=Ji fI e1;have a1:=Ab5 a n (s.take (LV s.length)) cq cq;have a2:=BG.fo (Ab5 a n (s.drop (LV s.length)) cq cq);have n1:=Ny (I:=I) (ss:=ss) (cs:=cs) n (s.take (LV s.length));have n2:=Ny (I:=I) (ss:=ss) (cs:=cs) n (s.drop (LV s.length));rw[MH] at n1;rw[List.length_drop] at n2;have p1:tq s ((LV s.length:Nat):Int)=some (s.take (LV s.length)):=T.eq (.pre aa aa aC);have p2:mc s ((LV s.length:Nat):Int)=some (s.drop (LV s.length)):=T.eq (.suf aa aa aC);generalize s.take (LV s.length)=u at*;generalize s.drop (LV s.length)=v at*;generalize Lv I ss cs n u=x at*;generalize Lv I ss cs n v=y at*;exact EI [hr 13 e0,hf 18 h1,hr 26 (show decide ((s.length:Int)=1)=false from C6 aa),hf 29 hL,AA 34 (rZ.preZI p1),hz 35 [] (Qh (c:=2) aH a1 (aY (aG 20 (.agg (aI g)) aH) (aY (aG 20 (aE aj cs) aH) (aY (aG 20 (aE cZ u) aH) bf))) (BG.imm x)),AA 41 (rZ.sufZI p2),hf 42 a2,AkR 43 BG 64 x y aa] (BG.imm (x++y))
    .rw[Bt hl];exact EI [hr 13 e0,hf 18 h1,hr 26 (show decide ((s.length:Int)=1)=true from C3 aa)] (BG.imm [])
theorem Yc{l:List G9}(hn:l.length<=1000000)(hl:∀q∈l,q.Set.length<=1000000):ba prog fI 23 [aE DP l,aE DP l] (bG true):=by
 refine Gh func23 ?_;refine pN (λk:Nat=>(s0 68 fI [(0,aE DP l),(1,aE DP l),(5,iG (k:Int))] [] 0 0)) 1110122 (Fw (n:=l.length) aa) [hr 10 (neZ (ah l))] [] (λB k w hs k5 a=>?_);unfold LC at hs;split at hs
 .rename_i hlt;obtain rfl:=Bj hs;obtain⟨q,hq⟩:∃q,l[k]?=some q:=⟨_,DS hlt⟩;have hz:=Be hq;exact jw [hr 14 (Dl hq),AA 19 (BG.ixZ hz),AA 21 (BG.fdZ Vs 0 hz),AA 24 (BG.ixZ hz),AA 26 (BG.fdZ Vs 0 hz),hf 27 (Aac (gl:=fI) (hl q (bO hq))),AA 32 (BG.ixZ hz),AA 34 (BG.fdZ tW 1 hz),AA 37 (BG.ixZ hz),AA 39 (BG.fdZ tW 1 hz),hr 40 (neZ (q.Pub:Int)),AA 45 (BG.ixZ hz),AA 47 (BG.fsZ aW jz 2 B5 hz),AA 50 (BG.ixZ hz),AA 52 (BG.fsZ aW jz 2 B5 hz),hV 53 (dy q.By q.By (r:=false) aC),AA 58 (BG.ixZ hz),AA 60 (BG.fdZ tZ 5 hz),AA 63 (BG.ixZ hz),AA 65 (BG.fdZ tZ 5 hz),hr 66 (neZ q.N),hbb 16 (Xl (q:=k) aa)] [] (k5 _ rfl) []
 .split at hs
  .rename_i he;subst he;exact Ar [hr 14 (Ef (s:=l))] []
  .cases hs
theorem Ab6{I:Gi}{ss:Ab->JX}{cs:Ba}:∀(n:Nat) (s:Bb),∀q∈Lv I ss cs n s,q.Set.length<=s.length
 |0,_=>by simp[Lv]
 |n+1,s=>by
  intro q hq;unfold Lv at hq;split at hq
  .rename_i z e;rw[List.mem_singleton.1 hq,AeX e];exact Dx _
  .split at hq
   .rcases I9.1 hq with hq|hq
    .have:=Ab6 n _ q hq;rw[MH] at this;omega
    .have:=Ab6 n _ q hq;rw[List.length_drop] at this;omega
   .cases hq
theorem AgN(a:ba prog fI 19 [] (bG true)){pt st:Bb}(hl:l.length<=9223372036854775807)(hi:∀x∈l,c8 x)(_:pt.length<=9223372036854775807)(hp:∀x∈pt,c8 x)(_:st.length<=9223372036854775807)(hst:∀x∈st,c8 x):ba prog fI 8 [aE cZ l,aE cZ pt,aE cZ st] (bG true):=by
 obtain⟨r,m,N,P,h14,hkn,f,D,hM⟩:=AgR hl hi;have w:=P.w;have nI:=w.nI;obtain⟨v,ev,j,t⟩:=AeP w w.nd hp;obtain⟨row,c1,c2,_,c3,c4⟩:=Aa8 P h14 hkn j t;have hcs:∀x∈row.filter (Wq r (Cd r m N)),Wq r (Cd r m N) x=true:=λx hx=>(HC.1 hx).2;have c5:(row.filter (Wq r (Cd r m N))).length<=14:=MG (Np ..) c4;have c6:=c3.sublist (List.filter_sublist (p:=Wq r (Cd r m N)));generalize row.filter (Wq r (Cd r m N))=cs at*;have hK:=λ(s:Bb) (hs:s.length<=3000)=>AmY P h14 hkn hcs c5 (set:=s) aa;have h:=Ab5 (g:=r) (I:=Cd r m N) (ss:=λx=>LW r ((Cd r m N).o x)) (cs:=cs) λs hs=>Aa9 fI (AeV P h14 hkn hcs c6 c5 (set:=s) aa);obtain⟨so,es,hso⟩:=Ai6 hst;have e1:=ac.fo (aal fI ev);have e2:=ac.fo (Yb fI c2);have e3:=rZ.fo (Sd fI es);simp only[Ag,RJ] at c1 hK;have b:=λ(s:Bb) (hs:s.length<=3000)=>BG.fo (AeW c1 hK hs);have c:=λ(s:Bb) (hs:s.length<=3000)=>BG.fo (h (s.length+1) s aa hs);refine Gh func8 ?_;refine pO 11110 (s0 78 fI [(1,aE cZ pt),(2,aE cZ st),(7,Z8 r.Cards m N),(8,.ptr (aI r) 0)] [] 0 0) [tN 17 [] 0 [] [aE cZ l] [ob 0 111 [aE bv r.Cards,.mref 1,.rsl 2 0 N.length],(1,oM m),(2,zQ N)] hM trivial ⟨⟨rfl,.inl rfl⟩,⟨rfl,rfl,rfl,rfl,.inr ⟨rfl,cf _⟩⟩,⟨rfl,.inr ⟨rfl,az.imm _⟩⟩,trivial⟩] [hc (cf m),hc (az.al N),hc (eB (gs:=[aE bv r.Cards,gMp m,aE d7 N]) aH),hc (eB (gs:=aI r) aH)] ?_;have key:∀A:List (Option Bb),A.length<=3->(∀y∈A,(y.getD []).length<=3000)->Gp prog Tryz.f8 (tH prog Tryz.f8 (bG true)) [] true [1,1,1,1,1,1,0] (s0 78 fI [(7,Z8 r.Cards m N),(8,.ptr (aI r) 0),(9,aE aj v),(10,aE aj cs),(11,aE cNL A)] [] 0 0):=λA hA hy=>by
  refine pN (λk:Nat=>(s0 78 fI [(7,Z8 r.Cards m N),(8,.ptr (aI r) 0),(9,aE aj v),(10,aE aj cs),(11,aE cNL A),(13,iG (k:Int))] [] 0 0)) 111111110122 (Fw (n:=A.length) aa) [] [] (λB k u hs k5 E=>?_);unfold LC at hs;split at hs
  .rename_i hlt;obtain rfl:=Bj hs;obtain⟨x,hx⟩:∃x,A[k]?=some x:=⟨_,DS aa⟩;have hz:=Be hx;have k5:=k5 _ rfl;have hxl:=hy x (bO hx);have h1:=b (x.getD []) hxl;have h2:=c (x.getD []) hxl;have h3:=Ny (I:=Cd r m N) (ss:=λx=>LW r ((Cd r m N).o x)) (cs:=cs) ((x.getD []).length+1) (x.getD []);have h4:=Yc (l:=Lv (Cd r m N) (λx=>LW r ((Cd r m N).o x)) cs ((x.getD []).length+1) (x.getD [])) aa λq hq=>by have:=Ab6 _ _ q hq;omega
   generalize Lv (Cd r m N) (λx=>LW r ((Cd r m N).o x)) cs ((x.getD []).length+1) (x.getD [])=z at*;cases x with
   |none=>exact jw [hr 57 (Dl hx),AA 64 (rNL.ixZ hz),AA 65 (rNL.p1Z Vs hz),hf 66 (AeR (pre:=[Z8 r.Cards m N,aE aj v]) h1),AA 71 (rNL.ixZ hz),AA 72 (rNL.p1Z Vs hz),hf 73 (AeR (pre:=[.agg (aI r),aE aj cs]) h2),hf 74 h4,hbb 59 (Xl (q:=k) aa)] [] k5 []
   |some s=>exact jw [hr 57 (Dl hx),AA 64 (rNL.ixZ hz),AA 65 (rNL.p1Z Vs hz),hf 66 h1,AA 71 (rNL.ixZ hz),AA 72 (rNL.p1Z Vs hz),hf 73 h2,hf 74 h4,hbb 59 (Xl (q:=k) aa)] [] k5 []
  .split at hs
   .rename_i he;subst he;exact Ar [hr 57 (Ef (s:=A)),hf 77 a] []
   .cases hs
 refine pO 111111100 (s0 78 fI [(7,Z8 r.Cards m N),(8,.ptr (aI r) 0),(9,aE aj v),(10,aE aj cs),(11,.rsl 0 0 2)] [(0,oNL [some so,none])] 1 0) [hf 24 e1,hf 27 e2,hf 29 e3] [hc (rfl:2=2),hc (rNL.imm [some so,none])] ?_ [] [(0,0)] [(0,.row)];rcases List.eq_nil_or_concat cs with rfl|⟨q,x,rfl⟩
 .exact yl 11111110 [hc (rfl:2=2),hc (rNL.imm [some so,none])] [hc (rNL.al [some so,none])] (key [some so,none] aC cq)
 .rw[List.concat_eq_append] at*;obtain⟨i,o,i1,e,_,_,_,_,_,_,_,d,C⟩:=aat P h14 hkn (hcs x aC);obtain⟨_,_,_,_,a1,a2⟩:=AcZ P h14 d (hkn i o e) (by have:=C.kind;omega);have a3:=rZ.fo (GU fI a1);have ex:aS (q++[x]) (q.length:Int)=some x:=Be aC;have e38:lD .sub (iG (((q++[x]).length:Nat):Int)) (iG 1)=some (iG (q.length:Int)):=by rw[Rf] at c5⊢;exact dec aa
  have hp:ba prog fI 38 [.agg (aI r),.agg (aj x)] (iG (i:Int)):=dX fI (by rw[dC (by have:=w.nL;omega)];unfold gO;rw[M5 w i1])
  have ho:aS r.L (i:Int)=some o:=Be e;exact yl 11111110 [hc (rfl:2=2),hc (rNL.imm [some so,none]),hr 33 (show decide ((0:Int)<(((q++[x]).length:Nat):Int))=true from C3 aC),hbb 38 e38,AA 39 (ac.ixZ ex),AA 40 (ac.ptZ aW ex),hf 41 hp,hr 43 (show decide ((0:Int)<=(i:Int))=true from C3 aa),AA 49 (eJ.ixZ ho),AA 50 (eJ.ptZ GN ho),hf 51 a3,Tn 53 rNL 24 [some so,none] (some (aah r o)) aC] [hc (rNL.al [some so,none,some (aah r o)])] (key [some so,none,some (aah r o)] aC cq)
def It:Mi:=(ql [1,2]).getD []
theorem AdQ:ql [1,2]=some It:=aH
theorem Y5:It.all KK=true:=aH
theorem Sg:It.length=2:=aH
theorem Acf:xf It:=OM aH
theorem Am8:It.map (·.Device)=[1,2]:=aH
attribute [irreducible] It
theorem wf0{cs:Mi}(hl:cs.length<=1000)(hc:cs.all KK=true):Fs ⟨cs,[],[],[],[]⟩ where
 nL:=aC
 nI:=rfl
 nU:=rfl
 nN:=rfl
 nC:=hl
 cards:=by grind [KK,c8,fS]
 up:=by grind
 rows:=by grind
 inlt:=by grind [Rh]
 ops:=by grind
 ids:=by grind
 nd:=aC
 one:=by grind
 tr:=by grind
 la:=by grind [Rh]
def oL:Bp:=⟨1,1,1,0,[],0,0,0,0,[⟨77,[]⟩],⟨0,0,0⟩,0,[],[],⟨0,0,0⟩,[],0,0,[],0,[],⟨0,0⟩⟩
theorem Aij:Bg oL:=by constructor<;>simp[oL,c8,fS];all_goals grind [Jb,fS,Ko,c8]
def oX:Bp:=(nR oL).getD oL
theorem Aik:nR oL=some oX:=aH
def rL:AQ×Int:=(AO ⟨It,[],[],[],[]⟩ oX).getD (⟨[],[],[],[],[]⟩,1)
theorem Ail:AO ⟨It,[],[],[],[]⟩ oX=some rL:=aH
theorem Ak4:rL.2=0:=aH
theorem Ak5:qo rL.1 oX=some [1]:=aH
attribute [irreducible] rL oX
theorem Ag8:∃(b:Nat->Jq) (N:Ja) (x:Ab),rL.1.L=[oX]/\rL.1.IDs=[x]/\rL.1.Cards=It/\pV oX=some x/\Abc rL.1 b N/\Pg rL.1 (b 1) N:=by
 obtain⟨v,e,s,rfl,h1,h2⟩:=Io Aij;have e:=Bj (Aik.symm.trans e);have so:Bg oX:=e▸Aij.sig s;have hs:fS oX.Sig.S:=by grind
 have w0:=wf0 (cs:=It) (by rw[Sg];decide) Y5;obtain⟨v,ev,w,ha⟩:=QG w0 so hs;obtain rfl:=Bj (Ail.symm.trans ev);rcases ha with⟨h,_⟩|⟨x,up,row,_,a,hid,hrow,hg⟩
 .grind [Ak4]
 have gr:Lz ⟨It,[],[],[],[]⟩ rL.1:=by grind [Lz]
 obtain⟨b,N,c,_,h3,h4⟩:=OL gr rfl rfl Acf;have hL:rL.1.L=[oX]:=by rw[hg];rfl
 rw[hL] at h4;exact⟨b,N,x,hL,by rw[hg];rfl,c,hid,h3,(by grind [Afe,Sg,Y5,Am8])⟩
abbrev oR1:aQ:=[ob 0 3 [iG 1],ob 1 22 [.rsl 0 0 1]]
theorem Afd:jg prog fI 15 [aE Jc [[1]],.rsl 1 0 1] oR1 2 (bG true) oR1 2:=by
 refine pP func15 ?_;refine pN (λk:Nat=>(s0 27 fI [(0,aE Jc [[1]]),(1,.rsl 1 0 1),(5,iG (k:Int))] oR1 2 2)) 1110122 (Fw (n:=1) B5) [] [hc (rfl:1=1),hc (rfl:1=1)] (λB k w hs k5 a=>?_) [] [(0,0),(1,1)] [(9,.row)];unfold LC at hs;split at hs
 .rename_i hlt;obtain rfl:k=0:=aa;obtain rfl:=Bj hs;exact jw [hq 25 [aE cZ [1],aE cZ [1]] [hc (rZ.al [1])] (Aac (gl:=fI) (l:=[1]) B5)] [hc (rfl:1=1),hc (rfl:1=1)] (k5 _ rfl) [] [(0,0),(1,1)] [(9,.row)]
 .split at hs
  .rename_i he;subst he;exact mt .ret (s0 27 fI [(4,bG true)] oR1 2 2) [bG true] [] [hc (rfl:1=1)] (ρ:=[(0,0),(1,1)]) (kd:=[(9,.row)])
  .cases hs
abbrev frL(x:Ab)(g:G)(r:Fr):St:=(s0 97 fI ([(1,.ptr (aI rL.1) 0),(2,.ptr (aJ oX) 0),(4,g),(5,.ptr (aj x) 0)]++r) [] 0 0)
abbrev oG2:aQ:=[ob 0 33 (aI ⟨It,[],[],[],[]⟩)]
theorem O8:ba prog fI 19 [] (bG true):=by
 obtain⟨a,N,x,hL,d,g,hid,hR,P⟩:=Ag8;have w:=P.w;have hof:=ZC hR;have hnl:=P.p.len;rw[hL] at hof hnl;have hnl:N.length=1:=hnl;obtain⟨y,rfl⟩:∃y,N=[y]:=List.length_eq_one_iff.1 hnl;have hy:=(P.p.nd 0 y rfl).2.1;rw[d] at hy;obtain rfl:x=y.id:=by grind
 have so:=(w.ops 0 oX (by rw[hL];rfl)).1;have hb:=NP so hid;have hk:oX.Kind=1:=aH;have hBy:oX.By=1:=aH;have h14:rL.1.L.length<=14:=by grind
 have k1:Kn oX:=λh=>by grind
 have hkn:∀(k:Nat) (o:Bp),rL.1.L[k]?=some o->Kn o:=by grind
 obtain⟨_,_,_,b,e,_⟩:=AcZ P h14 so k1 (by grind);rw[Ak5] at e;obtain⟨j,f⟩:=P.op (i:=0) (o:=oX) (x:=y.id) (by rw[hL];rfl) (by rw[d];rfl);have es:LW rL.1 oX=[[1]]:=by unfold LW;rw[<-Bj e,hk,hBy];kernel_rfl
 rw[<-Bj e] at b;obtain⟨al,hA,hp,hi,hd⟩:=Ai4 P h14;rw[d] at hp;obtain rfl:=List.perm_singleton.1 hp;obtain⟨row,c1,_,c2,_,c3⟩:=Aa8 P h14 hkn hi hd;obtain rfl:=List.perm_singleton.1 c2;have hcm:Wq rL.1 (Cd rL.1 (a 1) [y]) y.id=true:=by unfold Wq;rw[f,es];kernel_rfl
 have h1:=Ac2 P h14 hkn c3 c1 (set:=[1]) B5;have h2:=Ac2 P h14 hkn c3 c1 (set:=[2]) B5;have h3:=AeQ P h14 hkn y.id;rw[f,es] at h3;obtain⟨c,c4⟩:∃c,It[1]?=some c:=⟨_,DS (by rw[Sg];decide)⟩;have hB1:y.id.By=1:=hb.1.trans hBy;have kc:(Cd rL.1 (a 1) [y]).card 2=some c:=by show rL.1.Cards.find? _=_;rw[g];exact(show It.find? (λc=>decide (c.Device=2))=It[1]? by kernel_rfl).trans c4
 have kp:aas (Cd rL.1 (a 1) [y]) y.id 0=77:=by unfold aas;rw[f];kernel_rfl
 rw[List.filter_cons_of_pos hcm,List.filter_nil,show JD (Cd rL.1 (a 1) [y]) (λx=>LW rL.1 ((Cd rL.1 (a 1) [y]).o x)) [y.id] [1]=some ⟨[1],77,y.id,0⟩ by simp[JD,RG,Ni,hB1,kp]] at h1;rw[List.filter_cons_of_pos hcm,List.filter_nil,show JD (Cd rL.1 (a 1) [y]) (λx=>LW rL.1 ((Cd rL.1 (a 1) [y]).o x)) [y.id] [2]=some ⟨[2],c.Lead,⟨0,0,0⟩,0⟩ by simp[JD,RG,Ni,hB1,kc]] at h2;simp only[Ag,RJ] at hA b h1 h2 h3;change jg _ _ _ _ _ _ _ [(0,oG rL.1.Cards 1 2),(1,oM (a 1)),(2,zQ [y])] 3 at hof;have c5:aS rL.1.Cards 1=some c:=by rw[g];exact c4
 generalize a 1=m at*;refine Gh func19 ?_;refine pO [1,0] (s0 97 fI [] [] 0 0) [] [] ?_;refine dCu 1 (s0 97 fI [(11,aE cZ [1,2])] [] 0 0) (s0 97 fI [(1,.ref 0 0)] oG2 1 0) [] [hf 12 (bT.fo (GQ fI AdQ)),hf 13 (M8 fI (cards:=It) rfl)] [hc (rZ.al [1,2])] [] ?_;refine pO 1110 (s0 97 fI [(1,.ref 0 0)] oG2 1 0) [] [] ?_;refine dCu 2 (s0 97 fI [(1,.ref 0 0),(15,.sl [uG 77,Iy] 1)] oG2 1 0) (s0 97 fI [(1,.ref 0 0),(2,.ptr (aJ oX) 0)] oG2 1 0) [] [hf 17 (Ajf [.agg ((bF [4,14,15,19,22,24] (aJ oL)).set 9 (.sl [uG 77,Iy] 1))] (E8 fI Aik))] [hc (p:=[uG 77,Iy].length=1*2/\(∀x∈[uG 77,Iy],bB x)/\1=1) ⟨rfl,eB aH,rfl⟩] [hc (eB (gs:=aJ oX) aH)] ?_;refine pO 11111100 (s0 97 fI [(1,.ptr (aI rL.1) 0),(2,.ptr (aJ oX) 0),(3,iG rL.2),(4,Z8 rL.1.Cards m [y])] [] 0 0) [hf 21 (M9 fI Ail),tN 25 [] 1 [] [.agg (aI rL.1)] [ob 0 111 [aE bv rL.1.Cards,.mref 2,.rsl 3 0 1],(1,oM m),(2,zQ [y])] hof trivial ⟨⟨rfl,.inl rfl⟩,⟨rfl,rfl,rfl,rfl,.inr ⟨rfl,cf _⟩⟩,⟨rfl,.inr ⟨rfl,az.imm _⟩⟩,trivial⟩] [hc (eB (gs:=aI rL.1) aH),hc (cf m),hc (az.al [y]),hc (eB (gs:=[aE bv rL.1.Cards,gMp m,aE d7 [y]]) aH)] ?_;refine pO 111111110 (frL y.id (Z8 rL.1.Cards m [y]) []) [hr 30 (show decide (rL.2≠0)=false by rw[Ak4];rfl),hf 33 (AI fI hid)] [hc (eB (gs:=aj y.id) aH)] ?_;refine dCu 4 (frL y.id (Z8 rL.1.Cards m [y]) [(35,Z8 rL.1.Cards m [y]),(37,aE aj [y.id]),(38,aE cZ [1])]) (frL y.id (Z8 rL.1.Cards m [y]) [(6,.ptr (DP ⟨[1],77,y.id,0⟩) 0),(7,bG true)]) [hf 37 hA] [hf 39 h1] [hc (rZ.al [1])] [hc (eB (gs:=DP ⟨[1],77,y.id,0⟩) aH)] ?_;refine pO 1111111110 (frL y.id (Z8 rL.1.Cards m [y]) [(6,.ptr (DP ⟨[1],77,y.id,0⟩) 0),(7,bG true)]) [] [] ?_;refine dCu 4 (frL y.id (Z8 rL.1.Cards m [y]) [(6,.ptr (DP ⟨[1],77,y.id,0⟩) 0),(7,bG true),(43,Z8 rL.1.Cards m [y]),(45,aE aj [y.id]),(46,aE cZ [2])]) (frL y.id (Z8 rL.1.Cards m [y]) [(6,.ptr (DP ⟨[1],77,y.id,0⟩) 0),(7,bG true),(8,.ptr (DP ⟨[2],c.Lead,⟨0,0,0⟩,0⟩) 0),(9,bG true)]) [hf 45 hA] [hf 47 h2] [hc (rZ.al [2])] [hc (eB (gs:=DP ⟨[2],c.Lead,⟨0,0,0⟩,0⟩) aH)] ?_;exact Ar [hf 52 h3,hV 66 (dU (r:=true) y.id y.id aC),AA 73 (bT.ixZ c5),AA 75 (bT.fdZ tW 2 c5),hr 76 (show decide ((c.Lead:Int)=(c.Lead:Int))=true by simp),hV 82 (dU (r:=true) ⟨0,0,0⟩ ⟨0,0,0⟩ aC),hmc 88 [0,1] 3 oR1 [aE Jc [[1]],.rsl 1 0 1] [(0,⟨3,[iG 1],none⟩),(1,⟨22,[.rsl 0 0 1],none⟩)] Afd ⟨⟨rfl,.inl rfl⟩,⟨rfl,.inl rfl⟩,trivial⟩ ⟨⟨rfl,.inl rfl⟩,⟨rfl,.inl rfl⟩,trivial⟩,hf 93 b,hq 95 [aE cZ [1],aE cZ [1]] [hc (rZ.al [1])] (Aac (gl:=fI) (l:=[1]) B5)] []
abbrev UC:List (String×DataW Unit):=[("huddle/roll.asks",Rows.laid_huddle_roll_asks),("huddle/op.kinds",Rows.laid_huddle_op_kinds)]
theorem Y8:Tryz.prog.globalNamed "huddle/roll.asks" =some 0:=aH
theorem WB:Tryz.prog.globalNamed "huddle/op.kinds" =some 1:=aH
theorem Y9:(Tryz.prog.globals[0]?).map (·.type)=some 197:=aH
theorem WC:(Tryz.prog.globals[1]?).map (·.type)=some 253:=aH
theorem AdH{l:List α}{i:Nat}{v:α}(h:l[i]?=some v):(l.drop (i*1)).take 1=[v]:=by rw[Nat.mul_one];obtain⟨hi,rfl⟩:=cr h;rw[List.drop_eq_getElem_cons hi];rfl
theorem IL{P:Program}{sp:Nat->Bool}{fuel:Nat}{ps rs:Array TypeId}{va:Bool}{q:List MemPlace}(ht:P.underlying t=some (.func ps rs va))
  (h:DataW.trod (funcToken P) P w base sp true fuel t [v]=some (.nil,q)):v= .nilFunc:=by
 cases fuel with
 |zero=>simp[DataW.trod] at h
 |succ n=>cases v<;>simp[DataW.trod,ht] at h;rfl
theorem zo{P:Program}{H:Type}{enc:TypeId×Value->H}{sp:Nat->Bool}{a:Bool}{fuel n:Nat}{e:TypeId}{cs:Array Value}{ds:List (DataW H)}{p:List MemPlace}{nm:String}{g:Nat}(ht:P.underlying t=some (.array n e))(hc:P.cellsOf e=1)(hn:P.cellsOf t=n)
  (hg:P.globalNamed nm=some g) (hv:w.var? P nm=some cs) (h:DataW.trod enc P w base sp a fuel t cs.toList=some (.agg ds,p)):∀i,i<n->∃v d m q,w.cell? ⟨g,i,none⟩=some v/\ds[i]?=some d/\DataW.trod enc P w base sp a m e [v]=some (d,q):=by
 obtain⟨xs,m,_,hx,hl,hlen,b⟩:=DataW.trod_array ht h
 simp only[Gq,DataW.agg.injEq] at hx
 intro i hi
 have hsz:cs.size=n:=by rw[<-hn,<-hl];simp
 have hcell:=World.var?_cell hg hv i
 have hci:cs[i]?=some (cs[i]'aa):=Array.getElem?_eq_getElem aa
 have hli:cs.toList[i]?=some (cs[i]'aa):=by rw[Array.getElem?_toList];exact hci
 have:=b i hi
 rw[hc,AdH hli] at this
 have hxi:xs[i]?=some (xs[i]'aa):=DS aa
 rw[hxi] at this
 refine⟨_,(xs[i]'aa).1,m,(xs[i]'aa).2,hcell.trans hci,?_,this⟩
 rw[hx.1,M7,hxi]
 rfl
theorem ML{g i:Nat}(h:W.cell? ⟨g,i,none⟩=some v):g<W.heap.size:=by
 rcases HB g W.heap.size with h'|h'
 .exact h'
 .unfold World.cell? at h;simp[Array.getElem?_eq_none h'] at h
def IM:G->Value
 | .lit v=>v
 | .clo fn _ _=> .func fn #[] #[]
 |_=> .nilFunc
theorem WD{S:Nat->Prop}{g:G}(h:(∃v,g= .lit v)\/∃n,g= .clo (.func n) [] []):IV S W g (IM g):=by
 rcases h with⟨v,rfl⟩|⟨n,rfl⟩
 .exact .lit v
 .exact .clo _ [] [] #[] #[] rfl rfl aC aC
theorem MM{g:Nat}{l:List G}(h0:g<W.heap.size)(hc:∀i x,l[i]?=some x->W.cell? ⟨g,i,none⟩=some (IM x))(hg:∀x∈l,((∃k z,x= .lit (.int k z))\/x= .lit .nilFunc)\/∃n,x= .clo (.func n) [] []):IV (λ_=>False) W (.ptr l 0) (.pointer (some ⟨g,0,none⟩)):=by
 have e:(⟨g,0,none⟩:Addr)=⟨g,0+0,none⟩:=rfl;refine .ptr l 0 g 0 (λi=>IM (l.getD i .junk)) (λh=>h) h0 (λi hi=>?_) (λi hi=>?_) (λi x hx=>?_)
 .rw[Nat.zero_add];refine hc i _ ?_;rw[List.getD_eq_getElem?_getD,DS hi];rfl
 .have hx:l[i]?=some (l[i]'hi):=DS hi;rw[List.getD_eq_getElem?_getD,hx];rcases hg _ (bO hx) with(⟨k,z,h⟩|h)|⟨n,h⟩<;>(simp only[Nr];rw[h];rfl)
 .rw[List.getD_eq_getElem?_getD,hx];simp only[Nr];refine WD ?_;rcases hg _ (bO hx) with(⟨k,z,h⟩|h)|⟨n,h⟩
  .exact .inl ⟨_,h⟩
  .exact .inl ⟨_,h⟩
  .exact .inr ⟨n,h⟩
theorem Ov(h:laidMetH Tryz.prog UC W):IV (λ_=>False) W (.ptr (nG.flatMap cZ) 0) (.pointer (some ⟨1,0,none⟩)):=by
 have hm:laidMet Tryz.prog [("huddle/op.kinds",Rows.laid_huddle_op_kinds)] W:=h.1;obtain⟨ps,⟨g1,e,c,f1,p1,q1,a,b,hv1,hd1,_,_⟩,_,_⟩:=hm;obtain rfl:=Bj (WB.symm.trans a);obtain rfl:=Bj (WC.symm.trans b);have hcells:=zo (n:=14) Tryz.underlying253 aH aH a hv1 hd1;have key:∀i x,(nG.flatMap cZ)[i]?=some x->W.cell? ⟨1,i,none⟩=some (IM x):=by
  intro i x hx;have hi:i<14:=(cr hx).1;obtain⟨v,d,m,q,hc,hd,hr⟩:=hcells i hi;obtain⟨k,e1,e2,_⟩:=DataW.trod_int Tryz.underlying3 hr;simp only[Gq] at e2;rw[hc];simp only[List.cons.injEq,and_true] at e1;rw[e1];rw[e2.1] at hd;match i,hi with
  |0,_|1,_|2,_|3,_|4,_|5,_|6,_|7,_|8,_|9,_|10,_|11,_|12,_|13,_=>cases hd;cases hx;rfl
 refine MM (ML (key 0 _ rfl)) key λx hx=> .inl (.inl ?_);obtain⟨z,_,hz⟩:=List.mem_flatMap.1 hx;cases List.mem_singleton.1 hz;exact⟨_,_,rfl⟩
noncomputable abbrev fby(l:List UInt8):List Nat:=(List.range Tryz.prog.funcs.size).filter λf=>(Tryz.prog.funcs[f]?).any (·.name.toUTF8.data.toList==l)
theorem aaJ:fby [104,117,100,100,108,101,47,114,111,108,108,46,97,115,107,115,36,49]=[406]:=aH
theorem aaK:fby [104,117,100,100,108,101,47,114,111,108,108,46,97,115,107,115,36,50]=[408]:=aH
theorem aaL:fby [104,117,100,100,108,101,47,114,111,108,108,46,97,115,107,115,36,51]=[409]:=aH
theorem aaM:fby [104,117,100,100,108,101,47,114,111,108,108,46,97,115,107,115,36,52]=[410]:=aH
theorem aaN:fby [104,117,100,100,108,101,47,114,111,108,108,46,97,115,107,115,36,53]=[411]:=aH
theorem aaO:fby [104,117,100,100,108,101,47,114,111,108,108,46,97,115,107,115,36,54]=[412]:=aH
theorem aaP:fby [40,42,104,117,100,100,108,101,47,114,111,108,108,46,82,111,108,108,41,46,111,119,110]=[414]:=aH
theorem aaQ:fby [104,117,100,100,108,101,47,114,111,108,108,46,97,115,107,115,36,55]=[415]:=aH
theorem aaR:fby [104,117,100,100,108,101,47,114,111,108,108,46,97,115,107,115,36,56]=[416]:=aH
theorem Rc(h:laidMetH Tryz.prog UC W):IV (λ_=>False) W (.ptr IU 0) (.pointer (some ⟨0,0,none⟩)):=by
 obtain⟨g,t,cs,fuel,p,hg,ht,hv,a⟩:=h.funcs (List.mem_cons_self ..);obtain rfl:=Bj (Y8.symm.trans hg);obtain rfl:=Bj (Y9.symm.trans ht);have hd1:DataW.trod (funcToken Tryz.prog) Tryz.prog W 0 (λ_=>true) true fuel 197 cs.toList=some (.agg [.nil,.nil,.held [104,117,100,100,108,101,47,114,111,108,108,46,97,115,107,115,36,49],.held [104,117,100,100,108,101,47,114,111,108,108,46,97,115,107,115,36,50],.nil,.held [104,117,100,100,108,101,47,114,111,108,108,46,97,115,107,115,36,51],.held [104,117,100,100,108,101,47,114,111,108,108,46,97,115,107,115,36,52],.nil,.held [104,117,100,100,108,101,47,114,111,108,108,46,97,115,107,115,36,53],.held [104,117,100,100,108,101,47,114,111,108,108,46,97,115,107,115,36,54],.held [40,42,104,117,100,100,108,101,47,114,111,108,108,46,82,111,108,108,41,46,111,119,110],.held [104,117,100,100,108,101,47,114,111,108,108,46,97,115,107,115,36,55],.held [40,42,104,117,100,100,108,101,47,114,111,108,108,46,82,111,108,108,41,46,111,119,110],.held [104,117,100,100,108,101,47,114,111,108,108,46,97,115,107,115,36,56]],p):=a;have hcells:=zo (n:=14) Tryz.underlying197 aH aH hg hv hd1;have key:∀i x,IU[i]?=some x->W.cell? ⟨0,i,none⟩=some (IM x):=by
  intro i x hx;have hi:i<14:=(cr hx).1;obtain⟨v,d,m,q,hc,hd,hr⟩:=hcells i hi;match i,hi with
  |0,_|1,_|2,_|3,_|4,_|5,_|6,_|7,_|8,_|9,_|10,_|11,_|12,_|13,_=>
   cases hd;cases hx;rw[hc];first
    |(rw[IL Tryz.underlying196 hr];rfl)
    |(rw[func_of_trod (f0:=406) Tryz.underlying196 aaJ hr];rfl)
    |(rw[func_of_trod (f0:=408) Tryz.underlying196 aaK hr];rfl)
    |(rw[func_of_trod (f0:=409) Tryz.underlying196 aaL hr];rfl)
    |(rw[func_of_trod (f0:=410) Tryz.underlying196 aaM hr];rfl)
    |(rw[func_of_trod (f0:=411) Tryz.underlying196 aaN hr];rfl)
    |(rw[func_of_trod (f0:=412) Tryz.underlying196 aaO hr];rfl)
    |(rw[func_of_trod (f0:=414) Tryz.underlying196 aaP hr];rfl)
    |(rw[func_of_trod (f0:=415) Tryz.underlying196 aaQ hr];rfl)
    |(rw[func_of_trod (f0:=416) Tryz.underlying196 aaR hr];rfl)
 refine MM (ML (key 0 _ rfl)) key λx hx=>?_;simp only[IU,EQ,Ll,or_false] at hx;rcases hx with rfl|rfl|rfl|rfl|rfl|rfl|rfl|rfl|rfl|rfl|rfl|rfl|rfl|rfl<;>first|exact .inl (.inr rfl)|exact .inr ⟨_,rfl⟩
theorem TK(h:laidMetH Tryz.prog UC W):Gls fI (λ_=>False) W:=by
 intro g l hl;simp only[fI,List.lookup_cons] at hl;split at hl
 .rename_i e;cases hl;obtain rfl:=eq_of_beq e;exact Ov h
 .split at hl
  .rename_i e;cases hl;obtain rfl:=eq_of_beq e;exact Rc h
  .cases hl
end Go.Proofs.YtghphhhpagagbaaGreatDoor
