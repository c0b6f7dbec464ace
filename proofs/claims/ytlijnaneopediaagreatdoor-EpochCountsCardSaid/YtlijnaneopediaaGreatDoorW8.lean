/- Texts. -/
import Derived.LaidHandle
import Derived.LaidMore
import Derived.OpenShut
import Derived.ProofKit
import Derived.Test.YtlijnaneopediaaGreatDoorRows
import Derived.Test.YtlijnaneopediaaGreatDoorJ4
namespace Go.Proofs.YtlijnaneopediaaGreatDoor
set_option linter.unusedSectionVars false
set_option linter.unusedVariables false
set_option linter.unusedSimpArgs false
open Go.RowKit Go.Proofs.Tryz Go.ChangeShapes Go.WideShapes Go.ChangeAt
attribute [local irreducible] Tr dz Gp
variable (gl:Cd)
variable {α:Type}{cs ids row v:A3}{D:C7}{R:Ad}{a l:Bk}{g r:A7}{c most n:Int}{N:IH}{fi:FuncId}{fa fc:Bj}{I:Gi}{x y:Ab}{base k:Nat}{W w:World}{t:TypeId}
theorem AjC{gl:Cd}{gg:Aj}{o:Bi}{s:A3}(hn:s.length<=14)(hp:s.Perm v)(hs:∀x∈v,1<=x.Seq):∃fr fk w,ba prog gl 116 [.ptr (Ag gg) 0,aE aj s] (aE Bu fr)/\Abf fr (λf=>JD f o)=some fk/\qN v o.By=some w/\fk=(decide (0<w)&&decide (w<=o.Seq)):=by
 obtain⟨fs,hq,hi⟩:=AiV hn;have hl:=AaN (ids:=s) aa;have hI:=AgD s aa;have hfl:fs.length=(Ui s).2.es.length:=by rw[hq.length_eq,Hq]
 have hF:=(AbT (gl:=gl) (gg:=gg) (ids:=s) (r:=fs) (n:=fs.length) aa aa hfl.symm hi).fn Bg.sz (Bg.len _) (Bg.imm _);obtain⟨w,e,hw⟩:=Uu (ids:=v) (by have:=hp.length_eq;omega) hs o.By;refine⟨fs,_,w,hF,?_,e,rfl⟩;rw[show(λf=>JD f o)=λf=>some (decide (f.Device=o.By)&&decide (f.Seq<=o.Seq)) from funext λf=>by unfold JD;cases decide (f.Device=o.By)<;>rfl,AbB (p:=λf:Bf=>decide (f.Device=o.By)&&decide (f.Seq<=o.Seq)) aa λ_ _=>rfl];congr 1;rw[Bool.eq_iff_iff,List.any_eq_true];simp only[bA,decide_eq_true_eq];have hm:∀f:Bf,f∈fs↔(Ui s).2.get f.Device=some f.Seq:=λf=>by rw[hq.mem_iff,Tm]
 have hc:∀f,Ng v f=Ng s f:=λf=>(Abs hp f).symm;have hex:∀{d q:Int},2<=Ng s ⟨d,q⟩->∃y∈v,y.By=d/\y.Seq=q:=λ{d q} h=>by unfold Ng at h;obtain⟨y,hy⟩:=List.exists_mem_of_length_pos (l:=s.filter λx=>decide (x.By=d)&&decide (x.Seq=q)) (Nat.lt_of_lt_of_le B5 h);rw[GV] at hy;have:=hy.2;simp only[bA,decide_eq_true_eq] at this;exact⟨y,hp.mem_iff.1 hy.1,this.1,this.2⟩
 unfold FsI at hw;simp only[hc] at hw;refine⟨λ⟨f,hf,h1,h2⟩=>?_,λ⟨h1,h2⟩=>?_⟩
 .rw[hm] at hf;have h3:=hI.a _ _ hf;obtain⟨y,g,c,i⟩:=hex h3;rw[h1] at h3 c;rcases hw with⟨_,h5⟩|⟨z,k1,k2,k3,j,k5⟩
  .exact absurd (i▸h3) (h5 y g c)
  .have a:=k5 y g c (i▸h3);have b:=hs z k1;omega
 .rcases hw with⟨h5,_⟩|⟨z,k1,k2,k3,j,k5⟩
  .omega
  .obtain⟨q,q1,k⟩:=hI.b _ _ j;exact⟨⟨o.By,q⟩,(hm _).2 q1,rfl,by show q<=o.Seq;omega⟩
theorem Alt{D':C7}{o:Bi}{i:Ab}(h:o7 D o i=some D'):D'.In=D.In:=by grind [o7,GE]
theorem AiC(h:Rr R D)(hR:Bh R)(d:Int):O4 R d=decide (d∈GR R):=by
 have hp:=(LT hR).2.1;have hi:=h.in_ d;unfold O4 Hf;rw[Bool.eq_iff_iff,decide_eq_true_iff,hp.mem_iff,Fl];by_cases c:d∈D.In
 .grind [GL]
 .rw[BU c] at hi;rw[hi];refine⟨(by grind),λ⟨q,hq,e⟩=>?_⟩;have hg:=JH hR.ci (k:=q.1) (v:=q.2.1) (n:=q.2.2) hq;grind
theorem af0{b:Bk}(h1:a.length<=1000)(h2:b.length<=1000):AH (qn a b) ([],0)=some (b.filter (QF a)):=by
 refine T.eq (T.forA b.length (λk acc=>acc=(b.take k).filter (QF a)) aa aC (λk acc hk hj=>?_) λacc hj=>?_)
 .obtain⟨y,hy,hm⟩:=dk hk;subst hj;have hl:((b.take k).filter (QF a)).length<=1000:=by grind
  unfold qn;simp only[eA hk,ax,au,hy,aL,cX (show a.length<=1000000 by omega)];refine .ite (λc=> .bind (.app cq (.some ⟨aq aa,?_⟩))) λc=> .some ⟨aq aa,?_⟩
  .grind [Rb]
  .rw[Rb hy,Nj];simp[c]
 .unfold qn;dsimp only;rw[eF,AQ];subst hj;exact .some (show _=_ by rw[DZ])
theorem af1{b x:Bk}(h0:x.length<=1000)(h1:a.length<=1000)(h2:b.length<=1000):AH (qm a b) (x,0)=some (x++a.filter λd=> !QF b d):=by
 refine T.eq (T.forA a.length (λk acc=>acc=x++(a.take k).filter λd=> !QF b d) aa aC (λk acc hk hj=>?_) λacc hj=>?_)
 .obtain⟨y,hy,hm⟩:=dk hk;subst hj;have hl:((a.take k).filter λd=> !QF b d).length<=1000:=by grind
  unfold qm;simp only[eA hk,ax,au,hy,aL,cX (show b.length<=1000000 by omega)];refine .ite (λc=> .bind (.app cq (.some ⟨aq aa,?_⟩))) λc=> .some ⟨aq aa,?_⟩
  .grind [Rb]
  .rw[Rb hy,Nj];simp[c]
 .unfold qm;dsimp only;rw[eF,AQ];subst hj;exact .some (show _=_ by rw[DZ])
section
variable {g:A7} {m:IX} {N:IH} (P:Pg g m N)
include P
theorem Alu(k:Ja g 1000 D)(h:Rr R D)(hR:Bh R){o:Bi}{i:Ab}(so:Be o)(hp:UE o i):∃D',DM D o i=some D'/\lu D'=some (GR (U0 R o i))/\∀d,O4 (U0 R o i) d=decide (d∈GR (U0 R o i)):=by
 obtain⟨D',e,k',_⟩:=Gc P.w B5 k so i;refine⟨D',e,?_⟩;have z:=Ul P k B5;have hQ:=R4 hR hp;have a:=k.dev;have b:=k.nL;by_cases c:o.Kind=9
 .have eD:DM D o i=o7 D o i:=by unfold DM;rw[ofE z.z,aL];obtain⟨f,e3,_⟩:=XN z.z h (XM D.Cards o.By);grind
  rw[eD] at e;have ei:=Alt e;have eQ:(U0 R o i).in_=R.in_:=by grind [U0,Aao]
  have e1:GR (U0 R o i)=GR R:=by grind [GR]
  have e2:lu D'=lu D:=by grind [lu]
  refine⟨by grind [AgP,Sy.z],λd=>?_⟩;rw[e1,<-AiC h hR d];grind [O4]
 .obtain⟨j,e2,h2⟩:=doE z (by grind) h hR (o:=o) (i:=i) (by grind);rw[e] at e2;obtain rfl:=Bo e2;exact⟨AgP ⟨by rw[k'.cards];exact P.w.nC,by grind [Ja],by grind [Ja],by grind [Ja]⟩ h2 hQ,AiC h2 hQ⟩
end
theorem Aco(hR:Bh R){o:Bi}(h:K4 R o=0):1<=o.By/\o.By<=6:=by
 unfold K4 at h;split at h
 .grind [Bh,Dl]
 .cases c:O4 R o.By with
  |false=>grind
  |true=>
   unfold O4 Hf at c;cases hg:R.in_.get o.By with
   |none=>grind
   |some v=>grind [Bh,GL]
section
variable {g:A7} {m:IX} {N:IH} (P:Pg g m N)
include P
theorem Aaf(k:g.L.length<=14)(d:∀(i:Nat) (o:Bi) (x:Ab),g.L[i]?=some o->g.IDs[i]?=some x->x.Seq=o.Seq)(v1:DL g v)(b:v.Nodup):∃row vs:A3,n8 g v=some row/\row.Perm v/\(row.Pairwise λx y=>Nf (Bx g m N) x y<0)/\vJ v=some vs/\vs.Perm (v.filter (Uk v))/\vs.length<=1000/\AbH fI (LC ⟨g.Cards,m,N⟩ row vs) (Bx g m N)/\(∀x∈row,x∈g.IDs)/\(∀x∈vs,x∈g.IDs)/\row.Nodup/\row.length<=14/\∀s:A3,s.Perm v->ba prog fI 62 [.ptr (Ag ⟨g.Cards,m,N⟩) 0,aE aj s] (aE aj row)/\ba prog fI 227 [.ptr (Ag ⟨g.Cards,m,N⟩) 0,aE aj s] (aE aj vs):=by
 have w:=P.w;have nI:=w.nI;have hG:=PJ w P.p;have hI:=SM hG;have opx:∀x∈g.IDs,∃(i:Nat) (o:Bi),g.IDs[i]?=some x/\g.L[i]?=some o/\FF o:=by grind [He,Fo.op]
 have hseq:∀x∈g.IDs,1<=x.Seq/\x.Seq<=2147483647:=λx hx=>by obtain⟨i,o,h1,h2,q⟩:=opx x hx;rw[d i o x h2 h1];exact(T1 q.numbers).seq
 have hv14:v.length<=14:=by have:=EC b v1.sub;omega
 obtain⟨row,l,c,h⟩:=MH w P.p aa b v1.sub;have hrl:row.length<=14:=by rw[c.length_eq];exact hv14
 have hrn:row.Nodup:=c.nodup_iff.2 b;have hrm:∀x∈row,x∈g.IDs:=λx hx=>v1.sub x (c.mem_iff.1 hx);have hO:∀s:A3,s.Perm v->ba prog fI 62 [.ptr (Ag ⟨g.Cards,m,N⟩) 0,aE aj s] (aE aj row):=λs a=>by
  have hs14:s.length<=14:=by rw[a.length_eq];exact hv14
  obtain⟨r,e,j,f⟩:=Uh (Ut (Bx g m N)) (a.nodup_iff.2 b) hs14;have:r=row:=OO (Ut (Bx g m N)).tr Nv (j.trans (a.trans c.symm)) f h;grind [AbP,List.Perm.length_eq]
 obtain⟨vs,w1,w2,n⟩:=Se (ids:=v) aa b (by grind [DL.sub]);have hvm:∀x∈vs,x∈g.IDs:=by grind [DL.sub]
 have hvl:vs.length<=1000:=by grind [List.Perm.length_eq,M0]
 have hV:∀s:A3,s.Perm v->ba prog fI 227 [.ptr (Ag ⟨g.Cards,m,N⟩) 0,aE aj s] (aE aj vs):=λs a=>by
  have hs14:s.length<=14:=by rw[a.length_eq];exact hv14
  obtain⟨r,e,j,f⟩:=Ail (gl:=fI) (gg:=⟨g.Cards,m,N⟩) hs14 (a.nodup_iff.2 b) (by grind [DL.sub,List.Perm.mem_iff]);have hq:(s.filter (Uk s)).Perm (v.filter (Uk v)):=by rw[show Uk s=Uk v from funext (Afw a)];grind
  have:r=vs:=OO NS.tr Y1 (by grind) f n;exact this▸e
 have hod:∀x∈row,UE ((Bx g m N).o x) x:=λx hx=>by obtain⟨i,o,h1,h2,_⟩:=opx x (hrm x hx);rw[(P.op h2 h1).2];grind [Pg.od]
 exact⟨row,vs,l,c,h,w1,w2,hvl,⟨hI,P.cd,hod,by show row.length<=1000;omega⟩,hrm,hvm,hrn,hrl,λs hs=>⟨hO s hs,hV s hs⟩⟩
theorem Abt(b:g.L.length<=14)(c:∀(i:Nat) (o:Bi) (x:Ab),g.L[i]?=some o->g.IDs[i]?=some x->x.Seq=o.Seq){v:A3}(v1:DL g v)(h:v.Nodup):∃(R:Ad) (D:C7) (sen:Bk),zY g v=some D/\Rr R D/\Bh R/\Ja g 1000 D/\(∀s:A3,s.Perm v->SE prog fI 24 [.ptr (Ag ⟨g.Cards,m,N⟩) 0,aE aj s] [] 0 0 (.ref 0 0) (BG f0 R)/\ba prog fI 120 [.ptr (Ag ⟨g.Cards,m,N⟩) 0,aE aj s] (aE cZ sen))/\sen.Nodup/\sen.length<=12/\jn g v=some sen:=by
 obtain⟨row,vs,f,j,_,w1,_,hvl,hL,hrm,hvm,hrn,hrl,hS⟩:=Aaf P b c v1 h;have hI:=SM (PJ P.w P.p);obtain⟨s1,s2⟩:=AeH P hrm;have d:=Sp hI (hS row j).1 aa;have e:=Aa2 P f aa hrm;obtain⟨D,k,cs,l,u,n,q,t⟩:=Ak9 P (ids:=v) v1 f hrn aa hrm w1 hvl hvm;have hod:=hL.o;have hcl:cs.length<=1000:=by grind
 exact⟨_,D,_,k,n,q,t,λs a=>⟨Ah1 hI P.cd (Aeo (I:=Bx g m N) (ids:=s) (row:=row) (s:=Mi (Bx g m N) row) (r:=cs) hL (hS s a).1 (hS s a).2 hvl d aa l) (by grind [LC]) hcl,Sp hI (hS s a).1 aa⟩,s1,s2,e⟩
theorem Ad3(f:g.L.length<=14)(j:∀(i:Nat) (o:Bi) (x:Ab),g.L[i]?=some o->g.IDs[i]?=some x->x.Seq=o.Seq){o:Bi}(so:Be o){i:Ab}(hid:pV o=some i)(k:ba prog fI 79 [.agg (aJ o)] (.agg (aj i)))(hp:1<=o.By/\o.By<=6->UE o i):∃(l:Bk) (v:A3) (R:Ad) (fk:Bool) (sen:Bk),(iV prog fI 58 [.ptr (Ag ⟨g.Cards,m,N⟩) 0,.agg (aJ o)] 3 l.length (l.flatMap cZ)/\qo g o=some l/\l.length<=12/\l.Nodup)/\Lm g o.Past=some v/\l=AdZ fk R o i sen/\Bh R/\(∃D,Rr R D)/\∀s:A3,s.Perm v->SE prog fI 24 [.ptr (Ag ⟨g.Cards,m,N⟩) 0,aE aj s] [] 0 0 (.ref 0 0) (BG f0 R):=by
 have w:=P.w;have hpl:=so.nPast;have hgl:o.Guards.length<=1000000:=by grind [Be.nGuards]
 have nI:=w.nI;have pl:=P.p.len;have hG:=PJ w P.p;have hI:=SM hG;obtain⟨v,p,e1,v1,r,e2,pe,A,a⟩:=Als P f hpl;have hv14:v.length<=14:=by have:=EC r v1.sub;omega
 obtain⟨R,D,sen,B,n,b,t,c,s1,s2,q⟩:=Abt P f j v1 r;have hP:=Adg (gl:=fI) hG (by show N.length<=14;omega) (ids:=o.Past) aa e2 pe;have hS:=Aft hI hP aa;generalize K0 (Bx g m N) p o.Past=s at hS a;have hs14:s.length<=14:=by rw[a.length_eq];exact hv14
 obtain⟨fr,fk,y,f1,f2,C,F⟩:=AjC (gl:=fI) (gg:=⟨g.Cards,m,N⟩) (o:=o) hs14 a (λx hx=>by obtain⟨i,h1⟩:=He (v1.sub x hx);obtain⟨o,h2,_,E⟩:=w.op (i:=i) (by have:=(cr h1).1;omega);rw[j i o x h2 h1];exact(T1 E.numbers).seq.1)
 obtain⟨h1,hN⟩:=c s a;have hA:=Afu hS f1 f2 b h1 k hgl (by grind [Aco]) hN aa;refine⟨_,v,R,fk,sen,⟨hA,?_,?_⟩,e1,rfl,b,⟨D,n⟩,λs h=>(c s h).1⟩;all_goals clear hA c hN h1
 .unfold qo AdZ;rw[e1,aL,C,aL];have hj:(bif 0<y then(some (decide (y<=o.Seq)))else(some false))=some fk:=by grind
  rw[hj,aL];cases fk with
  |true=>rfl
  |false=>
  rw[AQ,AQ,B,aL,hid,aL,AiY (Ul P t aa).z n b hgl i,aL];cases cm:decide (K4 R o≠0) with
  |true=>rfl
  |false=>
  have hp:=hp (Aco b (Decidable.of_not_not (Lq cm)));obtain⟨D',k1,k2,k3⟩:=Alu P t n b so hp;have hQ:=R4 b hp;generalize U0 R o i=Q at k2 k3 hQ;have hdl:(GR Q).length<=1000:=by rw[(LT hQ).2.1.length_eq,Hq];grind [Bh.len]
  rw[AQ,AQ,k1,aL,k2,aL,q,aL,af0 hdl aa,aL,af1 (by grind) hdl aa,aL];have a1:sen.filter (QF (GR Q))=haS Q sen:=by grind [List.filter_congr,JB]
  rw[a1];congr 2;grind [List.filter_congr,JB]
 .unfold AdZ;cases fk with
  |true=>simp
  |false=>
  cases cm:decide (K4 R o≠0) with
  |true=>simp
  |false=>
  have hQ:=R4 b (hp (Aco b (Decidable.of_not_not (Lq cm))));generalize U0 R o i=Q at hQ;obtain⟨_,u,_⟩:=LT hQ;have dn:(GR Q).Nodup:=u.nodup_iff.2 hQ.ci.kd;have hn:(haS Q sen++(GR Q).filter (Abr (haS Q sen))).Nodup:=by grind
  refine⟨Ak2 hn λd hd=>?_,hn⟩;have i6:=hQ.i6;rcases Jo.1 hd with h|h
  .have h:=(GV.1 h).2;unfold O4 Hf at h;cases hg:Q.in_.get d with
   |none=>grind
   |some v=>grind [GL]
  .obtain⟨e,he,rfl⟩:=Fl.1 (u.mem_iff.1 (GV.1 h).1);have:=i6 e he;omega
theorem AfA(a:g.L.length<=14)(b:∀(i:Nat) (o:Bi) (x:Ab),g.L[i]?=some o->g.IDs[i]?=some x->x.Seq=o.Seq){o:Bi}(so:Be o){i:Ab}(hid:pV o=some i)(c:ba prog fI 79 [.agg (aJ o)] (.agg (aj i)))(hp:1<=o.By/\o.By<=6->UE o i):∃l:Bk,iV prog fI 58 [.ptr (Ag ⟨g.Cards,m,N⟩) 0,.agg (aJ o)] 3 l.length (l.flatMap cZ)/\qo g o=some l/\l.length<=12/\l.Nodup:=by obtain⟨l,_,_,_,_,h,_⟩:=Ad3 P a b so hid c hp;exact⟨l,h⟩
end
def Pq{α:Type}(x:Option α)(Q:α->Prop):Prop:=∀v,x=some v->Q v
section
variable {α β:Type} {x:Option α} {f:α->Option β} {Q:β->Prop} {R:α->Prop}
theorem Pq.b(h:∀v,Pq (f v) Q):Pq (x.bind f) Q:=λw e=>by obtain⟨v,_,e⟩:=GE.1 e;exact h v w e
theorem Pq.m(h:Pq x R)(k:∀v,R v->Pq (f v) Q):Pq (x.bind f) Q:=λw e=>by obtain⟨v,e',e⟩:=GE.1 e;exact k v (h v e') w e
theorem Pq.i{c:Bool}{a b:Option α}(h1:c=true->Pq a R)(h2:c=false->Pq b R):Pq (bif c then a else b) R:=by grind
theorem Pq.s{v:α}(h:R v):Pq (some v) R:=λw e=>(by grind)
end
theorem Pq.of{α:Type}{x:Option α}{Q:α->Prop}(h:T x Q):Pq x Q:=λv e=>by obtain⟨w,e',h⟩:=h;grind
def Kn(o:Bi):Prop:=o.Kind=9->1<=o.Need/\o.Need<=1000000
theorem Ad4{o:Bi}(h0:0<=n)(h1:n<=1000000):Pq (sc g ids o n) Kn:=by
 unfold sc;refine .b λv1=> .b λj=> .b λk=> .i (λc=>?_) λc=>?_
 .refine .b λl=> .b λa=> .m (R:=λq=>0<=q/\q<=1) (λq e=>?_) λd hq=> .b λh=> .s λ_=>?_
  .grind [bM,u9,iI,ah]
  grind [bM]
 .have c':=Lq c;refine .b λ_=> .b λ_=> .b λ_=> .b λ_=> .b λ_=> .b λ_=> .i (λ_=> .s λe=>absurd e c') λ_=> .s λe=>absurd e c'
theorem Aht{m:Int}(hm:c8 m):Pq (sd g n m) Kn:=by
 unfold sd;refine .b λv1=> .m (.of (eX hm B5)) λj h3=> .b λw=> .i (λ_=> .s λe=>(by grind)) λ_=> .b λa=> .b λl=> .b λj12=> .b λo=> .b λp=>?_;have hk:0<=wI (j.tdiv 20)/\wI (j.tdiv 20)<=1000000:=by grind [bM]
 have no:∀{k:Int},decide (a.Kind=k)=true->k≠9->∀{q:Int},a.Kind=9->1<=q/\q<=1000000:=by grind
 refine .m (R:=λx:Bi×A3=>Kn x.1) (.i (λc=> .b λ_=> .s λe=>(by grind)) λ_=> .m (R:=λx:Bi×A3=>Kn x.1) (.i (λc=> .b λ_=> .s λe=>(by grind)) λ_=> .m (R:=λx:Bi×A3=>Kn x.1) (.i (λc=> .s λe=>(by grind)) λ_=> .m (R:=λx:Bi×A3=>Kn x.1) (.i (λc=> .b λ_=> .b λ_=> .b λ_=> .s λe=>(by grind)) λ_=> .m (R:=λx:Bi×A3=>Kn x.1) (.i (λc=> .s λe=>(by grind)) λ_=> .m (R:=λx:Bi×A3=>Kn x.1) (.i (λc=> .s λe=>(by grind)) λ_=> .m (R:=λb:Bool=>a.Kind=9->b=true) (by grind [Pq.s]) λr t=> .m (R:=λx:Bi×A3=>Kn x.1) (.i (λ_=> .m (Ad4 hk.1 hk.2) λu h=> .b λ_=> .s h) λc=> .s λe=>(by grind)) λ_ h=> .s h) λ_ h=> .s h) λ_ h=> .s h) λ_ h=> .s h) λ_ h=> .s h) λ_ h=> .s h) λv d=>?_;exact .b λ_=> .b λ_=> .b λ_=> .b λ_=> .b λ_=> .s d
def R5(l:Mj):Bool:=decide (l.length<=12)&&(List.range 12).all λk=>match l[k]?,l[k+1]? with
 |some a,some b=>decide (a.Device<=b.Device)&&(decide (0<=a.Device)&&decide (b.Device<=1000000))
 |_,_=>true
theorem OM{l:Mj}(h:R5 l=true):xf l:=by unfold R5 at h;simp only[bA,decide_eq_true_eq] at h;refine⟨h.1,λk a b ha hb=>?_⟩;have hk:=(cr ha).1;have:=Hd.1 h.2 k (List.mem_range.2 aa);rw[ha,hb] at this;simpa using this
theorem Ls:xf u7:=OM aH
structure Ana (r:A7) (ms:Nat->IX) (N:IH):Prop where
 wf:Fo r
 ne:r.L≠[]
 run:Adb r ms N
 pg:Oo r (ms r.L.length) N
 gr:MG g0 r
 gC:r.Cards=u7
 n14:r.L.length<=14
theorem neZ(a:Int):decide (a≠a)=false:=aC
theorem Ahv{gl:Cd}{l:Bk}(hn:l.length<=1000000):ba prog gl 17 [aE cZ l,aE cZ l] (bG true):=by
 refine Gh func17 ?_;refine Za (l:=l) aa (λk:Nat=>(s0 26 gl [(0,aE cZ l),(1,aE cZ l),(5,iG (k:Int))] [] 0 0)) 1110122 [hr 10 (neZ (ah l))] [] (λB k x hx hz k5=>?_) (λB=>?_)
 .have hlt:=(cr hx).1;exact jw [hr 14 (C3 hx),Az 19 (rZ.ixZ hz),Az 20 (rZ.p1Z tZ hz),Az 23 (rZ.ixZ hz),Az 24 (rZ.p1Z tZ hz),hr 25 (neZ x),hbb 16 (Xl (q:=k) aa)] [] k5 []
 .exact Ar [hr 14 (D4 (s:=l))] []
theorem PK{o:Bi}{i:Ab}(so:Be o)(h:pV o=some i):i.By=o.By/\i.Seq=o.Seq:=by obtain⟨j,e,a,b,_⟩:=wN so;grind
theorem Acr{b:A7}(h:MG b g)(hb:b.L=[]):∀(i:Nat) (o:Bi),g.L[i]?=some o->∃c∈g.Cards,c.Device=o.By:=by
 induction h with
 |base=>grind
 | @step g o id up row gr w sm _ e a hid hrow ih=>
  intro i d ho;have ho:(g.L++[o])[i]?=some d:=ho;rcases je ho with⟨_,h⟩|⟨_,rfl⟩
  .exact ih i d h
  .obtain⟨c,hc,_⟩:=a.card;exact⟨c,yd hc⟩
theorem Adm{cs:Mj}(h:cs.all KK=true){c:DP}(hc:c∈cs):1<=c.Device/\c.Device<=6/\1<=c.Member/\c.Member<=3:=by grind [KK]
theorem Alv:u7.map (·.Device)=[1,2,3,4,5,6]:=aH
section
variable {r:A7} {ms:Nat->IX} {N:IH}
theorem AiD{b:A7}{m:IX}(w:Fo r)(p:Oo r m N)(gr:MG b r)(hb:b.L=[])(hl:r.Cards.length<=1000)(h6:r.Cards.all KK=true)(hn:(r.Cards.map (·.Device)).Nodup):Pg r m N:=by have hcd:=Acr gr hb;refine⟨w,p,λi o x ho hx=>?_,(by grind),⟨hl,λc hc=>Adm h6 hc⟩,hn⟩;grind [Fo.ops,T1,FF.numbers,Be.nGuards,UE,PK,Fo.ids,On.k9,ah,Adm]
end
theorem Aag{m:IX}(P:Pg g m N)(a:g.L.length<=14){o:Bi}(so:Be o)(hk:Kn o):∃l:Bk,iV prog fI 58 [Z8 g.Cards m N,.agg (aJ o)] 3 l.length (l.flatMap cZ)/\qo g o=some l/\l.length<=12/\l.Nodup:=by
 obtain⟨i,e,hi⟩:=TU so;have hb:=PK so hi;have hg:o.Guards.length<=1000000:=by grind [Be.nGuards]
 have:=AfA P a (λi o x ho hx=>(PK (P.w.ops i o ho).1 (P.w.ids i o x ho hx)).2) so hi (TP fI so e) λb=>⟨hb.1,hg,hk,b⟩;grind [Ag,RJ]
theorem Alw{x:Option α}{Q:α->Prop}(h:T x Q):T x λv=>x=some v/\Q v:=by obtain⟨v,e,q⟩:=h;exact⟨v,e,e,q⟩
theorem Iv{o:Bi}(h:T (qo g o) λl=>l.length<=3000):T (jm g o) λl=>l.length<=200000:=by unfold jm;refine .bindc (zh _) λv1 _=> .ite (λ_=> .some aC) λ_=> .bind (h.mono λa h4=>?_);grind [cX,T.some,Od]
section
variable {gl:Cd}
abbrev DnV(gl:Cd)(fi:FuncId)(a b:Bj)(p:Ab->Bool):Prop:=R1 prog gl fi a b (λx:Ab=>[.agg (aj x)]) (λx:Bool=>bG x) (λk=>some (p k))
theorem AfB{p:Ab->Bool}(hv:DnV gl fi fa fc p){l:A3}(hn:l.length<=1000000):iV prog gl 61 [aE aj l,.clo (.func fi) fa fc] 36 (l.filter p).length ((l.filter p).flatMap aj):=by
 refine OW func61 ?_;refine Za (l:=l) aa (λk:Nat=>(s0 23 gl [(1,.clo (.func fi) fa fc),(5,.rsl 0 0 ((l.take k).filter p).length),(8,aE aj l),(9,iG (ah l)),(10,iG (k:Int))] [(0,Bt ((l.take k).filter p))] 1 0)) 1110122 [] [hc hv.im,hc (ac.imm [])] (λB k x hx hz k5=>?_) (λB=>?_)
 .have hlt:=(cr hx).1;have hl:((l.take k).filter p).length<=k:=LV (M0 _ _) (by rw[LW];omega);rw[Hr,hx,Option.toList_some,Nj] at k5;generalize (l.take k).filter p=q at k5 hl⊢;have hcs:=hv.cs (c:=2) (x:=x) rfl (aY (aG 20 (.agg (aj x)) aH) bf);cases hp:p x with
  |true=>rw[hp] at hcs;rw[List.filter_cons_of_pos hp,List.filter_nil] at k5;exact jw [hr 11 (C3 hx),Az 12 (ac.ixZ hz),Az 13 (ac.ptZ aW hz),Go.Proofs.YtlijnaneopediaaGreatDoor.hz 16 [] hcs,Tn 20 ac 24 q x aa,hbb 21 (Xl (q:=k) aa)] [hc hv.im,hc (el (q++[x])),hc (ac.imm (q++[x]))] k5
  |false=>rw[hp] at hcs;rw[List.filter_cons_of_neg (by simp[hp]),List.filter_nil,Md] at k5;exact jw [hr 11 (C3 hx),Az 12 (ac.ixZ hz),Az 13 (ac.ptZ aW hz),Go.Proofs.YtlijnaneopediaaGreatDoor.hz 16 [] hcs,hbb 21 (Xl (q:=k) aa)] [hc hv.im,hc (el q),hc (ac.imm q)] k5
 .rw[DZ];exact EI [hr 11 (D4 (s:=l))] (ac.imm (l.filter p))
section
variable {gg:Aj}
theorem Adl{o:Bi}{l:Bk}{b:Bool}{ss:M2}(hc:ba prog gl 130 [iG o.Kind] (bG b))(hA:b=true->ba prog gl 58 [.ptr (Ag gg) 0,.agg (aJ o)] (aE cZ l))(hP:b=true->ba prog gl 131 [aE cZ l,iG o.By] (aE Jc ss)):ba prog gl 64 [.ptr (Ag gg) 0,.agg (aJ o)] (aE Jc (bif b then ss else[])):=by
 refine Gh func64 ?_;cases b with
 |false=>exact Ar [hf 7 hc] []
 |true=>exact Ar [hf 7 hc,hf 11 (hA rfl),hf 14 (hP rfl)] []
def Acp(n:Nat)(o:Bi):Bool:=bif (0:Int)<(n:Int)then decide ((n:Int)=ah o.Path)else false
theorem Ahu(h:O8 gl gg I){ss:M2}(hS:ba prog gl 64 [.ptr (Ag gg) 0,.agg (aJ (I.o x))] (aE Jc ss)):ba prog gl 63 [.agg (aj x),.ptr [.ptr (Ag gg) 0] 0] (bG (Acp ss.length (I.o x))):=by
 have ho:=h.op x;refine Gh func63 ?_;unfold Acp;cases c:decide ((0:Int)<(ss.length:Int)) with
 |false=>exact Ar [hf 10 ho,hf 15 hS,hr 18 c] []
 |true=>exact Ar [hf 10 ho,hf 15 hS,hr 18 c] []
theorem Acq(h:O8 gl gg I){ss:Ab->M2}(hS:∀x,ba prog gl 64 [.ptr (Ag gg) 0,.agg (aJ (I.o x))] (aE Jc (ss x)))(hO:ba prog gl 62 [.ptr (Ag gg) 0,aE aj ids] (aE aj row))(hn:row.length<=1000):ba prog gl 21 [.ptr (Ag gg) 0,aE aj ids] (aE aj (row.filter λx=>Acp (ss x).length (I.o x))):=by have hv:DnV gl 63 [] [.ptr [.ptr (Ag gg) 0] 0] (λx=>Acp (ss x).length (I.o x)):=⟨aH,bf,aY (aG 20 (.ptr [.ptr (Ag gg) 0] 0) aH) bf,λx r e=>by cases e;exact Ahu h (hS x)⟩;have hF:=AfB hv (l:=row) aa;refine Gh func21 ?_;exact Ar [hf 7 hO,ho 9 [aE aj row,.clo (.func 63) [] [.ptr [.ptr (Ag gg) 0] 0]] [] hF (kF _)] [hc (ac.al (row.filter λx=>Acp (ss x).length (I.o x)))]
end
end
def Ajv(k:Int):Bool:=(Gu k).getD false
theorem Afl{k:Int}(h:0<=k/\k<=13):Gu k=some (Ajv k)/\ba prog fI 130 [iG k] (bG (Ajv k)):=by
 have:k=0\/k=1\/k=2\/k=3\/k=4\/k=5\/k=6\/k=7\/k=8\/k=9\/k=10\/k=11\/k=12\/k=13:=aa;rcases this with rfl|rfl|rfl|rfl|rfl|rfl|rfl|rfl|rfl|rfl|rfl|rfl|rfl|rfl
 all_goals
  refine⟨aH,Gh func130 ?_⟩
  exact Ar [] []
def Sd(g:A7)(o:Bi):Bk:=(qo g o).getD []
def stL(g:A7)(o:Bi):M2:=bif Ajv o.Kind then tpL o.By (Sd g o) else[]
theorem AiB{m:IX}(P:Pg g m N)(a:g.L.length<=14){o:Bi}(so:Be o)(hk:Kn o)(h13:0<=o.Kind/\o.Kind<=13):ba prog fI 64 [.ptr (Ag ⟨g.Cards,m,N⟩) 0,.agg (aJ o)] (aE Jc (stL g o))/\jm g o=some (stL g o)/\Aaa o.By (stL g o)/\ba prog fI 58 [.ptr (Ag ⟨g.Cards,m,N⟩) 0,.agg (aJ o)] (aE cZ (Sd g o))/\qo g o=some (Sd g o)/\(Sd g o).length<=12:=by
 obtain⟨l,hA,e,hl,hn⟩:=Aag P a so hk;obtain⟨c1,c2⟩:=Afl h13;have hA':ba prog fI 58 [.ptr (Ag ⟨g.Cards,m,N⟩) 0,.agg (aJ o)] (aE cZ l):=by grind [A9.fo,rZ,Ag,RJ]
 grind [Sd,stL,Adl,Afk,jm,cX,JB,Afj,tpL,Aab,Aju]
section
variable {g:A7} {m:IX} {N:IH} (P:Pg g m N) (h14:g.L.length<=14) (hkn:∀(k:Nat) (o:Bi),g.L[k]?=some o->Kn o)
include P h14 hkn
theorem Alo(x:Ab):ba prog fI 64 [.ptr (Ag ⟨g.Cards,m,N⟩) 0,.agg (aJ ((Bx g m N).o x))] (aE Jc (stL g ((Bx g m N).o x)))/\Aaa x.By (stL g ((Bx g m N).o x))/\(x∉g.IDs->stL g ((Bx g m N).o x)=[])/\Aac g x=some (stL g ((Bx g m N).o x)):=by
 have w:=P.w;have nI:=w.nI;have nL:=w.nL;by_cases hx:x∈g.IDs
 .obtain⟨i,o,e1,e2,e3,_,so,a⟩:=w.place (lj.2 hx);obtain⟨h1,h2,h3,_⟩:=AiB P h14 so (hkn i o e3) (by have:=a.kind;omega);rw[(P.op e3 e2).2];rw[<-(PK so (w.ids i o x e3 e2)).1] at h3;refine⟨h1,h3,λh=>absurd hx h,?_⟩;unfold Aac;rw[dC aa,aL,e1,show decide ((i:Int)<0)=false from C5 aa,AQ,au,e3,aL,h2];rfl
 .have e:(Bx g m N).o x=ip:=by unfold Gi.o;rw[AiL w P.p,jv.2 hx];rfl
  have hp:gO g x<0:=Int.not_le.1 λh=>hx (lj.1 h);have e2:stL g ip=[]:=rfl;rw[e,e2];refine⟨Adl (b:=false) (l:=[]) (ss:=[]) (Afl (k:=0) B5).2 (λh=>by cases h) (λh=>by cases h),Aab,λ_=>rfl,?_⟩;unfold Aac;rw[dC aa,aL,CM hp,ax]
include P h14 hkn
def isC(g:A7)(I:Gi)(x:Ab):Bool:=Acp (stL g (I.o x)).length (I.o x)
theorem Abn{v:A3}(hv:DL g v)(a:v.Nodup):∃row:A3,ba prog fI 21 [.ptr (Ag ⟨g.Cards,m,N⟩) 0,aE aj v] (aE aj (row.filter (isC g (Bx g m N))))/\JU g v=some (row.filter (isC g (Bx g m N)))/\row.Perm v/\(row.Pairwise λx y=>Nf (Bx g m N) x y<0)/\row.length<=14:=by
 have w:=P.w;have nI:=w.nI;have hI:=SM (PJ w P.p);have hv14:v.length<=14:=by have:=EC a hv.sub;omega
 obtain⟨row,j,b,f⟩:=MH w P.p aa a hv.sub;have hrl:row.length<=14:=by rw[b.length_eq];exact hv14
 have hO:ba prog fI 62 [.ptr (Ag ⟨g.Cards,m,N⟩) 0,aE aj v] (aE aj row):=by obtain⟨r,e,l,q⟩:=Uh (Ut (Bx g m N)) a hv14;have:r=row:=OO (Ut (Bx g m N)).tr Nv (l.trans b.symm) q f;grind [AbP,PJ,Pg.p,List.Perm.length_eq]
 refine⟨row,Acq hI (by grind [Alo]) hO aa,?_,b,f,hrl⟩;unfold JU;rw[j,aL];refine T.eq (.bind (T.mono (T.forA (Q:=λr:A3=>r=row.filter (isC g (Bx g m N))) row.length (λk acc=>acc=(row.take k).filter (isC g (Bx g m N))) aa aC (λk acc hk hj=>?_) λacc hj=>?_) λ_ h=> .some h))
 .obtain⟨x,hx⟩:∃x,row[k]?=some x:=by simp_all
  obtain⟨i,o,e1,e2,e3,_,so,s⟩:=w.place (lj.2 (hv.sub x (b.mem_iff.1 (bO hx))));obtain⟨_,hS,hl,_⟩:=AiB P h14 so (hkn i o e3) (by grind [FF]);have hl:=hl.n;have ha:acc.length<=14:=by grind
  unfold M6;dsimp only;rw[eA hk,ax,au,hx,aL,dC aa,aL,e1,show decide ((i:Int)<0)=false from(by simp_all),AQ,au,e3,aL,hS,aL];have hc:(bif 0<ah (stL g o)then(((some o:Option Bi)).bind λd=>some (decide (ah (stL g o)=ah d.Path)))else(some false))=some (isC g (Bx g m N) x):=by unfold isC;rw[(P.op e3 e2).2];grind [Acp,ah]
  rw[hc,aL,Hr,hx,Option.toList_some,Nj];cases c:isC g (Bx g m N) x with
  |true=>rw[ax,aL,show List.filter (isC g (Bx g m N)) [x]=[x] by simp[c]];exact .bind (.app (by grind) (.some ⟨aq aa,by rw[hj]⟩))
  |false=>rw[AQ,show List.filter (isC g (Bx g m N)) [x]=[] by simp[c],Md];exact .some ⟨aq aa,hj⟩
 .unfold M6;dsimp only;rw[eF,AQ];exact .some (show acc=_ by grind)
end
structure Aof where
 Set:Bk
 Pub:Nat
 By:Ab
 N:Int
section
variable {gl:Cd}
end
theorem Ahk{N:IH}{u:Bk}{j:Int}(h:j∈u):lvN N j<lvF N u:=by
 have key:∀(u:Bk) (a:Int),a<=u.foldl (λa j=>EZ a (lvN N j+1)) a/\∀j∈u,lvN N j+1<=u.foldl (λa j=>EZ a (lvN N j+1)) a:=by intro u;induction u<;>grind [EZ]
 have:=(key u 1).2 j h;unfold lvF;omega
section
variable {g:A7} {m:IX} {N:IH} (P:Pg g m N)
include P
theorem Afm:∀(d i k:Nat) {y z:CY},i-k<=d->O9 g i k=true->N[i]?=some y->N[k]?=some z->z.level<y.level
 |0,i,k,y,z,hd,h,_,_=>absurd (P.w.inlt i k h).1 aa
 |d+1,i,k,y,z,hd,h,hy,hz=>by
  have w:=P.w;have one:∀{i:Nat} {u:Bk} {y:CY},N[i]?=some y->g.Up[i]?=some u->(k:Int)∈u->z.level<y.level:=λ{i u y} h1 h2 h3=>by rw[P.p.lv i y u h1 h2];have:=Ahk (N:=N) h3;grind [lvN]
  obtain⟨u,hu,h1|⟨j,v,h1,h2,h3⟩⟩:=w.la i k h
  .grind
  .have hj:=(w.inlt i j h1);obtain⟨q,hq⟩:∃q,N[j]?=some q:=by grind
   have hk:=(w.up j v h2).2 _ h3;exact Int.lt_trans (one hq h2 h3) (Afm d i j aa h1 hy hq)
theorem UQ(h:(Bx g m N).bef x y=true):Nf (Bx g m N) x y<0:=by
 rw[Uf P.w P.p] at h;split at h
 .rename_i i j hi hj;obtain⟨hi,_⟩:=gb hi;obtain⟨hj,_⟩:=gb hj;obtain⟨a,a1,a2,_⟩:=VX P.w P.p hi;obtain⟨b,b1,b2,_⟩:=VX P.w P.p hj;have:=Afm P _ _ _ (Dx _) h b1 a1;exact SN.2 (by grind)
 .cases h
end
section
variable {g:A7} {m:IX} {N:IH} (P:Pg g m N) (h14:g.L.length<=14) (hkn:∀(k:Nat) (o:Bi),g.L[k]?=some o->Kn o)
include P h14
end
section
set_option maxHeartbeats 2000000
def QL(g:A7)(a:Ab)(b:Ab):Fm:=
 (fC g a).bind λv1=>(fC g b).bind λe=>(bif 0<=v1 then(bif 0<=e then((aS g.In (EZ e 0)).bind λc=>(aS c (EZ v1 0)).bind λd=>some d)else(some false))else(some false)).bind λf=>some f
theorem SI{g a b}:DC prog gl (QL g a b) 56 [.agg (aI g),.agg (aj a),.agg (aj b)] bG:=
 cy func56 λK=>BW 11 (dX gl) λv1=>BW 14 (dX gl) λh=>cN 11110 (sp [] [(3,.ref 0 0),(7,iG v1),(8,iG h)] [ob 0 30 (aI g)] 1) []<|cC 11110 (λe=>sk [] [(6,bG e)] [] 0) (λe=>rv K) λe f=>aF 16 (aF 20 (ak λi c=>ak λj d=>aw [Az 26 (zV.ixZ c),Az 27 (zV.p1Z Vt c),Az 30 (rO.ixZ d),Az 31 (rO.p1Z tO d)]<|rx f)<|rx f)<|rx f
def eqQ(a b:Bk)(k:Nat):Option (Nat⊕Bool):=match a[k]? with
 |none=>some (.inr true)
 |some x=>match b[k]? with
  |none=>none
  |some y=>bif x≠y then some (.inr false)else some (.inl (k+1))
theorem Ais{b:Bk}(hl:a.length=b.length)(hn:a.length<=1000):AH (eqQ a b) 0=some (decide (a=b)):=T.eq (T.loop (λk=>k<=a.length/\a.take k=b.take k) (λk=>a.length-k) ⟨aa,aC⟩ aa λk ⟨hk,he⟩=>by
 unfold eqQ;cases hx:a[k]? with
 |none=>have:=List.getElem?_eq_none_iff.1 hx;rw[List.take_of_length_le aa,List.take_of_length_le aa] at he;exact .some (CM he).symm
 |some x=>
  have hlt:=(cr hx).1;obtain⟨y,hy⟩:∃y,b[k]?=some y:=⟨_,Ef aa⟩;rw[hy];refine .dec (λh=> .some (C5 λh2=>h ?_).symm) λh=> .some ⟨⟨aa,?_⟩,aa⟩
  .subst h2;exact Bo (hx.symm.trans hy)
  .rw[Hr,Hr,hx,hy,he,Decidable.of_not_not h])
def Aa6(a b:Bk):Fm:=bif a.length<=1000/\b.length<=1000 then some (decide (a=b))else none
theorem AeM{a b}:DC prog gl (Aa6 a b) 17 [aE cZ a,aE cZ b] bG:=λr h=>by
 unfold Aa6 at h;cases c:decide (a.length<=1000/\b.length<=1000) with
 |false=>rw[c] at h;cases h
 |true=>
  rw[c] at h;obtain⟨ha,hb⟩:=DS c;obtain rfl:=Bo h;refine Gh func17 ?_;by_cases hl:a.length=b.length
  .refine pN (λk:Nat=>(s0 26 gl [(0,aE cZ a),(1,aE cZ b),(5,iG (k:Int))] [] 0 0)) 1110122 (Ais hl aa) [hr 10 (show decide (ah a≠ah b)=false by unfold ah;rw[hl];simp)] [] (λB k w hs k5 d=>?_);unfold eqQ at hs;cases hx:a[k]? with
   |none=>rw[hx] at hs;cases hs;have:=List.getElem?_eq_none_iff.1 hx;rw[<-d _ rfl];exact Ar [hr 14 (show decide ((k:Int)<ah a)=false from C5 (by unfold ah;omega))] []
   |some x=>
    have hlt:=(cr hx).1;obtain⟨y,hy⟩:∃y,b[k]?=some y:=⟨_,Ef aa⟩;rw[hx,hy] at hs;have hz:=Bp hx;have hz':=Bp hy;cases c:decide (x≠y) with
    |true=>simp only[c,ax] at hs;cases hs;rw[<-d _ rfl];exact Ar [hr 14 (C3 hx),Az 19 (rZ.ixZ hz),Az 20 (rZ.p1Z tZ hz),Az 23 (rZ.ixZ hz'),Az 24 (rZ.p1Z tZ hz'),hr 25 c] []
    |false=>simp only[c,AQ] at hs;cases hs;exact jw [hr 14 (C3 hx),Az 19 (rZ.ixZ hz),Az 20 (rZ.p1Z tZ hz),Az 23 (rZ.ixZ hz'),Az 24 (rZ.p1Z tZ hz'),hr 25 c,hbb 16 (Xl (q:=k) aa)] [] (k5 _ rfl) []
  .rw[show decide (a=b)=false from C5 λh=>hl (by rw[h])];exact Ar [hr 10 (show decide (ah a≠ah b)=true from CM (by unfold ah;omega))] []
def Ke(g:A7)(v1:A3)(s3:A3×Int)(a:Bool×Int):Option ((Bool×Int)⊕(Bool)):=
 bif a.2<ah v1 then((aS v1 s3.2).bind λb=>(aS v1 a.2).bind λc=>(QL g b c).bind λd=>bif d then(some (.inl (false,wI (a.2+1))))else(some (.inl (a.1,wI (a.2+1)))))else(some (.inr a.1))
def M4(g:A7)(v1:A3)(s3:A3×Int):Option ((A3×Int)⊕A3):=
 bif s3.2<ah v1 then((AH (Ke g v1 s3) (true,0)).bind λa=>bif a then((aS v1 s3.2).bind λb=>(aT 24 s3.1 [b]).bind λc=>some (.inl (c,wI (s3.2+1))))else(some (.inl (s3.1,wI (s3.2+1)))))else(some (.inr s3.1))
def LF(g:A7)(ids:A3):Option A3:=
 (JU g ids).bind λv1=>(AH (M4 g v1) ([],0)).bind λa=>some a
theorem XQ{g ids}:LP prog gl (LF g ids) 16 [.agg (aI g),aE aj ids] 36 aj:=
 gc func16 λK=>ak λv1 e2=>aw [hf 12 (ac.fo (XW gl e2))]<|rdL 111101 11110122 (λk=>sp [] [(6,.rsl 0 0 k.length)] [ob 0 36 (k.flatMap aj)] 1) (λs3=>sp [] [(2,.ref 0 0),(5,aE aj v1),(6,.rsl 1 0 s3.1.length),(7,iG s3.2)] [ob 0 30 (aI g),ob 1 36 (s3.1.flatMap aj)] 2) [hc (ac.imm [])] (vs:=[36]) (ρ:=[(0,0),(1,1)]) (kd:=[(1,.row)]) (λk=>mr c0 K (ac.imm _)) λs3 n k6=>aF 16 (rdL 11110122102101 1111012210210122 (λc=>sf [] [(8,bG c)]) (λa=>sf [] [(8,bG a.1),(9,iG a.2)]) [hc (el s3.1),hc (ac.imm s3.1)] (ρ:=[(0,0),(1,1)]) (kd:=[(1,.row)]) (λc=>aF 35 (ak λo d=>ak λe l=>aw [Az 39 (ac.ixZ d),Az 40 (ac.ptZ aW d),dg 42 ac l]<|cj n [hc (el e),hc (ac.imm e)] (ρ:=[(0,0),(1,3)]) (kd:=[(1,.row)]))<|cj n [hc (el s3.1),hc (ac.imm s3.1)] (ρ:=[(0,0),(1,1)]) (kd:=[(1,.row)])) λa f m=>aF 22 (ak λp h=>ak λq i=>ak λr j=>aw [Az 28 (ac.ixZ h),Az 29 (ac.ptZ aW h),Az 32 (ac.ixZ i),Az 33 (ac.ptZ aW i)]<|kV (λb=>aw [hf 34 (cF (SI gl j) b)]<|cj f [hc (el s3.1),hc (ac.imm s3.1)] (ρ:=[(0,0),(1,1)]) (kd:=[(1,.row)])) λb=>aw [hf 34 (cF (SI gl j) b)]<|cj f [hc (el s3.1),hc (ac.imm s3.1)] (ρ:=[(0,0),(1,1)]) (kd:=[(1,.row)]))<|aA c1 m [hc (el s3.1),hc (ac.imm s3.1)] (ρ:=[(0,0),(1,1)]) (kd:=[(1,.row)]))<|aA c1 k6 [hc (el s3.1),hc (ac.imm s3.1)] (ρ:=[(0,1)]) (kd:=[(0,.row)])
def LK(g:A7)(commit:Ab):Option Bk:=
 (fC g commit).bind λv1=>bif v1<0 then(some [])else((aS g.L v1).bind λa=>(qo g a).bind λb=>some b)
theorem XR{g commit}:LP prog gl (LK g commit) 19 [.agg (aI g),.agg (aj commit)] 3 cZ:=
 gc func19 λK=>ak λv1 e2=>aw [hf 8 (dX gl e2)]<|aF 10 (mr c0 K (rZ.imm _))<|ak λa e5=>ak λb e7=>aw [Az 15 (eJ.ixZ e5),Az 16 (eJ.ptZ GN e5),ho 17 [.agg (aI g),.agg (aJ a)] [] (GU gl e7) (lZ b)]<|mr c0 K (rZ.imm _)
def KS(g:A7)(ids:A3):Option (Ab×Bool):=
 (LF g ids).bind λv1=>bif ah v1≠1 then(some (⟨0,0,0⟩,false))else((zY g ids).bind λe=>(lg e.In).bind λf=>(aS v1 0).bind λh=>(LK g h).bind λa=>(lg a).bind λb=>(Aa6 f b).bind λc=>bif(!c)then(some (⟨0,0,0⟩,false))else((aS v1 0).bind λd=>some (d,true)))
theorem AdK{g ids}:DC prog gl (KS g ids) 13 [.agg (aI g),aE aj ids] (λr=> .tup [.agg (aj r.1),bG r.2]):=
 cy func13 λK=>ak λv1 e2=>aw [hf 10 (ac.fo (XQ gl e2))]<|aF 13 (aP c0 K [])<|ak λk e5=>ak λl e7=>ak λm e=>ak λf b=>ak λh c=>ak λi d=>aw [hf 17 (Jh gl e5),hf 19 (rZ.fo (vH gl e7)),Az 23 (ac.ixZ e),Az 24 (ac.ptZ aW e),hf 25 (rZ.fo (XR gl b)),hf 26 (rZ.fo (vH gl c)),hf 27 (AeM gl d)]<|aF 28 (aP c0 K [])<|ak λj a=>aw [Az 31 (ac.ixZ a),Az 32 (ac.ptZ aW a)]<|aP c0 K []
def Ps(g:A7)(ids:A3)(device:Int)(commit:Ab)(s1:Int×Int):Option ((Int×Int)⊕(Int)):=
 bif s1.2<ah ids then((aS ids s1.2).bind λc=>(fC g c).bind λb=>bif b<0 then(some (.inl (s1.1,wI (s1.2+1))))else((aS g.L b).bind λa=>(bif a.Kind=6 then(bif a.By=device then(some (decide (a.Epoch=commit)))else(some false))else(some false)).bind λd=>bif d then(some (.inl (wI (s1.1+1),wI (s1.2+1))))else(some (.inl (s1.1,wI (s1.2+1))))))else(some (.inr s1.1))
def Pt(g:A7)(ids:A3)(device:Int)(commit:Ab):JI:=
 (AH (Ps g ids device commit) (0,0)).bind λa=>some a
theorem Aa7{g ids device commit}:DC prog gl (Pt g ids device commit) 96 [.agg (aI g),aE aj ids,iG device,.agg (aj commit)] iG:=
 cy func96 λK=>rdL 11101 1110122 (λh=>sg [] [(9,iG h)]) (λs1=>so [0,3] [(4,.ref 0 0),(7,.ref 1 0),(9,iG s1.1),(10,iG s1.2)] [ob 0 30 (aI g),ob 1 36 (aj commit)] 2) [] (λh=>aP c0 K []) λs1 k5 i=>aF 16 (ak λj c=>ak λk f=>aw [Az 22 (ac.ixZ c),Az 23 (ac.ptZ aW c),hf 24 (dX gl f)]<|aF 26 (cj k5 [])<|ak λd e=>aw [Az 30 (eJ.ixZ e),Az 31 (eJ.ptZ GN e)]<|cN 11101221021110 (so [] [(12,.ref 2 0)] [ob 2 63 (aJ d)] 3) []<|cC 11101221021110 (λa=>sx [12] [(46,bG a)] [ob 0 30 (aI g),ob 1 36 (aj commit)] 2) (λa=>eH [46] (cj k5 [])<|cj k5 []) λa b=>aF 34 (aF 40 (aw [hV 45 (dU d.Epoch commit rfl)]<|aA c0 b [])<|aA c0 b [])<|aA c0 b [])<|aA c1 i []
def Vp(g:A7)(n:Int)(s:List Fp×Int):Option ((List Fp×Int)⊕(List Fp)):=
 (bif s.2<n then(some (decide (s.2<5)))else(some false)).bind λj=>bif j then((aT 32 s.1 [(⟨wU (wI ((wI (1000+(wI (10*(ah g.L)))))+s.2)),[]⟩:Fp)]).bind λv=>some (.inl (v,wI (s.2+1))))else(some (.inr s.1))
def Qs(g:A7)(o:Bi):Option Bi:=
 (Gu o.Kind).bind λv1=>bif(!v1)then(some {o with Path:=[]})else((jm g {o with Path:=[]}).bind λa=>(AH (Vp g (ah a)) ([],0)).bind λx=>some {o with Path:=x})
theorem Ab9{g o}:DC prog gl (Qs g o) 29 [.agg (aI g),.agg (bF [9] (aJ {o with Path:=[]}))] (λr=> .agg (aJ r)):=
 cy func29 λK=>BW 10 (oX gl) λv1=>aF 12 (rv K)<|ak λa e4=>aw [hf 16 (UY [.agg (aI g),.agg (bF [9] (aJ {o with Path:=[]}))] (nH.fo (E6 gl e4)))]<|Jb 1111101 (λx=>sp [] [(3,.ref 1 0),(4,.ref 2 0)] [ob 1 63 (aJ {o with Path:=x}),ob 2 63 (bF [4,9,14,15,19,22,24] (aJ ip))] 3) (λs=>sp [] [(2,.ref 0 0),(3,.ref 1 0),(4,.ref 2 0),(6,iG (ah a)),(7,iG s.2)] [ob 0 30 (aI g),ob 1 63 [iG o.By,iG o.Seq,iG o.Kind,iG o.At,aE aj o.Past,iG o.Device,iG o.Old,iG o.Member,iG o.Role,.rsl 3 0 s.1.length,iG o.Epoch.By,iG o.Epoch.Seq,uG o.Epoch.Sum,iG o.N,aE cY o.Body,aE cW o.Refs,iG o.Of.By,iG o.Of.Seq,uG o.Of.Sum,aE cZ o.Guards,iG o.Need,iG o.Wait,aE cz o.Boxes,uG o.Pub,aE bp o.Hist,uG o.Sig.R,uG o.Sig.S],ob 2 63 (bF [4,9,14,15,19,22,24] (aJ ip)),ob 3 122 (s.1.flatMap bY)] 4) [hc (bZ.imm [])] (λx=>rv K) λs k k'=>Om 11111012200 (sf [] []) (DE bZ s.1) 24 (ak λv e=>aw [Az 36 (C8 (wI ((wI (1000+(wI (10*(ah g.L)))))+s.2))),Tv 39 bZ e [uG (wU (wI ((wI (1000+(wI (10*(ah g.L)))))+s.2))),Iy] rfl]<|cj k [hc (el v),ZV bZ e [uG (wU (wI ((wI (1000+(wI (10*(ah g.L)))))+s.2))),Iy]] (kd:=[(3,.app (s.1.flatMap bY) [uG (wU (wI ((wI (1000+(wI (10*(ah g.L)))))+s.2))),Iy] (bY (⟨wU (wI ((wI (1000+(wI (10*(ah g.L)))))+s.2)),[]⟩:Fp)) (v.flatMap bY))])) (aA c1 k' [hc (bZ.al s.1)]) λk2=>aF 20 (aA c0 k2 (DE bZ s.1))<|aA c0 k2 (DE bZ s.1)
def LL(l:Bk)(most:Int)(a:A7×Int):Option ((A7×Int)⊕(A7)):=
 (bif a.2<most then(bif a.2<4 then(some true)else(some (decide (wI (2*a.2)<ah l))))else(some false)).bind λg=>bif g then((bif wI (2*a.2)<ah l then((aS l (wI (2*a.2))).bind λh=>some h)else(some 0)).bind λi=>(bif wI ((wI (2*a.2))+1)<ah l then((aS l (wI ((wI (2*a.2))+1))).bind λj=>some j)else(some 0)).bind λd=>(sd a.1 i d).bind λk=>(Qs a.1 ({k with Path:=[]})).bind λb=>(bif b.Kind=6 then((iq d 7).bind λm=>some (decide (0<m)))else(some false)).bind λn=>(bif n then((Lm a.1 b.Past).bind λe=>(KS a.1 e).bind λc=>(bif c.2 then((Pt a.1 e b.By c.1).bind λo=>some ({b with Epoch:=c.1,N:=o}))else(some b):Option Bi).bind λp=>some p)else(some b):Option Bi).bind λq=>(nR q).bind λr=>(AO a.1 r).bind λf=>bif f.2=0 then(some (.inl (f.1,wI (a.2+1))))else(some (.inl (a.1,wI (a.2+1)))))else(some (.inr a.1))
def N8(l:Bk)(most:Int):Option A7:=
 (r8).bind λv1=>(ql v1).bind λa=>(Jf a).bind λb=>(AH (LL l most) (b,0)).bind λc=>some c
theorem Vq{l most}:DC prog gl (N8 l most) 43 [aE cZ l,iG most] (λr=> .agg (aI r)):=
 cy func43 λK=>ak λv1 e2=>ak λM e4=>ak λN e6=>aw [hf 15 (rZ.fo (E9 gl e2)),hf 16 (bT.fo (GQ gl e4)),hf 17 (M8 gl e6)]<|rdL 11101 1110122 (λA=>sp [] [(4,.ref 0 0),(5,.ref 1 0)] [ob 0 30 (bF [0,1,2,3,4] (aI xm)),ob 1 30 (aI A)] 2) (λh=>so [] [(4,.ref 0 0),(5,.ref 1 0),(6,iG h.2)] [ob 0 30 (bF [0,1,2,3,4] (aI xm)),ob 1 30 (aI h.1)] 2) [] (λA=>aP c0 K []) λh k11 q=>cN 111012200 (sf [] []) []<|cC 111012200 (λa=>sf [] [(31,bG a)]) (λa=>eH [31] (cN 11101221021101 (sf [31] [(7,iG 0),(8,iG 0),(38,bG (decide (wI (2*h.2)<ah l)))]) []<|cC 11101221021101 (λb=>sf [38] [(7,iG b)]) (λb=>cN 111012210211101 (sf [] [(49,bG (decide (wI ((wI (2*h.2))+1)<ah l)))]) []<|cC 111012210211101 (λc=>sf [49] [(8,iG c)]) (λc=>ak λB s=>ak λt u=>aw [hf 60 (Jy gl s),hf 61 (Ab9 gl u)]<|cN 11101221021111100 (so [7] [(9,.ref 2 0)] [ob 2 63 (aJ t)] 3) []<|cC 11101221021111100 (λd=>sf [8] [(69,bG d)]) (λd=>cC 11101221021111101 (λe=>so [69] [] [ob 2 63 (aJ e)] 3) (λe=>ak λC e32=>ak λD v=>aw [hf 93 (E8 gl e32),hf 94 (M9 gl v)]<|aF 98 (cj k11 [])<|cj k11 []) λe i=>eH [69] (ak λE w=>ak λF x=>cC 111012210211111013111 (λf=>so [69] [] [ob 2 63 (aJ f)] 3) (λf=>aA c0 i []) λf j=>aw [hf 73 (ac.fo (ua gl w)),hf 77 (AdK gl x)]<|aF 79 (ak λH y=>aw [hf 88 (Aa7 gl y)]<|aA c0 j [])<|aA c0 j [])<|aA c0 i []) λd k=>aF 64 (ak λI z=>aw [hf 67 (iL gl z)]<|aA c0 k [])<|aA c0 k []) λc m=>eH [49] (ak λJ n=>aw [Az 54 (rZ.ixZ n),Az 55 (rZ.p1Z tZ n)]<|aA c0 m [])<|aA c0 m []) λb o=>eH [38] (ak λL p=>aw [Az 42 (rZ.ixZ p),Az 43 (rZ.p1Z tZ p)]<|aA c0 o [])<|aA c0 o [])<|aA c1 q []) λa g=>aF 20 (aF 23 (aA c0 g [])<|aA c0 g [])<|aA c0 g []
end
section
variable {gl:Cd}
theorem Ait{f:Ab->Fm}(hv:R1 prog gl fi fa fc (λx:Ab=>[.agg (aj x)]) (λb:Bool=>bG b) f){l:A3}{r:Int}(e:Vx l f=some r):oJ prog gl 112 [.rsl 0 0 l.length,.clo (.func fi) fa fc] [(0,Bt l)] 1 (iG r) [] 1:=
 Ou aH (gS gl hv e) (lR _) rfl λst h i x y h1 h2=>by
  match i with
  |0=>
   cases h1;cases h2;exact FD (s:=3) (h 0 _ rfl) aH (by show 0+l.length*3<=(l.flatMap aj).length;rw[ac.len];omega) (ac.len l) λj g c a b=>by rw[Nat.zero_add] at a;rw[show(l.flatMap aj)[j]?=some g from a] at b;cases b;exact jB (ac.imm l g (bO a))
  |1=>cases h1;cases h2;exact jB hv.im
  |j+2=>cases h1
theorem Aca{del:Ab->Bool}(hv:R1 prog gl fi fa fc (λx:Ab=>[.agg (aj x)]) (λb:Bool=>bG b) (λx=>some (del x))){l:A3}(hl:l.length<=1000):jg prog gl 50 [.rsl 0 0 l.length,.clo (.func fi) fa fc] [(0,Bt l)] 1 (.rsl 0 0 (l.filter λx=> !del x).length) [(0,Bt (l.filter λx=> !del x))] 1:=by
 refine pP func50 ?_;rcases Adz (s:=l) (p:=del) aa (λx _=>rfl) with⟨e,h0⟩|⟨i,e,h0⟩
 .have hi:=Ait hv e;rw[AiJ (by simpa using h0)];exact mt .ret (s0 42 gl [(4,.rsl 0 0 l.length)] [(0,Bt l)] 1 1) [.rsl 0 0 l.length] [hz 10 [0] hi] [hc (el l),hc (ac.imm l)] (ρ:=[(0,0)]) (kd:=[(0,.row)])
 .have hi:=Ait hv e;have hlt:=(List.findIdx?_eq_some_iff_getElem.1 h0).1;have hkn:(l.filter λx=> !del x).length<l.length:=by have:=AjY (q:=λx=> !del x) (by simpa using h0);have h2:=WF (q:=λx=> !del x) (l:=l);refine Nat.lt_of_le_of_ne (M0 _ _) λhe=>?_;have h3:=List.length_filter_eq_length_iff.1 he _ (List.getElem_mem hlt);have h4:=(List.findIdx?_eq_some_iff_getElem.1 h0).2.1;simp[h4] at h3
  refine pN (λs:Nat×Nat×A3=>(s0 42 gl [(0,.rsl 0 0 s.2.2.length),(1,.clo (.func fi) fa fc),(5,iG (s.2.1:Int)),(6,iG (s.1:Int))] [(0,Bt s.2.2)] 1 1)) 11110122 (AiK hl h0) [hz 10 [0] hi,hr 12 (show decide ((i:Int)= -1)=false from C5 aa),hbb 15 (Xl (q:=i) aa)] [hc (el l),hc hv.im,hc (ac.imm l)] (λB s w hs k5 g=>?_) [] [(0,0)] [(0,.row)];obtain⟨j,k,W⟩:=s;unfold dfT at hs;dsimp only at hs;cases b0:decide (W.length<=1000/\k<=j) with
  |false=>rw[b0] at hs;cases hs
  |true=>
  rw[b0,ax] at hs;obtain⟨g1,g2⟩:=DS b0;rcases bC hs with⟨b1,hs⟩|⟨b1,hs⟩
  .have hjl:=DS b1;unfold ah at hjl;obtain⟨x,a,hs⟩:=bS hs;have hcl:oJ prog gl fi (fa++[.agg (aj x)]++fc) [] 2 (bG (del x)) [] 2:=hv.cs (c:=2) rfl (aY (aG 20 (.agg (aj x)) aH) bf);have hjb:j<1000000:=aa;cases hd:del x with
   |true=>rw[hd] at hs hcl;obtain rfl:=Bo hs;exact jw [hr 19 b1,Az 24 (ac.ixrZ 0 a),Az 25 (ac.pt0Z aW a),hz 28 [] hcl,hbb 21 (Xl (q:=j) aa)] [hc (el W),hc hv.im,hc (ac.imm W)] (k5 _ rfl) [] [(0,0)] [(0,.row)]
   |false=>rw[hd] at hs hcl;obtain⟨d,e2,hs⟩:=bS hs;obtain rfl:=Bo hs;have hkb:k<1000000:=aa;exact jw [hr 19 b1,Az 24 (ac.ixrZ 0 a),Az 25 (ac.pt0Z aW a),hz 28 [] hcl,Az 33 (ac.ixsZ 0 e2),hw 33 (d.flatMap aj) (ac.putZ e2),hbb 35 (Xl (q:=k) aa),hbb 21 (Xl (q:=j) aa)] [hc (hZ e2),hc hv.im,hc (ac.imm d)] (k5 _ rfl) [] [(0,0)] [(0,.row)]
  .obtain rfl:=Bo hs;have ek:=g _ rfl;simp only[Fu] at ek;obtain⟨ek,f⟩:=ek;have hkW:k<W.length:=by rw[f,AaA,ek];exact hkn
   have e:(zR W k).take (k*3)=(l.filter λx=> !del x).flatMap aj:=by rw[AdA (Nat.le_of_lt hkW),f,ek,WF.1]
   rw[<-ek];generalize (l.filter λx=> !del x)=F at e⊢;refine pO 1111110 (J:=(s0 42 gl [(0,.rsl 0 0 W.length),(5,iG (k:Int))] [ob 0 36 (zR W k)] 1 1)) [hr 19 b1,Az 38 (ac.sufZ 0 (l:=W) (i:=(k:Int)) (y:=W.drop k) (by unfold mc;rw[Bz ⟨aa,by rw[E0];omega⟩,E0])),Go.Proofs.YtlijnaneopediaaGreatDoor.hcl 1 (AlV (σ:=[]) hkW)] [hc (el W),hc (Agk W k)] ?_ [] [(0,0)] [(0,.row)];refine dSh 0 (k*3) ?_;show Gp _ _ _ _ _ _ (s0 42 gl [(0,.rsl 0 0 W.length),(5,iG (k:Int))] ((ob 0 36 ((zR W k).take (k*3)))::[ob 0 36 (zR W k)]) 1 1);rw[e];exact mt .ret (s0 42 gl [(4,.rsl 0 0 k)] [(0,Bt F)] 1 1) [.rsl 0 0 k] [Az 41 (ac.preZ 0 (l:=W) (i:=(k:Int)) (y:=W.take k) (by unfold tq;rw[Bz ⟨aa,by rw[E0];omega⟩,E0]))] [hc (rfl:k=k),hc (ac.imm F)] (ρ:=[(0,0)]) (kd:=[(0,.row)])
end
section
variable {gl:Cd} {gg:Aj} {I:Gi} (hI:O8 gl gg I)
include hI
theorem AgX(c d:Ab):ba prog gl 54 [.agg (aj d),.ptr [.ptr (Ag gg) 0] 0,.ptr (aj c) 0] (bG (I.bef c d)):=by refine Gh func54 ?_;exact Ar [hf 8 (hI.bef c d)] []
def Pu(I:Gi)(l:A3)(c:Ab):Bool:=l.any (I.bef c)
theorem AgY{l:A3}(hl:l.length<=1000)(c:Ab):ba prog gl 52 [.agg (aj c),.ptr [aE aj l] 0,.ptr [.ptr (Ag gg) 0] 0] (bG (Pu I l c)):=by have hv:R1 prog gl 54 [] [.ptr [.ptr (Ag gg) 0] 0,.ptr (aj c) 0] (λz:Ab=>[.agg (aj z)]) (λb:Bool=>bG b) (λz=>some (I.bef c z)):=⟨aH,bf,eB aH,λz r e=>by cases e;exact AgX hI c z⟩;have h:=kP gl hv (AbB (s:=l) (p:=I.bef c) aa λ_ _=>rfl);refine Gh func52 ?_;refine pO [1,0] (s0 8 gl [(1,.ptr [aE aj l] 0),(2,.ptr [.ptr (Ag gg) 0] 0),(3,.ptr (aj c) 0)] [] 0 0) [] [hc (eB (gs:=aj c) aH)] ?_;exact Ar [hf 7 h] []
theorem AeN{l:A3}(hl:l.length<=1000)(hC:ba prog gl 21 [.ptr (Ag gg) 0,aE aj ids] (aE aj l)):iV prog gl 15 [.ptr (Ag gg) 0,aE aj ids] 36 (l.filter λx=> !Pu I l x).length ((l.filter λx=> !Pu I l x).flatMap aj):=by
 have hv:R1 prog gl 52 [] [.ptr [aE aj l] 0,.ptr [.ptr (Ag gg) 0] 0] (λz:Ab=>[.agg (aj z)]) (λb:Bool=>bG b) (λz=>some (Pu I l z)):=⟨aH,bf,eB aH,λz r e=>by cases e;exact AgY hI hl z⟩;have hcl:cU l=some l:=by grind [cU,aT]
 have hD:=Aca hv hl;generalize (l.filter λx=> !Pu I l x)=F at hD⊢;refine OW func15 ?_;refine pO 1110 (s0 13 gl [(2,.ptr [.ptr (Ag gg) 0] 0),(5,.ptr [aE aj l] 0)] [] 0 0) [hf 8 hC] [hc (eB (gs:=[.ptr (Ag gg) 0]) aH),hc (eB (gs:=[aE aj l]) aH)] ?_;exact EI [ho 10 [aE aj l] [] (jY gl hcl) (Zy _),tN 12 [0] 1 [(0,Bt l)] [.rsl 0 0 l.length,.clo (.func 52) [] [.ptr [aE aj l] 0,.ptr [.ptr (Ag gg) 0] 0]] [(0,Bt F)] hD ⟨⟨rfl,.inr ⟨rfl,ac.imm l⟩⟩,trivial⟩ ⟨⟨rfl,.inr ⟨rfl,ac.imm F⟩⟩,trivial⟩] (ac.imm F)
theorem AeO{c:Ab}(hA:iV prog gl 58 [.ptr (Ag gg) 0,.agg (aJ (I.o c))] 3 l.length (l.flatMap cZ)):iV prog gl 18 [.ptr (Ag gg) 0,.agg (aj c)] 3 l.length (l.flatMap cZ):=by refine OW func18 ?_;exact EI [hf 10 (hI.op c),ho 15 [.ptr (Ag gg) 0,.agg (aJ (I.o c))] [] hA (lZ l)] (rZ.imm l)
end
abbrev Vr(l:Bk):G:= .clo (.func 107) [] [.ptr [aE cZ l] 0]
theorem AcZ(l:Bk):ba prog gl 48 [aE cZ l] (Vr l):=by refine Gh func48 ?_;refine pO [1,0] (s0 4 gl [(1,.ptr [aE cZ l] 0)] [] 0 0) [] [hc (aY (aG 20 (aE cZ l) aH) bf)] ?_;exact Ar [] []
noncomputable abbrev AgZ(st:LoopState):Option Ob:=some ⟨0,[],some (.loop st none 13 [(2,.ref 0 0)] (Dy cAZ) (Dz cAZ) (DA cAZ))⟩
abbrev Ag0(l:Bk)(k:Nat):Fr:=[(0,.yld 1),(5,aE cZ l),(6,iG (ah l)),(7,iG (k:Int))]
noncomputable abbrev σVa(a:Bk):aQ:=[(0,X5 (.rsl 2 0 a.length)),(1,AgZ .ready),(2,JG a)]
noncomputable abbrev σVb(a:Bk):aQ:=[(0,X5 (.rsl 3 0 a.length)),(1,AgZ .busy),(3,JG a)]
theorem Ag1(hn:l.length<=1000):iV prog gl 193 [.lit (.slice none 0 0),Vr l] 3 l.length (l.flatMap cZ):=by
 refine OW func193 ?_;refine YR [1,0,1,2] (s0 13 gl [(2,.ref 0 0),(6,Vr l)] [(0,X5 (.lit (.slice none 0 0)))] 1 0) [] ?_;refine Xt (fst:=[]) (cap:=[.ptr [aE cZ l] 0]) Tryz.f107 func107 ?_;refine Za (l:=l) aa (λk:Nat=>(s0 16 gl (Ag0 l k) (σVa (l.take k)) 3 2)) 1122 [] [hc (rZ.imm [])] (λB k x hx hz k5=>?_) (λB=>?_) (vs:=[3]) (ρ:=rI 3) (kd:=[(2,.row)])
 .have hlt:=(cr hx).1;rw[Hr,hx,Option.toList_some] at k5;have hl:(l.take k).length<=k:=by simp;omega
  generalize l.take k=a at k5 hl⊢;refine pO 1122110210 (s0 16 gl ((4,iG x)::Ag0 l k) (σVa a) 3 2) [hr 8 (C3 hx),Az 9 (rZ.ixZ hz),Az 10 (rZ.p1Z tZ hz)] [hc (rfl:a.length=a.length),hc (rZ.imm a)] ?_ (ρ:=rI 3) (kd:=[(2,.row)]);refine Xw (i:=1) (j:=2) (n:=13) (t:=0) (t2:=0) (pe:=none) (fr:=[(2,.ref 0 0)]) (ps:=Dy cAZ) (a:=Dz cAZ) (b:=DA cAZ) (s1:=(s0 16 gl ([(12,iG x),(11,.yld 1),(4,iG x)]++Ag0 l k) (σVa a) 3 2))
   (s3:=(s0 16 gl ([(14,bG false),(13,bG true),(12,iG x),(11,.yld 1),(4,iG x)]++Ag0 l k) ((1,AgZ .ready)::σVb (a++[x])) 4 2))
   (σVb (a++[x])) 4 (.loop .ready none 13 [(2,.ref 0 0)] (Dy cAZ) (Dz cAZ) (DA cAZ)) [] [] ?_ ?_
  .refine C9 .normal ⟨13,gl,[(2,.ref 0 0),(5,iG x)],σVa a,3,3,true⟩ [] [hc (rfl:a.length=a.length),hc (rZ.imm a)] (Xv Tryz.f193 ?_ rfl);exact C9 .normal ⟨13,gl,[],σVb (a++[x]),4,3,true⟩ [Tn 11 rZ 8 a x aa] [hc (el (a++[x])),hc (rZ.imm (a++[x]))] (by grind [jy]) (ρ:=rI 3++[(3,4)]) (kd:=[(3,.row)])
  .exact jw [hbb 15 (Xl (q:=k) aa)] [hc (el (a++[x])),hc (rZ.imm (a++[x]))] k5 (ρ:=[(0,0),(1,1),(2,3)]) (kd:=[(2,.row)])
 .rw[DZ];refine C9 .normal (s0 16 gl [] [(0,X5 (.rsl 2 0 l.length)),(1,AgZ .ready),(2,JG l)] 3 2) [hr 8 (D4 (s:=l))] [hc (rfl:l.length=l.length),hc (rZ.imm l)] (Xu ?_ rfl) (kd:=[(2,.row)]);exact EI [] (rZ.imm l)
theorem Aa8{r:Bk}(hl:l.length<=12)(h:inZ l=some r)(hr:r.length=l.length):ba prog gl 47 [Vr l] (aE cZ r):=by
 have hC:iV prog gl 105 [Vr l] 3 l.length (l.flatMap cZ):=by refine OW func105 ?_;exact EI [ho 4 [.lit (.slice none 0 0),Vr l] [] (Ag1 gl aa) (lZ l)] (rZ.imm l)
 refine iV.fn ?_ rZ.sz (rZ.len _) (rZ.imm _);rw[hr];refine OW func47 ?_;exact EI [ho 5 [Vr l] [] hC (lZ l),tN 7 [0] 1 [(0,JG l)] [.rsl 0 0 l.length] [(0,JG r)] (NN gl hl h) ⟨⟨rfl,.inr ⟨rfl,rZ.imm l⟩⟩,trivial⟩ ⟨⟨rfl,.inr ⟨rfl,rZ.imm r⟩⟩,trivial⟩] (rZ.imm r)
theorem AeP{a b:Bk}(ha:a.length<=1000)(hb:b.length<=1000):ba prog gl 46 [aE cZ a,aE cZ b] (bG (decide (a=b))):=by
 refine Gh func46 ?_;by_cases hl:a.length=b.length
 .refine pN (λk:Nat=>(s0 26 gl [(0,aE cZ a),(1,aE cZ b),(12,iG (ah a)),(13,iG (k:Int))] [] 0 0)) 1110122 (Ais hl aa) [hr 10 (show decide (ah a≠ah b)=false by unfold ah;rw[hl];simp)] [] (λB k w hs k5 d=>?_);unfold eqQ at hs;cases hx:a[k]? with
  |none=>rw[hx] at hs;cases hs;have:=List.getElem?_eq_none_iff.1 hx;rw[<-d _ rfl];exact Ar [hr 14 (show decide ((k:Int)<ah a)=false from C5 (by unfold ah;omega))] []
  |some x=>
   have hlt:=(cr hx).1;obtain⟨y,hy⟩:∃y,b[k]?=some y:=⟨_,Ef aa⟩;rw[hx,hy] at hs;have hz:=Bp hx;have hz':=Bp hy;cases c:decide (x≠y) with
   |true=>simp only[c,ax] at hs;cases hs;rw[<-d _ rfl];exact Ar [hr 14 (C3 hx),Az 18 (rZ.ixZ hz),Az 19 (rZ.p1Z tZ hz),Az 22 (rZ.ixZ hz'),Az 23 (rZ.p1Z tZ hz'),hr 24 c] []
   |false=>simp only[c,AQ] at hs;cases hs;exact jw [hr 14 (C3 hx),Az 18 (rZ.ixZ hz),Az 19 (rZ.p1Z tZ hz),Az 22 (rZ.ixZ hz'),Az 23 (rZ.p1Z tZ hz'),hr 24 c,hbb 25 (Xl (q:=k) aa)] [] (k5 _ rfl) []
 .rw[show decide (a=b)=false from C5 λh=>hl (by rw[h])];exact Ar [hr 10 (show decide (ah a≠ah b)=true from CM (by unfold ah;omega))] []
def Vv(L:A3)(b:Bool):Ab×Bool:=match L with
 |[c]=>bif b then(c,true)else(⟨0,0,0⟩,false)
 |_=>(⟨0,0,0⟩,false)
theorem AeQ{gg:Aj}{L:A3}{dv:Ab->Bk}{b:Bool}(hR:Bh R)
  (hC:ba prog fI 15 [.ptr (Ag gg) 0,aE aj ids] (aE aj L))
  (d:SE prog fI 24 [.ptr (Ag gg) 0,aE aj ids] [] 0 0 (.ref 0 0) (BG f0 R))
  (hD:∀c,L=[c]->ba prog fI 18 [.ptr (Ag gg) 0,.agg (aj c)] (aE cZ (dv c))/\(dv c).length<=12/\∃r,inZ (dv c)=some r/\r.length=(dv c).length/\decide (GR R=r)=b):ba prog fI 12 [.ptr (Ag gg) 0,aE aj ids] (.tup [.agg (aj (Vv L b).1),bG (Vv L b).2]):=by
 refine Gh func12 ?_
 by_cases hL:L.length=1
 .obtain⟨c,rfl⟩:=List.length_eq_one_iff.1 hL
  obtain⟨h1,h2,r,h3,h4,h5⟩:=hD c rfl
  have hdl:(GR R).length<=1000:=by rw[(LT hR).2.1.length_eq,Hq];have:=hR.len;omega
  have f:=AeP fI (a:=GR R) (b:=r) hdl aa
  rw[h5] at f
  have hz:aS [c] 0=some c:=rfl
  cases b
  .exact Ar [hf 9 hC,hr 12 (show decide (([c].length:Int)≠1)=false by simp),hrn 16 1 [.ptr (Ag gg) 0,aE aj ids] hR d,hrr 17 (O6 1) 15 [] hR (OI fI hR),Az 20 (ac.ixZ hz),Az 21 (ac.ptZ aW hz),hf 22 h1,hf 23 (AcZ fI (dv c)),hf 24 (Aa8 fI h2 h3 h4),hf 25 f] []
  .exact Ar [hf 9 hC,hr 12 (show decide (([c].length:Int)≠1)=false by simp),hrn 16 1 [.ptr (Ag gg) 0,aE aj ids] hR d,hrr 17 (O6 1) 15 [] hR (OI fI hR),Az 20 (ac.ixZ hz),Az 21 (ac.ptZ aW hz),hf 22 h1,hf 23 (AcZ fI (dv c)),hf 24 (Aa8 fI h2 h3 h4),hf 25 f,Az 30 (ac.ixZ hz),Az 31 (ac.ptZ aW hz)] []
 .have e:Vv L b=(⟨0,0,0⟩,false):=by
   unfold Vv;split
   .simp at hL
   .rfl
  rw[e]
  exact Ar [hf 9 hC,hr 12 (show decide ((L.length:Int)≠1)=true from CM aa)] []
section
variable {g:A7} {m:IX} {N:IH} (P:Pg g m N) (h14:g.L.length<=14) (hkn:∀(k:Nat) (o:Bi),g.L[k]?=some o->Kn o)
include P
theorem Am3(a b:Ab):QL g a b=some ((Bx g m N).bef a b):=by
 have w:=P.w;have nI:=w.nI;have nL:=w.nL;unfold QL;rw[dC aa,dC aa,aL,aL,Uf w P.p];unfold gO;cases ha:bu a g.IDs with
 |none=>rfl
 |some i=>
  cases hb:bu b g.IDs with
  |none=>grind
  |some j=>have h1:=(cr (gb ha).1).1;have h2:=(cr (gb hb).1).1;grind [Fo.cell,EZ,au,O9]
include h14 hkn
end
section
variable {g:A7} {m:IX} {N:IH} (P:Pg g m N)
include P
def OQ(I:Gi)(cs:A3):A3:=cs.filter λx=> !Pu I cs x
theorem AeR(hn:cs.length<=1000)(hx:cs[k]?=some x)(a:A3):AH (Ke g cs (a,(k:Int))) (true,0)=some (!Pu (Bx g m N) cs x):=by
 refine T.eq (T.forA cs.length (λj b=>b= !Pu (Bx g m N) (cs.take j) x) aa (by simp[Pu]) (λj b hj hb=>?_) λb hb=>?_)
 .obtain⟨y,hy,_⟩:=dk hj;unfold Ke;dsimp only;rw[eA hj,ax,au,hx,aL,au,hy,aL,Am3 P,aL];have e:Pu (Bx g m N) (cs.take (j+1)) x=(Pu (Bx g m N) (cs.take j) x||(Bx g m N).bef x y):=by grind [Pu,Hr]
  cases c:(Bx g m N).bef x y with
  |true=>exact .some ⟨aq aa,by grind⟩
  |false=>exact .some ⟨aq aa,by grind⟩
 .unfold Ke;dsimp only;rw[eF,AQ];rw[DZ] at hb;exact .some hb
theorem Alc(h:JU g v=some cs)(hn:cs.length<=1000):LF g v=some (OQ (Bx g m N) cs):=by
 unfold LF OQ;rw[h,aL];refine T.eq (.bind (T.mono (T.forA (Q:=λr:A3=>r=cs.filter λx=> !Pu (Bx g m N) cs x) cs.length (λk acc=>acc=(cs.take k).filter λx=> !Pu (Bx g m N) cs x) aa aC (λk acc hk hj=>?_) λacc hj=>?_) λ_ h=> .some h))
 .obtain⟨x,hx,_⟩:=dk hk;have ha:acc.length<=k:=by grind
  have e:(cs.take (k+1)).filter (λx=> !Pu (Bx g m N) cs x)=acc++(bif !Pu (Bx g m N) cs x then[x] else[]):=by grind [Hr]
  unfold M4;dsimp only;rw[eA hk,ax,AeR P hn hx,aL,e];cases c:Pu (Bx g m N) cs x with
  |true=>exact .some ⟨aq aa,aC⟩
  |false=>simp only[Bool.not_false,ax,au,hx,aL];exact .bind (.app cq (.some ⟨aq aa,rfl⟩))
 .unfold M4;dsimp only;rw[eF,AQ];rw[DZ] at hj;exact .some hj
theorem Ag2:∀(i:Nat) (o:Bi) (x:Ab),g.L[i]?=some o->g.IDs[i]?=some x->x.Seq=o.Seq:=λi o x ho hx=>(PK (P.w.ops i o ho).1 (P.w.ids i o x ho hx)).2
end
section
variable {g:A7} {m:IX} {N:IH} (P:Pg g m N) (h14:g.L.length<=14) (hkn:∀(k:Nat) (o:Bi),g.L[k]?=some o->Kn o)
include P h14 hkn
theorem Ac0{x:Ab}(hx:x∈g.IDs):LK g x=some (Sd g ((Bx g m N).o x))/\iV prog fI 18 [.ptr (Ag ⟨g.Cards,m,N⟩) 0,.agg (aj x)] 3 (Sd g ((Bx g m N).o x)).length ((Sd g ((Bx g m N).o x)).flatMap cZ)/\(Sd g ((Bx g m N).o x)).length<=12:=by have nI:=P.w.nI;have nL:=P.w.nL;obtain⟨i,o,e1,e2,e3,_,so,a⟩:=P.w.place (lj.2 hx);grind [Aag,Sd,Pg.op,AeO,SM,PJ,Pg.w,Pg.p,Gi.o,Ag,RJ,LK,dC,au]
theorem AeS{v:A3}(v1:DL g v)(d:v.Nodup):∃(cs:A3) (R:Ad) (D:C7) (q:Ab×Bool),JU g v=some cs/\(∀x,x∈cs↔x∈v/\isC g (Bx g m N) x=true)/\cs.Nodup/\cs.length<=14/\(cs.Pairwise λx y=>Nf (Bx g m N) x y<0)/\LF g v=some (OQ (Bx g m N) cs)/\KS g v=some q/\(q.2=false->q.1=⟨0,0,0⟩)/\(q.2=true->OQ (Bx g m N) cs=[q.1]/\lg (Sd g ((Bx g m N).o q.1))=some (GR R))/\Rr R D/\Bh R/\∀s:A3,s.Perm v->ba prog fI 21 [.ptr (Ag ⟨g.Cards,m,N⟩) 0,aE aj s] (aE aj cs)/\iV prog fI 15 [.ptr (Ag ⟨g.Cards,m,N⟩) 0,aE aj s] 36 (OQ (Bx g m N) cs).length ((OQ (Bx g m N) cs).flatMap aj)/\SE prog fI 24 [.ptr (Ag ⟨g.Cards,m,N⟩) 0,aE aj s] [] 0 0 (.ref 0 0) (BG f0 R)/\ba prog fI 12 [.ptr (Ag ⟨g.Cards,m,N⟩) 0,aE aj s] (.tup [.agg (aj q.1),bG q.2]):=by
 obtain⟨row,c1,c2,c3,c4,c5⟩:=Abn P h14 hkn v1 d;obtain⟨R,D,sen,u,i,a,A,f,_⟩:=Abt P h14 (Ag2 P) v1 d;have hS:∀s:A3,s.Perm v->ba prog fI 21 [.ptr (Ag ⟨g.Cards,m,N⟩) 0,aE aj s] (aE aj (row.filter (isC g (Bx g m N)))):=λs hs=>by obtain⟨t,b1,_,b3,b4,_⟩:=Abn P h14 hkn (v:=s) (by constructor<;>grind [DL.sub,List.Perm.length_eq]) (hs.nodup_iff.2 d);rw[OO (Ut (Bx g m N)).tr Nv (by grind) b4 c4] at b1;exact b1
 have hm:∀x,x∈row.filter (isC g (Bx g m N))↔x∈v/\isC g (Bx g m N) x=true:=by grind
 have hnd:=(c3.nodup_iff.2 d).sublist (List.filter_sublist (p:=isC g (Bx g m N)));have hln:(row.filter (isC g (Bx g m N))).length<=14:=by grind
 have b:=c4.sublist (List.filter_sublist (p:=isC g (Bx g m N)));generalize row.filter (isC g (Bx g m N))=cs at*;have hL:=Alc P c2 aa;have hLm:∀x∈OQ (Bx g m N) cs,x∈g.IDs:=λx hx=>v1.sub x ((hm x).1 (GV.1 hx).1).1;have hC:=λs hs=>AeN (SM (PJ P.w P.p)) aa (hS s hs);change∀s:A3,s.Perm v->iV prog fI 15 [.ptr (Ag ⟨g.Cards,m,N⟩) 0,aE aj s] 36 (OQ (Bx g m N) cs).length ((OQ (Bx g m N) cs).flatMap aj) at hC;have j:=λx (hx:x∈g.IDs)=>Ac0 P h14 hkn hx;have hdl:(GR R).length<=1000:=by grind [List.Perm.length_eq,LT,Hq,Bh.len]
 have hIn:lg D.In=some (GR R):=by have:=AgP (Ul P A aa).z i a;grind [lu]
 refine⟨cs,R,D,?_⟩;generalize OQ (Bx g m N) cs=L at*;by_cases hl:L.length=1
 .obtain⟨c,rfl⟩:=List.length_eq_one_iff.1 hl;obtain⟨q1,B,C⟩:=j c (by grind);generalize hdv:Sd g ((Bx g m N).o c)=dv at*;obtain⟨r,E,n,F⟩:=AbC (l:=dv) aa;have hr:lg dv=some r:=T.eq ((ZK aa).mono λv hv=>U2 (by grind) hv.2 F);have hrl:r.length<=1000:=by rw[n.length_eq];omega
  refine⟨Vv [c] (decide (GR R=r)),c2,hm,hnd,hln,b,hL,?_,?_,?_,i,a,λs hs=>⟨hS s hs,hC s hs,(f s hs).1,AeQ (dv:=λ_=>dv) a (ac.fo (hC s hs)) (f s hs).1 λc' hc=>?_⟩⟩
  .unfold KS;rw[hL,aL,show decide (ah [c]≠1)=false by simp[ah],AQ,u,aL,hIn,aL,show aS [c] 0=some c from rfl,aL,q1,aL,hr,aL];unfold Aa6 Vv;rw[CM ⟨hdl,hrl⟩,ax,aL];cases decide (GR R=r)<;>rfl
  .grind [Vv]
  .cases h:decide (GR R=r)<;>grind [Vv]
  .cases hc;exact⟨rZ.fo B,C,r,E,n.length_eq,rfl⟩
 .have e:Vv L false=(⟨0,0,0⟩,false):=by unfold Vv;split<;>rfl
  refine⟨Vv L false,c2,hm,hnd,hln,b,hL,?_,by rw[e];simp,by rw[e];simp,i,a,λs hs=>⟨hS s hs,hC s hs,(f s hs).1,AeQ (dv:=λ_=>[]) a (ac.fo (hC s hs)) (f s hs).1 (by grind)⟩⟩;grind [KS,ah]
end
theorem AdL(w:Fo g)(k:Nat)(o:Bi)(ho:g.L[k]?=some o):Kn o:=by obtain⟨sm,a,_⟩:=w.ops k o ho;have f:=T1 a.numbers;have:=sm.nGuards;refine λhk=>?_;grind [On,ah]
def R7(o:Bi)(d:Int)(c:Ab):Bool:=bif o.Kind=6 then bif o.By=d then decide (o.Epoch=c)else false else false
def JK(I:Gi)(v:A3)(d:Int)(c:Ab):Nat:=(v.filter λx=>R7 (I.o x) d c).length
section
variable {g:A7} {m:IX} {N:IH} (P:Pg g m N)
include P
theorem AeT(v1:DL g v)(d:Int)(c:Ab):Pt g v d c=some (JK (Bx g m N) v d c:Int):=by
 have nI:=P.w.nI;have nL:=P.w.nL;have hl:=v1.len;unfold Pt;refine T.eq (.bind (T.mono (T.forA (Q:=λr:Int=>r=(JK (Bx g m N) v d c:Int)) v.length (λk acc=>acc=(JK (Bx g m N) (v.take k) d c:Int)) aa (by simp[JK]) (λk acc hk hj=>?_) λacc hj=>?_) λ_ h=> .some h))
 .obtain⟨x,hx,hm⟩:=dk hk;obtain⟨i,o,e1,e2,e3,_⟩:=P.w.place (lj.2 (v1.sub x hm));have ha:JK (Bx g m N) (v.take k) d c<=k:=LV (M0 ..) (by rw[LW];omega);have e:JK (Bx g m N) (v.take (k+1)) d c=JK (Bx g m N) (v.take k) d c+(bif R7 o d c then 1 else 0):=by
   unfold JK;rw[Hr,hx,Option.toList_some,Nj,Sv];have eo:=(P.op e3 e2).2;cases q:R7 o d c with
   |true=>rw[List.filter_cons_of_pos (by rw[eo];exact q)];rfl
   |false=>rw[List.filter_cons_of_neg (by rw[eo,q];simp)];rfl
  subst hj;unfold Ps;dsimp only;rw[eA hk,ax,au,hx,aL,dC aa,aL,e1,show decide ((i:Int)<0)=false from C5 aa,AQ,au,e3,aL,show(bif o.Kind=6 then(bif o.By=d then(some (decide (o.Epoch=c)))else(some false))else(some false))=some (R7 o d c) by unfold R7;cases decide (o.Kind=6)<;>cases decide (o.By=d)<;>rfl,aL,e];cases R7 o d c with
  |true=>exact .some ⟨aq aa,aq aa⟩
  |false=>exact .some ⟨aq aa,rfl⟩
 .unfold Ps;dsimp only;rw[eF,AQ];rw[DZ] at hj;exact .some hj
theorem AeU(c:g.L.length<=14){o:Bi}(so:Be {o with Path:=[]})(hk:Kn {o with Path:=[]}):T (Qs g {o with Path:=[]}) λv=>∃x:List Fp,v={o with Path:=x}/\x.length<=1000/\∀y∈x,I9 y:=by
 unfold Qs;refine .bind ((zh _).mono λv1 _=> .ite (λ_=> .some ⟨[],rfl,aC,aC⟩) λ_=> .bind ((Iv (o:={o with Path:=[]}) (by obtain⟨_,_,e,h⟩:=Aag P c so hk;exact⟨_,e,aa⟩)).mono λd _=> .bind (T.mono (Q:=λx:List Fp=>x.length<=1000/\∀y∈x,I9 y) (T.loop (λs=>∃j:Nat,s.2=(j:Int)/\j<=5/\s.1.length<=j/\∀y∈s.1,I9 y) (λs=>6-s.2.toNat) ⟨0,rfl,aa,aC,aC⟩ aC ?_) λx hx=> .some ⟨x,rfl,hx⟩)));rintro⟨a,i⟩ ⟨j,rfl,hj,ha,hs⟩;simp only at ha hs;have hwj:wI ((j:Int)+1)=((j+1:Nat):Int):=aq aa;unfold Vp;refine .bind (T.mono (Q:=λb:Bool=>b=true->j<5) (.ite (λ_=> .some λe=>by grind) λ_=> .some λe=>by cases e) λb hb=> .ite (λe=>?_) λ_=> .some ⟨by grind,hs⟩);have:=hb e;refine .bind (.app cq (.some ⟨⟨j+1,hwj,aa,by simp;omega,λy hy=>?_⟩,by grind⟩));rcases Jo.1 hy with hy|hy
 .grind
 .simp at hy;subst hy;exact⟨Mp _,aC,aC⟩
end
theorem Aa9(hl:l.length<=9223372036854775807)(hi:∀x∈l,c8 x)(hm:most<=14)(hk:k<=1000)(w:Fo g)(gr:MG g0 g)(hg:g.L.length<=k):T (LL l most (g,(k:Int))) (Rd (λs'=>s'.2=((k+1:Nat):Int)/\(k:Int)<most/\Fo s'.1/\MG g0 s'.1/\(g.L≠[]->s'.1.L≠[])/\s'.1.L.length<=g.L.length+1) λv=>v=g/\(k=0->most<=0)):=by
 have e2:wI (2*(k:Int))=((2*k:Nat):Int):=by grind [bM]
 have e3:wI (((2*k:Nat):Int)+1)=((2*k+1:Nat):Int):=aq aa;have at_:∀(n:Nat) {Q:Int->Prop},(∀v,c8 v->Q v)->T (bif (n:Int)<ah l then((aS l (n:Int)).bind λt=>some t)else(some 0)) Q:=λn Q q=>by refine .dec (λhp=>?_) λ_=> .some (q 0 dP);refine .bind (.ixl aa (by unfold ah at hp;omega) λy _ hy=> .some (q y (hi y hy)))
 unfold LL;simp only[e2,e3];refine .bind (T.mono (Q:=λb:Bool=>(b=true->(k:Int)<most)/\(b=false->k=0->most<=0)) (.dec (λhp=>?_) λhp=> .some ⟨λe=>(by cases e),λ_ e=>(by subst e;exact Int.not_lt.1 hp)⟩) λb hb=> .ite (λe=>?_) λe=> .some ⟨rfl,hb.2 e⟩)
 .have:(k:Int)<most:=hp;refine .ite (λ_=> .some ⟨λ_=>this,λe=>(by cases e)⟩) λh4=> .some ⟨λ_=>this,λ_ e=>?_⟩;subst e;exact absurd h4 (λe=>Bool.noConfusion e)
 have hk':=hb.1 e;have hw:wI ((k:Int)+1)=((k+1:Nat):Int):=aq aa;refine .bind (at_ (2*k) λC u=> .bind (at_ (2*k+1) λE j=>?_));obtain⟨U,N,hC,_,_,h4⟩:=OL gr rfl rfl Ls;have P:=AiD w h4 gr rfl (by rw[hC];show u7.length<=1000;rw[KL];decide) (hC▸Og) (by rw[hC];show(u7.map (·.Device)).Nodup;rw[Alv];decide);refine .bind (T.mono (Alw (N2 w u j)) λi ⟨z,f⟩=> .bind ((AeU P aa f.nopath (Aht j i z)).mono λF A=>?_));obtain⟨x,rfl,hx⟩:=A;have hS:∀(c:Ab) (n:Int),JT c->c8 n->Be {i with Path:=x,Epoch:=c,N:=n}:=λc n hc hn=>Hm f.iBy f.iSeq f.iKind f.iAt f.sPast f.iDevice f.iOld f.iMember f.iRole hx hc hn f.nBody f.sRefs f.of_ f.sGuards f.iNeed f.iWait f.sBoxes f.pub f.sHist;refine .bindc (.ite (λ_=> .bind ((eX j B5).mono λ_ _=> .some trivial)) λ_=> .some trivial) λH _=> .bind (T.mono (Q:=λo:Bi=>Be o) (.ite (λ_=>?_) λ_=> .some (hS _ _ f.epoch f.iN)) λI so=>?_)
 .refine .bind ((yf w (ids:=i.Past) (by have:=f.nPast;omega)).mono λv hv=>?_);obtain⟨v1,J,_⟩:=hv;obtain⟨cs,R,D,q,_,K,_,_,_,_,M,V,O,_⟩:=AeS P aa (AdL w) v1 J;rw[M,aL];refine .bind (T.mono (Q:=λo:Bi=>Be o) (.ite (λhq=>?_) λ_=> .some (hS _ _ f.epoch f.iN)) λ_ h=> .some h);have hL:=(O hq).1;have hin:q.1∈v:=((K q.1).1 (GV.1 (show q.1∈OQ _ cs by rw[hL];simp)).1).1;rw[AeT P v1,aL];refine .some (hS _ _ (v1.smid w hin) ?_);have:∀d,JK (Bx g (U g.L.length) N) v d q.1<=1000:=λd=>LV (M0 ..) v1.len;exact m7 ⟨aa,by have:=this i.By;show((JK _ v i.By q.1:Nat):Int)<=_;omega⟩
 .refine .bind ((Io so).mono λS B=>?_);obtain⟨s,rfl,hr,hs⟩:=B;refine .bind ((QG w (so.sig s) hs).mono λp r=> .dec (λh0=> .some ⟨hw,hk',r.1,?_,?_,?_⟩) λ_=> .some ⟨hw,hk',w,gr,λh=>h,Nat.le_succ _⟩);all_goals rcases r.2 with⟨h,_⟩|⟨id,up,row,_,a,hid,hrow,hg⟩
  .grind
  .show MG g0 p.1;rw[hg];exact .step gr w (so.sig s) hr hs a hid hrow
  .grind
  .intro _;show p.1.L≠[];rw[hg];show g.L++[_]≠[];simp
  .grind
  .show p.1.L.length<=_;rw[hg];show(g.L++[_]).length<=_;simp
def AeV(c:Int):Option (A7×Int):=(Qs g0 ({We c with Path:=[]})).bind λv=>bif v.Kind=6 then none else(nR v).bind λs=>AO g0 s
theorem AdM:(([0,1,2,3]:Bk).all λc=>(AeV c).map (λr=>(r.2,r.1.L.length))==some (0,1))=true:=aH
theorem ZX(hi:∀x∈l,c8 x)(h0:0<most){r:(A7×Int)⊕A7}(h:LL l most (g0,((0:Nat):Int))=some r):∃g,r= .inl (g,1)/\g.L.length=1:=by
 have at_:∀(n:Int),0<=n->∃v,c8 v/\(bif n<ah l then((aS l n).bind λd=>some d)else(some 0))=some v:=by grind [ah,aS,dP]
 have e2:wI (2*((0:Nat):Int))=0:=bM B5 B5;have e3:wI ((0:Int)+1)=1:=bM B5 B5;have e4:wI (((0:Nat):Int)+1)=1:=bM B5 B5;obtain⟨a,ha,e⟩:=at_ 0 B5;obtain⟨b,hb,eb⟩:=at_ 1 B5;obtain⟨c,hc,f⟩:=Yv ha hb;have hq:=Hd.1 AdM c hc;unfold AeV at hq;unfold LL at h;simp only[e2,e3,e4] at h;rw[CM (by grind),CM (by grind),ax,ax,aL,ax,e,aL,eb,aL,f,aL] at h;cases hs:Qs g0 ({We c with Path:=[]}) with
 |none=>rw[hs] at hq;cases hq
 |some v=>
  rw[hs,aL] at hq h;cases hv:decide (v.Kind=6) with
  |true=>rw[hv] at hq;cases hq
  |false=>
   rw[hv,AQ] at hq;rw[hv,AQ,aL,AQ,aL] at h;cases hg:nR v with
   |none=>rw[hg] at hq;cases hq
   |some s=>
    rw[hg,aL] at hq h;cases hA:AO g0 s with
    |none=>rw[hA] at hq;cases hq
    |some q=>rw[hA] at hq h;grind
theorem AeW(hl:l.length<=9223372036854775807)(hi:∀x∈l,c8 x){most:Int}(h0:0<most)(hm:most<=14):T (N8 l most) λg=>Fo g/\MG g0 g/\g.L≠[]/\(g.L.length:Int)<=most:=by
 unfold N8 r8;rw[aL,Oe,aL];unfold Jf;rw[aL];refine .bind (T.mono (Q:=λg:A7=>Fo g/\MG g0 g/\g.L≠[]/\(g.L.length:Int)<=most) (T.loop (λs=>∃k:Nat,s.2=(k:Int)/\k<=1000/\Fo s.1/\MG g0 s.1/\(k=0->s.1=g0)/\(k≠0->s.1.L≠[])/\s.1.L.length<=k/\(k:Int)<=most) (λs=>1001-s.2.toNat) ⟨0,rfl,aa,Yu,.base,λ_=>rfl,(by grind),Nat.zero_le _,by grind⟩ aC ?_) λv hv=> .some hv);rintro⟨g,i⟩ ⟨k,rfl,hk,w,gr,hz,a,hlk,b⟩;have hlk:g.L.length<=k:=hlk;obtain⟨r,e,hr⟩:=Aa9 hl hi hm hk w gr hlk;refine⟨r,e,?_⟩;cases r with
 |inr v=>obtain⟨rfl,h⟩:=hr;constructor<;>grind
 |inl s=>obtain⟨h1,h2,h3,h4,h5⟩:=hr;refine⟨⟨k+1,h1,aa,h3,h4,(by grind),λ_=>?_,by grind,aa⟩,?_⟩;all_goals grind [ZX]
theorem AdN{m:IX}{l:Bk}(e:N8 l 14=some r)(hof:jg prog fI 44 [.agg (aI r)] [] 0 (.ref 0 0) [(0,oG r.Cards N.length 2),(1,oM m),(2,zQ N)] 3):jg prog fI 10 [aE cZ l] [] 0 (.tup [.ref 0 0,.agg (aI r)]) [(0,oG r.Cards N.length 2),(1,oM m),(2,zQ N)] 3:=by refine pP func10 ?_;exact mt .ret (s0 10 fI [(2,.ref 0 0),(3,.ptr (aI r) 0)] [(0,oG r.Cards N.length 2),(1,oM m),(2,zQ N)] 3 0) [.ref 0 0,.agg (aI r)] [hf 6 (Vq fI e),tN 8 [] 2 [] [.agg (aI r)] [ob 0 105 [aE bv r.Cards,.mref 3,.rsl 4 0 N.length],(1,oM m),(2,zQ N)] hof trivial ⟨⟨rfl,.inl rfl⟩,⟨rfl,rfl,rfl,rfl,.inr ⟨rfl,cf _⟩⟩,⟨rfl,.inr ⟨rfl,az.imm _⟩⟩,trivial⟩] [hc (eB (gs:=aI r) aH),hc (rfl:N.length=N.length),hc (cf m),hc (az.imm N)]
theorem Acb{m:IX}(e:N8 [] 14=some r)(hof:jg prog fI 44 [.agg (aI r)] [] 0 (.ref 0 0) [(0,oG r.Cards N.length 2),(1,oM m),(2,zQ N)] 3):jg prog fI 10 [Iy] [] 0 (.tup [.ref 0 0,.agg (aI r)]) [(0,oG r.Cards N.length 2),(1,oM m),(2,zQ N)] 3:=by refine pP func10 ?_;exact mt .ret (s0 10 fI [(2,.ref 0 0),(3,.ptr (aI r) 0)] [(0,oG r.Cards N.length 2),(1,oM m),(2,zQ N)] 3 0) [.ref 0 0,.agg (aI r)] [hf 6 (UY [Iy,iG 14] (Vq fI e)),tN 8 [] 2 [] [.agg (aI r)] [ob 0 105 [aE bv r.Cards,.mref 3,.rsl 4 0 N.length],(1,oM m),(2,zQ N)] hof trivial ⟨⟨rfl,.inl rfl⟩,⟨rfl,rfl,rfl,rfl,.inr ⟨rfl,cf _⟩⟩,⟨rfl,.inr ⟨rfl,az.imm _⟩⟩,trivial⟩] [hc (eB (gs:=aI r) aH),hc (rfl:N.length=N.length),hc (cf m),hc (az.imm N)]
theorem YF{l:Bk}(hl:l.length<=9223372036854775807)(hi:∀x∈l,c8 x):∃(r:A7) (m:IX) (N:IH),N8 l 14=some r/\Pg r m N/\r.L.length<=14/\r.L≠[]/\MG g0 r/\r.Cards=u7/\jg prog fI 44 [.agg (aI r)] [] 0 (.ref 0 0) [(0,oG r.Cards N.length 2),(1,oM m),(2,zQ N)] 3:=by obtain⟨r,e,w,gr,ne,hn⟩:=AeW hl hi (most:=14) B5 B5;obtain⟨a,N,hC,_,h3,h4⟩:=OL gr rfl rfl Ls;have P:Pg r (a r.L.length) N:=AiD w h4 gr rfl (by rw[hC];show u7.length<=1000;rw[KL];decide) (hC▸Og) (by rw[hC];show(u7.map (·.Device)).Nodup;rw[Alv];decide);have pl:=P.p.len;have hof:=ZC h3;rw[show N.take r.L.length=N by rw[<-pl,DZ]] at hof;generalize a r.L.length=m at*;rw[<-pl] at hof;exact⟨r,m,N,e,P,aa,ne,gr,hC,hof⟩
theorem tE:fg prog 68=some false:=aH
theorem rE:A9 prog 322 68 1 cZ:=⟨aH,aH,B5,λ_=>rfl,λ_=>rfl⟩
theorem Acd(gl:Cd){vals}:DC prog gl (iy vals) 181 [aE cZ vals] iG:=
 cy func181 λK=>OY 11101 (λa=>sg [] [(3,iG 0)]) (λs1=>sg [] [(3,iG 0),(6,aE cZ vals),(7,iG (ah vals)),(8,iG s1)]) [] K (λa=>rv K) λs1 k5 b k6=>aF 9 (CD 10 rE.ixZ 11 (rE.p1Y tE) λc=>aF 14 (aP c3 k6 [])<|rb k5)<|aA c2 b []
def Aba(fk gd a:Bool)(e:Int):Int:=bif fk then 13 else bif gd then 0 else bif a then 15 else bif e=0 then 15 else e
abbrev gMb(m:FM Ab Bool):G:= .mp ((XI ga bG m).map (·.1)) ((XI ga bG m).map (·.2.1)) ((XI ga bG m).map (·.2.2)) m.clk
theorem Ajd(m:FM Ab Bool):FM.g ga bG m=gMb m:=by unfold FM.g gMb XI;simp[Function.comp_def]
section
variable {gg:Aj} {I:Gi} {ids row vs:A3} {s:Bk} {v:FM Ab Bool} {o:Bi} {id:Ab}
theorem Aje(h:AbH fI (LC gg row vs) I)(hO:ba prog fI 62 [.ptr (Ag gg) 0,aE aj ids] (aE aj row))(hV:ba prog fI 227 [.ptr (Ag gg) 0,aE aj ids] (aE aj vs))(hn:vs.length<=1000)
  (hS:ba prog fI 120 [.ptr (Ag gg) 0,aE aj row] (aE cZ s)) (j:s.length<=1000) (hd:Yb I (LC gg row vs) (NR I.cards s)=some v) (hin:ids.length<=1000) (hid:id∈ids) (ho:I.op id=some o) (hog:o.Guards.length<=1000000):
  ba prog fI 91 [.ptr (Ag gg) 0,aE aj ids,.agg (aj id)] (iG (Aba (AB ((ofV vs).get id)) ((EA I (wV (LC gg row vs) v)).any λy=>decide (id=y)) ((EA I (wV (LC gg row vs) v)).any λx=>DG I x id) (K4 (NQ I (EA I (wV (LC gg row vs) v)) id) o))):=by
 have h':AbH fI (wV (LC gg row vs) v) I:=⟨h.g,h.c,h.o,h.n⟩
 have hg:=Aay h'
 have hof:=AiQ hO hV hn
 have k:=Zv h hS j hd
 have hsub:(∀y∈EA I (wV (LC gg row vs) v),y∈row)/\(EA I (wV (LC gg row vs) v)).length<=row.length:=by have:=Td (I:=I) (vd:=v) (l:=row) (out:=[]);unfold EA;exact⟨λy hy=>(this.1 y hy).resolve_left aC,by have h2:=this.2;rw[List.length_nil,Nat.zero_add] at h2;exact h2⟩
 have hrn:row.length<=1000:=h.n
 have hgo:∀y∈EA I (wV (LC gg row vs) v),UE (I.o y) y:=λy hy=>h.o y (hsub.1 y hy)
 have hlk:=N9 (LC gg row vs).fork id
 have hgr:O8 fI gg I:=h.g
 change∀σ,bL _ σ _ _ _ _=some (bG (AB ((ofV vs).get id))) at hlk
 unfold LC at*
 generalize ofV vs=F at*
 generalize hgd:EA I (wV ⟨gg,row,F,F⟩ v)=gd at*
 have d:=Ady hgr h.c (al:=⟨gg,row,v,F⟩) rfl hgo aa id
 have a:=Aaw h.c hgo id
 generalize NQ I gd id=R at*
 have m:=AcH (i:=id) a hog
 have f:=hgr.op id
 rw[show I.o id=o by unfold Gi.o;rw[ho];rfl,ho] at f
 have hv:R1 prog fI 178 [] [.ptr [.ptr (Ag gg) 0] 0,.ptr (aj id) 0] (λz:Ab=>[.agg (aj z)]) (λb:Bool=>bG b) (λz=>some (DG I z id)):=⟨aH,bf,eB aH,λz r e=>by cases e;have:=Ub hgr z id;refine Gh func178 ?_;exact Ar [hf 8 this] []⟩
 have q:=kP fI hv (AbB (s:=gd) (p:=λx=>DG I x id) aa λ_ _=>rfl)
 have hct:=AaD (gl:=fI) (s:=gd) aa id
 have hci:=AaD (gl:=fI) (s:=ids) aa id
 rw[List.any_eq_true.2 ⟨id,hid,CM rfl⟩] at hci
 have hor:iy [K4 R o,15]=some (bif K4 R o=0 then 15 else K4 R o):=by
  generalize K4 R o=e;unfold iy;rw[show AH (fm [e,15]) 0=some (bif e=0 then .inr 15 else .inr e) from T.eq (T.loop (λi=>i=0\/(i=1/\e=0)) (λi=>2-i.toNat) (.inl rfl) B5 λi hi=>by
   unfold fm;rcases hi with rfl|⟨rfl,rfl⟩
   .rw[show decide ((0:Int)<ah [e,15])=true by simp[ah],ax,show aS [e,15] 0=some e from rfl,aL];refine .dec (λh0=> .some (by rw[C5 h0];rfl)) λh0=> .some ⟨.inr ⟨rfl,Decidable.of_not_not h0⟩,B5⟩
   .exact⟨_,rfl,rfl⟩)]
  cases decide (e=0)<;>rfl
 have hor:=Acd fI hor
 refine Gh func91 ?_
 refine pO [1,0] (s0 59 fI [(1,aE aj ids),(3,.ptr [.ptr (Ag gg) 0] 0),(5,.ptr (aj id) 0)] [] 0 0) [] [hc (eB (gs:=[.ptr (Ag gg) 0]) aH),hc (eB (gs:=aj id) aH)] ?_
 simp only[BB,Ajd] at d hlk
 refine pO 111110 (s0 59 fI [(1,aE aj ids),(3,.ptr [.ptr (Ag gg) 0] 0),(5,.ptr (aj id) 0),(7,.ptr [.ptr (Ag gg) 0,aE aj row,gMb v,gMb F] 0),(8,.rsl 0 0 gd.length)] [(0,Bt gd)] 1 0) [hfm 14 [] 0 3 0 [] [.ptr (Ag gg) 0,aE aj ids] (σ3 ⟨gg,row,F,F⟩) hof AcI (Ah6 rfl rfl rfl),hfm 16 [0,1,2] 3 0 3 (σ3 ⟨gg,row,F,F⟩) [.ref 0 0] (σ3 ⟨gg,row,v,F⟩) k in3 (Ah6 rfl rfl rfl),hz 18 [0,1,2] (U1 (al:=⟨gg,row,v,F⟩) (c:=3) (hgd▸hg))] [hc (WY v),hc (WY F),hc (eB (gs:=[.ptr (Ag gg) 0,aE aj row,gMb v,gMb F]) aH),hc (el gd),hc (ac.imm gd)] ?_ [] [(0,3)] [(0,.row)]
 refine pO 1111111020 (s0 59 fI [(1,aE aj ids),(5,.ptr (aj id) 0),(7,.ptr [.ptr (Ag gg) 0,aE aj row,gMb v,gMb F] 0),(8,.rsl 0 0 gd.length),(9,bG (gd.any λx=>DG I x id)),(10,.ptr (aJ o) 0),(11,bG true)] [(0,Bt gd)] 1 0) [hq 21 [aE aj gd,.clo (.func 178) [] [.ptr [.ptr (Ag gg) 0] 0,.ptr (aj id) 0]] [hc (ac.al gd)] q,hf 25 f] [hc (el gd),hc (eB (gs:=aJ o) aH),hc (ac.imm gd)] ?_
 generalize (gd.any λx=>DG I x id)=kl
 generalize AB (F.get id)=fk at hlk⊢
 unfold Aba
 cases fk with
 |true=>exact Ar [hf 34 hci,hm 43 hlk] []
 |false=>
  generalize (gd.any λy=>decide (id=y))=b at hct⊢
  cases b with
  |true=>exact Ar [hf 34 hci,hm 43 hlk,hq 47 [aE aj gd,.agg (aj id)] [hc (ac.al gd)] hct] []
  |false=>
   cases kl with
   |true=>exact Ar [hf 34 hci,hm 43 hlk,hq 47 [aE aj gd,.agg (aj id)] [hc (ac.al gd)] hct] []
   |false=>exact Ar [hf 34 hci,hm 43 hlk,hq 47 [aE aj gd,.agg (aj id)] [hc (ac.al gd)] hct,hfm 53 [0] 1 14 2 [(0,Bt gd)] [.ptr [.ptr (Ag gg) 0,aE aj row,gMb v,gMb F] 0,.rsl 0 0 gd.length,.agg (aj id)] ((0,Bt gd)::BG (O6 2) R) d (AcJ gd) (Aax a gd 2),hrr 56 (O6 2) 16 [.agg (aJ o),.agg (aj id)] a m,hq 58 [aE cZ [K4 R o,15]] [hc (rE.al [K4 R o,15])] hor] []
end
section
variable {gl:Cd} {gg:Aj} {I:Gi} {o:Bi} {x:Ab} {p:A3}
theorem TC(b:Bool)(e:Int):ba prog gl 93 [bG b,iG e] (iG (bif b then 0 else e)):=by refine Gh func93 ?_;cases b<;>exact Ar [] []
abbrev Ag3(gg:Aj)(x:Ab)(p:A3):Bj:=[.ptr [.ptr (Ag gg) 0] 0,.ptr [aE aj p] 0,.ptr (aj x) 0]
abbrev Ag4(gg:Aj)(o:Bi)(p:A3):Bj:=[.ptr [.ptr (Ag gg) 0] 0,.ptr [aE aj p] 0,.ptr (aJ o) 0]
abbrev Ag5(gg:Aj)(o:Bi)(p:A3):Bj:=[.ptr [aE aj p] 0,.ptr [.ptr (Ag gg) 0] 0,.ptr (aJ o) 0]
theorem Ag6{e:Int}(hp:p.length<=1000)(a:ba prog gl 91 [.ptr (Ag gg) 0,aE aj (p++[x]),.agg (aj x)] (iG e)):ba prog gl 90 (Ag3 gg x p) (iG e):=by
 have hcl:cU p=some p:=by grind [cU,aT]
 refine Gh func90 ?_;exact Ar [ho 6 [aE aj p] [] (jY gl hcl) (Zy _),Tn 9 ac 24 p x aa,hq 11 [.ptr (Ag gg) 0,aE aj (p++[x]),.agg (aj x)] [hc (ac.al (p++[x]))] a] []
theorem Ag7{q:Ab×Bool}(hN:ba prog gl 12 [.ptr (Ag gg) 0,aE aj p] (.tup [.agg (aj q.1),bG q.2])):ba prog gl 92 (Ag4 gg o p) (iG (bif q.2&&decide (q.1=o.Epoch)then 0 else 23)):=by
 refine Gh func92 ?_;obtain⟨c,b⟩:=q;cases b with
 |false=>exact Ar [hf 9 hN,hf 19 (TC (gl:=gl) false 23)] []
 |true=>
  have h:=TC (gl:=gl) (decide (c=o.Epoch)) 23;cases e:decide (c=o.Epoch) with
  |false=>rw[e] at h;exact Ar [hf 9 hN,hV 17 (dU c o.Epoch e),hf 19 h] []
  |true=>rw[e] at h;exact Ar [hf 9 hN,hV 17 (dU c o.Epoch e),hf 19 h] []
theorem Ag8(hI:O8 gl gg I)(hp:p.length<=1000):ba prog gl 94 (Ag5 gg o p) (iG (bif (JK I p o.By o.Epoch:Int)=o.N then 0 else 11)):=by
 refine Gh func94 ?_;refine Za (l:=p) aa (λk:Nat=>(s0 46 gl [(1,.ptr [.ptr (Ag gg) 0] 0),(2,.ptr (aJ o) 0),(4,iG (JK I (p.take k) o.By o.Epoch:Int)),(9,aE aj p),(10,iG (ah p)),(11,iG (k:Int))] [] 0 0)) 1110122 [] [] (λB k y hy hz k5=>?_) (λB=>?_)
 .have hlt:=(cr hy).1;have hn:JK I (p.take k) o.By o.Epoch<=k:=LV (M0 ..) (by rw[LW];omega);rw[show JK I (p.take (k+1)) o.By o.Epoch=JK I (p.take k) o.By o.Epoch+(bif R7 (I.o y) o.By o.Epoch then 1 else 0) by unfold JK;rw[Hr,hy,Option.toList_some,Nj,Sv];cases h:R7 (I.o y) o.By o.Epoch<;>simp[h]] at k5
  generalize JK I (p.take k) o.By o.Epoch=n at hn k5⊢;have a:=hI.op y;generalize I.o y=u at a k5;unfold R7 at k5;cases c1:decide (u.Kind=6) with
  |false=>rw[c1] at k5;exact jw [hr 12 (C3 hy),Az 13 (ac.ixZ hz),Az 14 (ac.ptZ aW hz),hf 18 a,hr 23 c1,hbb 40 (Xl (q:=k) aa)] [] k5 []
  |true=>
   rw[c1,ax] at k5;cases c2:decide (u.By=o.By) with
   |false=>rw[c2] at k5;exact jw [hr 12 (C3 hy),Az 13 (ac.ixZ hz),Az 14 (ac.ptZ aW hz),hf 18 a,hr 23 c1,hr 29 c2,hbb 40 (Xl (q:=k) aa)] [] k5 []
   |true=>
    rw[c2,ax] at k5;cases c3:decide (u.Epoch=o.Epoch) with
    |false=>rw[c3] at k5;exact jw [hr 12 (C3 hy),Az 13 (ac.ixZ hz),Az 14 (ac.ptZ aW hz),hf 18 a,hr 23 c1,hr 29 c2,hV 36 (dU u.Epoch o.Epoch c3),hbb 40 (Xl (q:=k) aa)] [] k5 []
    |true=>rw[c3] at k5;exact jw [hr 12 (C3 hy),Az 13 (ac.ixZ hz),Az 14 (ac.ptZ aW hz),hf 18 a,hr 23 c1,hr 29 c2,hV 36 (dU u.Epoch o.Epoch c3),hbb 39 (Xl (q:=n) aa),hbb 40 (Xl (q:=k) aa)] [] k5 []
 .rw[DZ];generalize JK I p o.By o.Epoch=n;have h:=TC (gl:=gl) (decide ((n:Int)=o.N)) 11;cases c:decide ((n:Int)=o.N) with
  |false=>rw[c] at h;exact Ar [hr 12 (D4 (s:=p)),hr 44 c,hf 45 h] []
  |true=>rw[c] at h;exact Ar [hr 12 (D4 (s:=p)),hr 44 c,hf 45 h] []
def AdO(a b c:Int):Int:=bif a≠0 then a else bif b≠0 then b else c
def Ag9(a b c:Int):Nat->Option (Nat⊕Int)
 |0=>bif a≠0 then some (.inr a)else some (.inl 1)
 |1=>bif b≠0 then some (.inr b)else some (.inl 2)
 |2=>bif c≠0 then some (.inr c)else some (.inl 3)
 |3=>some (.inr 0)
 |_=>none
theorem Ajf{a b c:Int}:AH (Ag9 a b c) 0=some (AdO a b c):=T.eq (T.loop (λk=>k<=3/\(1<=k->a=0)/\(2<=k->b=0)/\(3<=k->c=0)) (λk=>4-k) ⟨aa,aa,aa,aa⟩ B5 λk ⟨h0,h1,h2,h3⟩=>by
 unfold AdO;match k,h0 with
 |0,_=>exact .dec (λh=> .some (show a=_ by simp[h])) λh=> .some ⟨⟨aa,λ_=>aa,aa,aa⟩,aa⟩
 |1,_=>exact .dec (λh=> .some (show b=_ by simp[h,h1 aa])) λh=> .some ⟨⟨aa,λ_=>h1 aa,λ_=>aa,aa⟩,aa⟩
 |2,_=>exact .dec (λh=> .some (show c=_ by simp[h1 aa,h2 aa])) λh=> .some ⟨⟨aa,λ_=>h1 aa,λ_=>h2 aa,λ_=>aa⟩,aa⟩
 |3,_=>exact .some (show(0:Int)=_ by simp[h1 aa,h2 aa,h3 aa]))
abbrev snR(gg:Aj)(o:Bi)(x:Ab)(p:A3):Bj:=[.clo (.func 90) [] (Ag3 gg x p),.clo (.func 92) [] (Ag4 gg o p),.clo (.func 94) [] (Ag5 gg o p)]
theorem AdP{a b:Int}(h1:ba prog gl 90 (Ag3 gg x p) (iG a))(h2:ba prog gl 92 (Ag4 gg o p) (iG b))(h3:ba prog gl 94 (Ag5 gg o p) (iG c)):ba prog gl 89 [.sl (snR gg o x p) 3] (iG (AdO a b c)):=by
 refine Gh func89 ?_;refine pN (λk:Nat=>(s0 18 gl [(6,.sl (snR gg o x p) 3),(7,iG 3),(8,iG (k:Int))] [] 0 0)) 110122 (Ajf (a:=a) (b:=b) (c:=c)) [] [] (λB k w hs k5 e=>?_);match k with
 |0=>
  unfold Ag9 at hs;rcases bC hs with⟨d,hs⟩|⟨d,hs⟩
  .cases hs;rw[<-e _ rfl];exact Ar [hf 13 h1,hr 15 d] []
  .cases hs;exact jw [hf 13 h1,hr 15 d] [] (k5 _ rfl) []
 |1=>
  unfold Ag9 at hs;rcases bC hs with⟨d,hs⟩|⟨d,hs⟩
  .cases hs;rw[<-e _ rfl];exact Ar [hf 13 h2,hr 15 d] []
  .cases hs;exact jw [hf 13 h2,hr 15 d] [] (k5 _ rfl) []
 |2=>
  unfold Ag9 at hs;rcases bC hs with⟨d,hs⟩|⟨d,hs⟩
  .cases hs;rw[<-e _ rfl];exact Ar [hf 13 h3,hr 15 d] []
  .cases hs;exact jw [hf 13 h3,hr 15 d] [] (k5 _ rfl) []
 |3=>cases hs;rw[<-e _ rfl];exact Ar [] []
 |k+4=>cases hs
theorem AeZ{a b:Int}(hI:O8 gl gg I)(ho:I.op x=some o)(hP:iV prog gl 88 [.ptr (Ag gg) 0,aE aj [x]] 36 p.length (p.flatMap aj))(h1:ba prog gl 90 (Ag3 gg x p) (iG a))(h2:ba prog gl 92 (Ag4 gg o p) (iG b))(h3:ba prog gl 94 (Ag5 gg o p) (iG c)):ba prog gl 37 [.ptr (Ag gg) 0,.agg (aj x)] (iG (bif o.Kind≠6 then 1 else AdO a b c)):=by
 have d:=hI.op x;rw[show I.o x=o by unfold Gi.o;rw[ho];rfl] at d;have e:=AdP h1 h2 h3;refine Gh func37 ?_;cases c:decide (o.Kind≠6) with
 |true=>exact Ar [hf 11 d,hr 16 c] []
 |false=>refine pO 111110 (s0 26 gl [(2,.ptr [.ptr (Ag gg) 0] 0),(3,.ptr (aj x) 0),(5,.ptr (aJ o) 0),(7,.ptr [aE aj p] 0)] [] 0 0) [hf 11 d,hr 16 c,Go.Proofs.YtlijnaneopediaaGreatDoor.ho 20 [.ptr (Ag gg) 0,aE aj [x]] [hc (ac.al [x])] hP (kF p)] [hc (eB (gs:=[.ptr (Ag gg) 0]) aH),hc (eB (gs:=aj x) aH),hc (eB (gs:=aJ o) aH),hc (ac.al p),hc (eB (gs:=[aE aj p]) aH)] ?_;exact Ar [hq 25 [.sl (snR gg o x p) 3] [hc (p:=(snR gg o x p).length=3*1/\(∀z∈snR gg o x p,bB z)/\3=3) ⟨rfl,eB aH,rfl⟩] e] []
end
section
set_option maxHeartbeats 2000000
def Qt(g:A7)(d:Bk)(e:Int)(a:Int):Option ((Int)⊕(Unit⊕Int)):=
 bif a<ah d then((aS d a).bind λb=>(n9 g b e).bind λc=>bif c then(some (.inr (.inr 15)))else(some (.inl (wI (a+1)))))else(some (.inr (.inl ())))
def R8(g:A7)(ids:A3)(c:Ab):JI:=
 (jL ids c).bind λv1=>bif(!v1)then(some 4)else((oR g ids).bind λl=>(Qi g l).bind λd=>(fC g c).bind λa=>(aS l.Fork a).bind λe=>bif e then(some 13)else((fb d a).bind λf=>bif f then(some 0)else((AH (Qt g d a) 0).bind λh=>ma h (λm=>(Fg g d a).bind λi=>(aS g.L a).bind λj=>(aS g.IDs a).bind λk=>(AX i j k).bind λb=>bif b=0 then(some 15)else(some b)) (λq=>some q))))
def Abb(g:A7)(a:Ab):JI:=
 (fC g a).bind λv1=>bif v1<0 then(some 1)else((aS g.L v1).bind λb=>bif b.Kind≠6 then(some 1)else((r9 g [a]).bind λe=>(aT 24 ([]:A3) e).bind λj=>(aT 24 j [a]).bind λf=>(R8 g f a).bind λc=>bif c≠0 then(some c)else((KS g e).bind λd=>(bif(!d.2)then(some true)else(some (!decide (d.1=b.Epoch)))).bind λh=>bif h then(some 23)else((Pt g e b.By b.Epoch).bind λi=>bif b.N≠i then(some 11)else(some 0)))))
end
section
variable {g:A7} {m:IX} {N:IH} (P:Pg g m N) (h14:g.L.length<=14)
include P h14
theorem Ae0{w:A3}(w1:DL g w)(w2:w.Nodup){o:Bi}(hx:g.IDs[k]?=some x)(ho:g.L[k]?=some o)(b:x∈w):∃(row vs:A3) (v:FM Ab Bool),n8 g w=some row/\vJ w=some vs/\Yb (Bx g m N) (LC ⟨g.Cards,m,N⟩ row vs) (NR g.Cards (Mi (Bx g m N) row))=some v/\R8 g w x=some (Aba (decide (x∈vs)) ((EA (Bx g m N) (wV (LC ⟨g.Cards,m,N⟩ row vs) v)).any λy=>decide (x=y)) ((EA (Bx g m N) (wV (LC ⟨g.Cards,m,N⟩ row vs) v)).any λy=>DG (Bx g m N) y x) (K4 (NQ (Bx g m N) (EA (Bx g m N) (wV (LC ⟨g.Cards,m,N⟩ row vs) v)) x) o))/\∀s:A3,s.Perm w->ba prog fI 91 [.ptr (Ag ⟨g.Cards,m,N⟩) 0,aE aj s,.agg (aj x)] (iG (Aba (decide (x∈vs)) ((EA (Bx g m N) (wV (LC ⟨g.Cards,m,N⟩ row vs) v)).any λy=>decide (x=y)) ((EA (Bx g m N) (wV (LC ⟨g.Cards,m,N⟩ row vs) v)).any λy=>DG (Bx g m N) y x) (K4 (NQ (Bx g m N) (EA (Bx g m N) (wV (LC ⟨g.Cards,m,N⟩ row vs) v)) x) o))):=by
 have W:=P.w;have nI:=W.nI;have nL:=W.nL;have hkl:=(cr ho).1;have so:=(W.ops k o ho).1;have hog:o.Guards.length<=1000000:=by grind [Be.nGuards]
 obtain⟨row,vs,c,u,A,v1,_,hvl,hL,hrm,hvm,hrn,hrl,hS⟩:=Aaf P h14 (Ag2 P) w1 w2;obtain⟨B,ed,v,hv,hLr⟩:=Aa4 P w1 c hrn aa hrm v1 hvl hvm;obtain⟨gd,eg,g1,g2,d,e⟩:=AeE P hLr;have hwl:=w1.len;have hI:=SM (PJ P.w P.p);obtain⟨s1,s2⟩:=AeH P hrm;refine⟨row,vs,v,c,v1,hv,?_,λs hs=>?_⟩
 .have a:=hLr.fk k x hx;rw[show(wV (LC ⟨g.Cards,m,N⟩ row vs) v).fork=ofV vs from rfl,UJ] at a;obtain⟨D,eD,f,i,l⟩:=Ak1 P g1 g2 (hrn.sublist e) hx;have q:=AiY (Ul P l aa).z f i hog x;have hgood:QF gd (k:Int)=(HR g gd).any λz=>decide (x=z):=by grind [JB,Ab3]
  have hsr:=T.search (step:=Qt g gd (k:Int)) gd (λz=>DG (Bx g m N) ((g.IDs[z.toNat]?).getD ⟨0,0,0⟩) x) (λ_ _=>(15:Int)) aa (λj z hz hj=>by obtain⟨n,y,rfl,hn,hy,_⟩:=OP W g1 hz;unfold Qt;rw[eA hj,ax,au,hz,aL,Ab1 P hn hkl hy hx,aL,E0,hy,M1];cases DG (Bx g m N) y x<;>grind [aq]) (by grind [Qt,eF])
  obtain⟨r,t,hr⟩:=hsr;have hkl2:((HR g gd).any λy=>DG (Bx g m N) y x)=gd.any λz=>DG (Bx g m N) ((g.IDs[z.toNat]?).getD ⟨0,0,0⟩) x:=by unfold HR;rw[List.any_map];rfl
  rw[<-d,<-hgood,hkl2];unfold R8;rw[kf aa,aL,show nA w x=true from List.any_eq_true.2 (by grind),Bool.not_true,AQ,ed,aL,eg,aL,dC aa,aL,show gO g x=(k:Int) by unfold gO;rw[Ju W hx],au,a,aL];unfold Aba;cases decide (x∈vs) with
  |true=>rfl
  |false=>
   rw[AQ,AQ,cX aa,aL];cases QF gd (k:Int) with
   |true=>rfl
   |false=>
    rw[AQ,AQ,t,aL];rcases hr with⟨rfl,h⟩|⟨j,z,hz,h,rfl,_⟩
    .rw[show(gd.any λz=>DG (Bx g m N) ((g.IDs[z.toNat]?).getD ⟨0,0,0⟩) x)=false by grind [List.any_eq_false],AQ];show(Fg g gd (k:Int)).bind _=_;grind [au]
    .rw[List.any_eq_true.2 (by grind)];rfl
 .have h:=Aje (id:=x) (o:=o) hL (hS s hs).1 (hS s hs).2 hvl (by grind [Sp]) (by grind) hv (by rw[hs.length_eq];omega) (hs.mem_iff.2 b) (P.op ho hx).1 hog;rw[UJ] at h;exact h
end
theorem AeY{g:A7}(w:Fo g){i j:Nat}(h:O9 g i j=true):∀(n k:Nat),j-k<=n->O9 g j k=true->O9 g i k=true
 |n,k,hn,hk=>by
  obtain⟨u,hu,h1|⟨c,v,h1,h2,h3⟩⟩:=w.la j k hk
  .grind [Fo.tr]
  .have a:=(w.inlt c k (w.one c k v h2 h3)).1;have b:=(w.inlt j c h1).1;match n with
   |0=>omega
   |n+1=>exact w.tr i c k v (AeY w h n c aa h1) h2 h3
section
variable {g:A7} {m:IX} {N:IH} (P:Pg g m N)
include P
theorem ZZ(h:(Bx g m N).bef x y=true):∃i j,bu x g.IDs=some i/\bu y g.IDs=some j/\O9 g j i=true:=by grind [Uf,Pg.w,Pg.p]
theorem Ajc{x y z:Ab}(h1:(Bx g m N).bef x y=true)(h2:(Bx g m N).bef y z=true):(Bx g m N).bef x z=true:=by obtain⟨i,j,a,b,c⟩:=ZZ P h1;obtain⟨f,k,b',d,e⟩:=ZZ P h2;rw[b] at b';cases b';rw[Uf P.w P.p,a,d];exact AeY P.w e _ i (Dx _) c
end
section
variable {g:A7} {m:IX} {N:IH} (P:Pg g m N) (h14:g.L.length<=14)
include P h14
theorem Z2{x:Ab}(hx:g.IDs[k]?=some x):∃p v:A3,iV prog fI 88 [.ptr (Ag ⟨g.Cards,m,N⟩) 0,aE aj [x]] 36 p.length (p.flatMap aj)/\r9 g [x]=some v/\p.Perm v/\v.Nodup/\DL g v/\(∀y,y∈v↔(Bx g m N).bef y x=true)/\v.length<=14/\x∉v:=by
 have w:=P.w;have nI:=w.nI;have pl:=P.p.len;obtain⟨v,e,v1,l,_,n⟩:=EB w (ids:=[x]) aC;have hs:=Adj (p:=gW (Rh ⟨g.Cards,m,N⟩ [x])) (N:=N);rw[Afy P] at hs;have hle:=hs.length_le;obtain⟨p,e2,f,o⟩:=Uh NS (w.nd.sublist hs) aa;have hin:∀j,uX g [x] j↔O9 g k j=true:=λj=>by unfold uX;have:=Ju w hx;grind
 have hb:∀y,y∈v↔(Bx g m N).bef y x=true:=λy=>by
  rw[l];constructor
  .rintro⟨j,h1,h2⟩;rw[Uf w P.p,Ju w h1,Ju w hx];exact(hin j).1 h2
  .intro h;obtain⟨i,j,a,b,c⟩:=ZZ P h;rw[Ju w hx] at b;cases b;exact⟨i,(gb a).1,(hin i).2 c⟩
 have hpv:p.Perm v:=(List.perm_ext_iff_of_nodup (f.nodup_iff.2 (w.nd.sublist hs)) v1).2 λy=>by
  rw[l,f.mem_iff,Adi];constructor
  .rintro⟨j,d,h1,h2,rfl⟩;have hk:=(cr h1).1;exact⟨j,(P.p.nd j d h1).2.1,(UR P aa).1 h2⟩
  .rintro⟨j,h1,h2⟩;have hk:=(cr h1).1;obtain⟨d,hy⟩:∃d,N[j]?=some d:=⟨_,Ef aa⟩;have:=(P.p.nd j d hy).2.1;grind [UR]
 refine⟨p,v,Adg (gl:=fI) (PJ w P.p) (by show N.length<=14;omega) (ids:=[x]) aC e2 f.length_eq,e,hpv,v1,⟨λy hy=>?_,aa⟩,hb,aa,λh=>?_⟩
 .obtain⟨i,j,a,_,_⟩:=ZZ P ((hb y).1 hy);exact bO (gb a).1
 .exact Nv x (UQ P ((hb x).1 h))
theorem Ae1{x:Ab}{o:Bi}(hx:g.IDs[k]?=some x)(ho:g.L[k]?=some o):∃z:Int,ba prog fI 37 [.ptr (Ag ⟨g.Cards,m,N⟩) 0,.agg (aj x)] (iG z)/\Abb g x=some z/\(z=0->o.Kind=6/\∃v:A3,r9 g [x]=some v/\KS g v=some (o.Epoch,true)/\(JK (Bx g m N) v o.By o.Epoch:Int)=o.N/\R8 g (v++[x]) x=some 0):=by
 have W:=P.w;have nI:=W.nI;have nL:=W.nL;have hkn:=AdL W;obtain⟨p,v,hP,ev,hpv,v1,b,d,f,h⟩:=Z2 P h14 hx;have hxm:=bO hx;have w2:(v++[x]).Nodup:=by grind
 have w1:DL g (v++[x]):=by grind [DL]
 obtain⟨_,_,_,_,_,_,hw,a⟩:=Ae0 P h14 w1 w2 hx ho aC;obtain⟨cs,R,D,q,_,_,_,_,_,_,hq,_,_,_,_,hN⟩:=AeS P h14 hkn b v1;have hI:=SM (PJ W P.p);have a:=a (p++[x]) (hpv.append_right [x]);have hpl:p.length<=1000:=by rw[hpv.length_eq];omega
 have hc:JK (Bx g m N) p o.By o.Epoch=JK (Bx g m N) v o.By o.Epoch:=(hpv.filter _).length_eq;have h3:=Ag8 (gl:=fI) (o:=o) hI hpl;have h2:=Ag7 (gl:=fI) (o:=o) (hN p hpv).2.2.2;have h1:=Ag6 hpl a;rw[show JK (PP ⟨g.Cards,m,N⟩) p o.By o.Epoch=JK (Bx g m N) v o.By o.Epoch from hc] at h3;have hS:=AeZ hI (P.op ho hx).1 hP h1 h2 h3;clear h1 h2 h3 hP a hN hI;refine⟨_,hS,?_,λh0=>?_⟩
 .unfold Abb;rw[dC aa,aL,show gO g x=(k:Int) by unfold gO;rw[Ju W hx],show decide ((k:Int)<0)=false from(by simp_all),AQ,au,ho,aL];cases c:decide (o.Kind≠6) with
  |true=>rfl
  |false=>rw[AQ,AQ,ev,aL,show aT 24 ([]:A3) v=some v by grind [aT],aL,show aT 24 v [x]=some (v++[x]) by grind [aT],aL,hw,aL];generalize Aba _ _ _ _=e;unfold AdO;grind [AeT]
 .cases c:decide (o.Kind≠6) with
  |true=>grind
  |false=>rw[c,AQ] at h0;refine⟨Decidable.of_not_not (Lq c),v,ev,?_⟩;generalize Aba _ _ _ _=e at h0 hw;unfold AdO at h0;grind
end
theorem YZ{σ ρ:Type}{f h:σ->Option (σ⊕ρ)}(J:σ->Prop)(k:∀s,J s->f s=h s/\∀s',f s=some (.inl s')->J s'):∀(n:Nat) (s:σ),J s->KN f n s=KN h n s
 |0,s,_=>rfl
 |n+1,s,hs=>by
  obtain⟨e,hj⟩:=k s hs;unfold KN;rw[<-e];cases c:f s with
  |none=>rfl
  |some r=>
   cases r with
   |inr r=>rfl
   |inl s'=>exact YZ J k n s' (hj s' c)
theorem JS{α β:Type}{f h:β->α->β}(J:β->Prop):∀{l:List α} {a:β},J a->(∀b x,x∈l->J b->f b x=h b x/\J (f b x))->l.foldl f a=l.foldl h a/\J (l.foldl f a)
 |[],a,ha,_=>⟨rfl,ha⟩
 |x::r,a,ha,k=>by obtain⟨e,hj⟩:=k a x aC ha;rw[List.foldl_cons,List.foldl_cons,<-e];exact JS J hj (by grind)
structure Agr (I I':Gi) (row e:A3):Prop where
 op:∀x∈row,I.op x=I'.op x
 bef:∀x∈row,∀y∈row,I.bef x y=I'.bef x y
 cards:I.cards=I'.cards
 card:I.card=I'.card
 out:∀x∈e,x∉row
 up:∀x∈e,∀y∈row,I'.bef y x=true/\I'.bef x y=false
 kind:∀x∈e,Gq (I'.o x).Kind=false/\Xc (I'.o x)=none
section
variable {I I':Gi} {row e:A3} (A:Agr I I' row e)
include A
theorem Agr.o{x:Ab}(hx:x∈row):I.o x=I'.o x:=by grind [Gi.o,op]
theorem Agr.kil{x y:Ab}(hx:x∈row)(hy:y∈row):DG I x y=DG I' x y:=by grind [DG,AhU,Zb,op,bef,o,card]
theorem Agr.kilx{x y:Ab}(hx:x∈row)(hy:y∈e):DG I' x y=false:=by grind [DG,up]
theorem Agr.wait{x y:Ab}(hx:x∈row)(hy:y∈row):DQ I row x y=DQ I' (row++e) x y:=by grind [DQ,Ux,up,bef,kil]
theorem Agr.did{l:A3}(hl:∀y∈l,y∈row){x:Ab}(hx:x∈row):NQ I l x=NQ I' l x:=by unfold NQ;rw[A.cards];exact(JS (λ_=>True) trivial (by grind [RU,bef,o])).1
theorem Agr.good(vd:FM Ab Bool):row.foldl (Ha I vd) []=row.foldl (Ha I' vd) []/\∀y∈row.foldl (Ha I vd) [],y∈row:=
 JS (λb=>∀y∈b,y∈row) aC (by grind [Ha,did,o])
theorem Agr.goodAny(vd:FM Ab Bool){x:Ab}(hx:x∈row):((row++e).foldl (Ha I' vd) []).any (λz=>decide (x=z))=(row.foldl (Ha I vd) []).any (λz=>decide (x=z)):=by
 rw[LX,(A.good vd).1];have key:∀(l out:A3),(∀y∈l,y∉row)->(l.foldl (Ha I' vd) out).any (λz=>decide (x=z))=out.any λz=>decide (x=z):=λl=>by
  induction l with
  |nil=>grind
  |cons a r ih=>intro out h;rw[List.foldl_cons,ih _ (by grind)];grind [Ha]
 grind [out]
theorem Agr.void{left:A3}(hl:∀y∈left,y∈row){x:Ab}(hx:x∈row)(v:FM Ab Bool):vAl I row left x v=vAl I' (row++e) left x v:=by unfold vAl;rw[LX];have h1:=(JS (f:=vFu I row left x) (h:=vFu I' (row++e) left x) (λ_=>True) (l:=row) (a:=v) trivial (by grind [vFu,kil,wait])).1;rw[h1];generalize row.foldl (vFu I' (row++e) left x) v=u;refine(List.foldlRecOn (motive:=λb=>u=b) e _ rfl λb hb y hy=>?_);grind [vFu,kilx,out]
theorem Agr.first{l:A3}(hl:∀y∈l,y∈row)(sen:FM Int Int):X9 I row l sen=X9 I' (row++e) l sen:=by funext s;grind [X9,wait]
theorem Agr.dec{gg gg':Aj}{vs:A3}(sen:FM Int Int):Yb I (LC gg row vs) sen=Yb I' (LC gg' (row++e) vs) sen:=by
 unfold Yb;show AH _ (row.filter _,ofV vs)=AH _ ((row++e).filter _,ofV vs);rw[Nj,show e.filter (λx=> !!Gq (I'.o x).Kind)=[] from(by grind [List.filter_eq_nil_iff,kind]),Md,show row.filter (λx=> !!Gq (I.o x).Kind)=row.filter (λx=> !!Gq (I'.o x).Kind) from(by grind [List.filter_congr,o])];refine YZ (λs=>∀y∈s.1,y∈row) (λs hs=>?_) _ _ (by grind);have hl1:∀y∈s.1.filter (λx=> !AB (s.2.get x)),y∈row:=by grind
 have hf:=A.first hl1 sen;have hrow:(LC gg row vs).row=row:=rfl;have hrow':(LC gg' (row++e) vs).row=row++e:=rfl;unfold Aem;dsimp only;rw[hrow,hrow',hf];generalize s.1.filter (λx=> !AB (s.2.get x))=l1 at*;constructor
 .cases decide (s.1.length<=1000) with
  |false=>rfl
  |true=>
   cases decide (ah l1=0) with
   |true=>rfl
   |false=>
    simp only[ax,AQ];cases AH (X9 I' (row++e) l1 sen) (0,-1) with
    |none=>rfl
    |some i=>
     rw[aL,aL];cases h:aS l1 i with
     |none=>rfl
     |some x=>have hx:=hl1 x (bO (GK h).2);grind [goodAny,void,List.mem_of_mem_eraseIdx,EA]
 .intro s' h y hy;cases c1:decide (s.1.length<=1000) with
  |false=>grind
  |true=>
   rw[c1,ax] at h;cases c2:decide (ah l1=0) with
   |true=>grind
   |false=>simp only[c2,AQ] at h;cases c3:AH (X9 I' (row++e) l1 sen) (0,-1)<;>grind [aS,List.mem_of_mem_eraseIdx]
theorem Agr.sen:Mi I row=Mi I' (row++e):=by unfold Mi;rw[LX];have h1:=(JS (f:=OJ I) (h:=OJ I') (λ_=>True) (l:=row) (a:=[]) trivial (by grind [OJ,o])).1;rw[h1];generalize row.foldl (OJ I') []=u;refine(List.foldlRecOn (motive:=λb=>u=b) e _ rfl λb hb y hy=>?_);grind [OJ,kind]
theorem Agr.didx{l:A3}(hl:∀y∈l,y∈row){x:Ab}(hx:x∈e):NQ I' l x=Te I' l:=by unfold NQ Te;exact(JS (λ_=>True) trivial (by grind [RU,MT,up])).1
end
theorem Ae2{vs vs':A3}(a:(v++[x]).Nodup)(hl:v.length<=1000)(hs:∀y∈v++[x],1<=y.Seq)(e:vJ v=some vs)(e':vJ (v++[x])=some vs')(hx:x∉vs'):vs'=vs:=by
 obtain⟨u,a1,a2,a3⟩:=Se (ids:=v) aa (by grind) (by grind);obtain⟨b,b1,b2,b3⟩:=Se (ids:=v++[x]) cq a hs;obtain rfl:=Bo (e.symm.trans a1);obtain rfl:=Bo (e'.symm.trans b1);have hv:Uk (v++[x]) x=false:=by grind
 have hct:Ng (v++[x]) ⟨x.By,x.Seq⟩<2:=by grind [Uk]
 rw[LU,Bz rfl] at hct;have hun:∀y∈v,(⟨x.By,x.Seq⟩:Bf)≠⟨y.By,y.Seq⟩:=by grind [Ng]
 have hP:∀y,Uk (v++[x]) y=Uk v y:=λy=>by
  unfold Uk;rw[List.any_append,show[x].any (λz=>decide (z.By=y.By/\z.Seq<=y.Seq/\2<=Ng (v++[x]) ⟨z.By,z.Seq⟩))=false by grind [LU],Bool.or_false]
  refine Bool.eq_iff_iff.2 ?_;rw[List.any_eq_true,List.any_eq_true];have h:∀z∈v,Ng (v++[x]) ⟨z.By,z.Seq⟩=Ng v ⟨z.By,z.Seq⟩:=by grind [LU]
  grind
 refine OO NS.tr Y1 (b2.trans (List.Perm.trans ?_ a2.symm)) b3 a3;rw[Nj,show[x].filter (Uk (v++[x]))=[] by simp[hv],Md,show Uk (v++[x])=Uk v from funext hP]
section
variable {g:A7} {m:IX} {N:IH} (P:Pg g m N)
include P
theorem Aha{row':A3}(w1:DL g (v++[x]))(w2:(v++[x]).Nodup)(hl:v.length<=900)(hb:∀y∈v,(Bx g m N).bef y x=true)(e:n8 g v=some row)(e':n8 g (v++[x])=some row'):row'=row++[x]:=by obtain⟨u,a1,a2,a3⟩:=MH P.w P.p aa (List.nodup_append.1 w2).1 λy hy=>w1.sub y (by simp[hy]);obtain⟨a,b1,b2,b3⟩:=MH P.w P.p cq w2 w1.sub;obtain rfl:=Bo (e.symm.trans a1);obtain rfl:=Bo (e'.symm.trans b1);refine OO (Ut (Bx g m N)).tr Nv (by grind) b3 ?_;grind [UQ]
theorem Ahb(a:g.L.length<=14){o:Bi}(w1:DL g (v++[x]))(w2:(v++[x]).Nodup)(hb:∀y∈v,(Bx g m N).bef y x=true)(hx:g.IDs[k]?=some x)(ho:g.L[k]?=some o)(hk:Gq o.Kind=false)(hc:Xc o=none)(hw:R8 g (v++[x]) x=some 0):∃(R:Ad) (D:C7),zY g v=some D/\Rr R D/\Bh R/\Ja g 1000 D/\K4 R o=0:=by
 have nI:=P.w.nI;have v1:DL g v:=by grind [DL]
 have l:=(List.nodup_append.1 w2).1;have hxv:x∉v:=by grind
 have hvl:v.length<=14:=by have:=EC l v1.sub;omega
 obtain⟨p,e,u,e1,e2,hd,f,_⟩:=Ae0 P a w1 w2 hx ho aC;have hw:=Bo (f.symm.trans hw);obtain⟨row,vs,n,q,_,f1,_,b,_,hrm,hvm,hrn,hrl,_⟩:=Aaf P a (Ag2 P) v1 l;obtain⟨D,r,cs,d,s,t,B,C⟩:=Ak9 P (ids:=v) v1 n hrn aa hrm f1 b hvm;obtain rfl:=Aha P w1 w2 aa hb n e1;unfold Aba at hw;cases c1:decide (x∈e) with
 |true=>grind
 |false=>
 rw[c1,AQ] at hw;obtain rfl:=Ae2 w2 aa (λy hy=>by obtain⟨i,h1⟩:=He (w1.sub y hy);obtain⟨o,h2,_,E⟩:=P.w.op (i:=i) (by grind);rw[Ag2 P i o y h2 h1];exact(T1 E.numbers).seq.1) f1 e2 (Lq c1)
 have j:=(P.op ho hx).2;have hxr:x∉row:=by grind
 have A:Agr (Bx g m N) (Bx g m N) row [x]:=⟨λ_ _=>rfl,(by grind),rfl,rfl,(by grind),λy hy z hz=>by
  rw[List.mem_singleton.1 hy];have h:=hb z (q.mem_iff.1 hz);refine⟨h,?_⟩;cases c:(Bx g m N).bef x z with
  |false=>rfl
  |true=>exact absurd ((Ut (Bx g m N)).tr _ _ _ (UQ P h) (UQ P c)) (Nv z),(by grind)⟩
 unfold Aen at d;rw[show(Bx g m N).cards=g.Cards from rfl,A.dec (gg':=⟨g.Cards,m,N⟩),A.sen,hd] at d;have d:=Bo d;have hcr:∀y∈cs,y∈row:=λy hy=>s.subset hy;have hg:EA (Bx g m N) (wV (LC ⟨g.Cards,m,N⟩ (row++[x]) e) u)=Ha (Bx g m N) u cs x:=by rw[<-d];unfold EA;show(row++[x]).foldl _ _=_;rw[LX];rfl
 refine⟨Te (Bx g m N) cs,D,r,t,B,C,?_⟩;rw[hg] at hw;unfold Ha at hw;rw[A.didx hcr (by grind),j] at hw;have hno:(cs.any λy=>decide (x=y))=false:=by grind [List.any_eq_false]
 by_cases c:K4 (Te (Bx g m N) cs) o=0
 .exact c
 .rw[C5 c,AQ] at hw;rw[show(bif AB (u.get x)then cs else cs)=cs by simp_all,hno,AQ,A.didx hcr (by grind),C5 c,AQ] at hw;revert hw;cases cs.any λy=>DG (Bx g m N) y x<;>grind
end
theorem Ajg(hR:Bh R)(h:Rr R D){d:Int}(hd:O4 R d=true):d∈GR R:=by rw[(LT hR).2.1.mem_iff];grind [Rr,O4,Hf,GL]
section
variable {g:A7} {m:IX} {N:IH} (P:Pg g m N) (h14:g.L.length<=14)
def Abc(g:A7)(I:Gi)(x:Ab)(o:Bi)(k:Nat):Nat:=((g.IDs.take k).filter λy=>R7 (I.o y) o.By o.Epoch&&I.bef y x).length
include P h14
theorem Ahc{i:Nat}{x:Ab}{o:Bi}(hx:g.IDs[i]?=some x)(ho:g.L[i]?=some o)(h6:o.Kind=6)(ev:r9 g [x]=some v)(hq:KS g v=some (o.Epoch,true))(hw:R8 g (v++[x]) x=some 0):o.Epoch∈g.IDs/\o.By∈Sd g ((Bx g m N).o o.Epoch)/\DL g v/\v.length<=14/\ba prog fI 12 [.ptr (Ag ⟨g.Cards,m,N⟩) 0,aE aj v] (.tup [.agg (aj o.Epoch),bG true])/\Abc g (Bx g m N) x o g.IDs.length=JK (Bx g m N) v o.By o.Epoch:=by
 have W:=P.w;have nI:=W.nI;obtain⟨p,v',_,b,_,v1,a,j,k,E⟩:=Z2 P h14 hx;obtain rfl:=Bo (ev.symm.trans b);have w2:(v++[x]).Nodup:=by grind
 have w1:DL g (v++[x]):=by grind [DL]
 obtain⟨R,D,n,d,e,s,f⟩:=Ahb P h14 w1 w2 (by grind) hx ho (by rw[h6];rfl) (by grind [Xc]) hw;obtain⟨cs,R',D',q,_,t,_,_,_,C,u,_,A,F,H,I⟩:=AeS P h14 (AdL W) a v1;obtain rfl:=Bo (hq.symm.trans u);obtain⟨h,J⟩:=A rfl;have hin:o.Epoch∈g.IDs:=a.sub _ ((t _).1 (GV.1 (show o.Epoch∈OQ _ cs by rw[h];simp)).1).1;have hby:O4 R o.By=true:=by unfold K4 at f;rw[BU aa] at f;grind
 have hdv:=Ajg e d hby;obtain⟨a1,a2,a3⟩:=Ac0 P h14 (AdL W) hin;have hIn:lg D.In=some (GR R):=by have:=AgP (Ul P s aa).z d e;grind [lu]
 generalize Sd g ((Bx g m N).o o.Epoch)=dv at*;obtain⟨r,B,K,M⟩:=ZK (l:=dv) aa;unfold KS at hq;rw[C,h,aL,show decide (ah [o.Epoch]≠1)=false by simp[ah],AQ,n,aL,hIn,aL,show aS [o.Epoch] 0=some o.Epoch from rfl,aL,a1,aL,B,aL] at hq;have hdr:GR R=r:=by
  unfold Aa6 at hq;cases c:decide ((GR R).length<=1000/\r.length<=1000) with
  |false=>grind
  |true=>grind
 refine⟨hin,?_,a,k,(by grind),?_⟩
 .grind
 .unfold Abc JK;rw[DZ];refine((List.perm_ext_iff_of_nodup (W.nd.sublist List.filter_sublist) (by grind)).2 λy=>?_).length_eq;rw[GV,GV,j,bA];constructor
  .grind
  grind [DL.sub]
end
theorem Ae3(H:ba prog fI 20 [] (bG true))(hl:l.length<=9223372036854775807)(hi:∀x∈l,c8 x):ba prog fI 9 [aE cZ l] (bG true):=by
 obtain⟨r,m,N,er,P,h14,_,hgr,hC,hM⟩:=YF hl hi;have hM:=AdN er hM;have w:=P.w;have nI:=w.nI;have hkn:=AdL w;have D:=λ{k:Nat} {x:Ab} {o:Bi} (hx:r.IDs[k]?=some x) (ho:r.L[k]?=some o)=>Ae1 P h14 hx ho;have E:=λ{i:Nat} {x:Ab} {o:Bi} (hx:r.IDs[i]?=some x) (ho:r.L[i]?=some o) (h6:o.Kind=6) {v:A3} (ev:r9 r [x]=some v) (hq:KS r v=some (o.Epoch,true)) (hw:R8 r (v++[x]) x=some 0)=>Ahc P h14 hx ho h6 ev hq hw;have hdv:=λx (hx:x∈r.IDs)=>Ac0 P h14 hkn hx;have hbf:=(SM (PJ w P.p)).bef;have I:=λ{k:Nat} {x:Ab} {o:Bi} (hx:r.IDs[k]?=some x) (ho:r.L[k]?=some o)=>(P.op ho hx).2;have J:=λ{x y z:Ab}=>Ajc P (x:=x) (y:=y) (z:=z);have f:=λ{k:Nat} {x:Ab} (hx:r.IDs[k]?=some x)=>Z2 P h14 hx;simp only[Ag,RJ] at D E hdv hbf f;change∀x y:Ab,ba prog fI _ _ (bG ((Bx r m N).bef x y)) at hbf;refine Gh func9 ?_;refine pO 111100 (s0 137 fI [(3,Z8 r.Cards m N),(4,.ptr (aI r) 0)] [] 0 0) [tN 14 [] 0 [] [aE cZ l] [ob 0 105 [aE bv r.Cards,.mref 1,.rsl 2 0 N.length],(1,oM m),(2,zQ N)] hM trivial ⟨⟨rfl,.inl rfl⟩,⟨rfl,rfl,rfl,rfl,.inr ⟨rfl,cf _⟩⟩,⟨rfl,.inr ⟨rfl,az.imm _⟩⟩,trivial⟩] [hc (cf m),hc (az.al N),hc (eB (gs:=[aE bv r.Cards,gMp m,aE d7 N]) aH),hc (eB (gs:=aI r) aH)] ?_;refine Za (l:=r.L) aa (λi:Nat=>(s0 137 fI [(3,Z8 r.Cards m N),(4,.ptr (aI r) 0),(5,iG (i:Int))] [] 0 0)) 11110122 [] [] (λB i o j F k5=>?_) (λB=>?_)
 .have hlt:=(cr j).1;obtain⟨x,hx⟩:∃x,r.IDs[i]?=some x:=⟨_,Ef aa⟩;have c:=Bp hx;obtain⟨z,h1,_,h0⟩:=D hx j;by_cases hz0:z=0
  .subst hz0;obtain⟨h6,v,ev,K,hn,hw⟩:=h0 rfl;obtain⟨s1,s2,s3,s4,X,Y⟩:=E hx j h6 ev K hw;obtain⟨d1,Z,d3⟩:=hdv o.Epoch s1;have C:=Dq fI (cX (l:=Sd r ((Bx r m N).o o.Epoch)) aa o.By);rw[JB,CM s2] at C;have hbl:∀k,k<r.IDs.length->Abc r (Bx r m N) x o k<=k:=λk _=>LV (M0 ..) (by rw[LW];omega);refine Ix 1111012210211101 (s0 137 fI [(3,Z8 r.Cards m N),(4,.ptr (aI r) 0),(5,iG (i:Int)),(6,.ptr (aJ o) 0),(7,iG (JK (Bx r m N) v o.By o.Epoch:Int))] [] 0 0) ?_ λkj=>?_;rotate_left
   .refine Za (l:=r.L) aa (λk:Nat=>(s0 137 fI [(3,Z8 r.Cards m N),(4,.ptr (aI r) 0),(5,iG (i:Int)),(6,.ptr (aJ o) 0),(7,iG (Abc r (Bx r m N) x o k:Int)),(8,iG (k:Int))] [] 0 0)) 111101221021110122 [hr 23 (C3 j),Az 30 (ac.ixZ c),Az 31 (ac.ptZ aW c),hf 32 h1,Az 37 (eJ.ixZ F),Az 38 (eJ.ptZ GN F)] [hc (eB (gs:=aJ o) aH)] (λB' k b hb d a=>?_) (λB'=>?_)
    .have hk:=(cr hb).1;obtain⟨y,hy⟩:∃y,r.IDs[k]?=some y:=⟨_,Ef aa⟩;have e:=Bp hy;have hob:=I hy hb;have hle:=hbl k aa;have A:=hbf y x;rw[show Abc r (Bx r m N) x o (k+1)=Abc r (Bx r m N) x o k+(bif R7 b o.By o.Epoch&&(Bx r m N).bef y x then 1 else 0) by
      unfold Abc;rw[Hr,hy,Option.toList_some,Nj,Sv];cases h:(R7 b o.By o.Epoch&&(Bx r m N).bef y x) with
      |true=>rw[List.filter_cons_of_pos (by rw[hob];exact h)];rfl
      |false=>rw[List.filter_cons_of_neg (by rw[hob,h];simp)];rfl] at a
     have hmsg:R7 b o.By o.Epoch=(bif b.Kind=6 then bif b.By=o.By then decide (b.Epoch=o.Epoch)else false else false):=rfl;generalize hn':Abc r (Bx r m N) x o k=n at hle a⊢;by_cases c1:b.Kind=6
     .have c1':decide (b.Kind≠6)=false:=by simp[c1]
      rw[CM c1,ax] at hmsg;by_cases c2:b.By=o.By
      .have c2':decide (b.By≠o.By)=false:=by simp[c2]
       rw[CM c2,ax] at hmsg;by_cases c3:b.Epoch=o.Epoch
       .have c3':decide (b.Epoch≠o.Epoch)=false:=by simp[c3]
        rw[CM c3] at hmsg;cases c4:(Bx r m N).bef y x with
        |false=>rw[c4] at A;rw[hmsg,c4] at a;exact jw [hr 43 (C3 hb),Az 49 (eJ.ixZ d),Az 50 (eJ.ptZ GN d),hr 53 c1',hr 59 c2',hV 66 (dy b.Epoch o.Epoch (r:=false) (by simp[c3])),Az 73 (ac.ixZ e),Az 74 (ac.ptZ aW e),Az 78 (ac.ixZ c),Az 79 (ac.ptZ aW c),hf 80 A,hbb 45 (Xl (q:=k) aa)] [] a []
        |true=>
         rw[c4] at A;rw[hmsg,c4] at a;obtain⟨W,g1,_,g0⟩:=D hy hb;by_cases hz':W=0
         .subst hz';obtain⟨_,v',S,hq',M,hw'⟩:=g0 rfl;have hlt2:b.N<o.N:=by
           obtain⟨_,u,_,eu,_,u1,_,V,_,u5⟩:=f hx;obtain⟨_,u',_,U,_,O,_,Q,_,R⟩:=f hy;obtain rfl:=Bo (ev.symm.trans eu);obtain rfl:=Bo (S.symm.trans U);rw[<-hn,<-M,c2,c3];have hsub:∀t∈y::v'.filter (λt=>R7 ((Bx r m N).o t) o.By o.Epoch),t∈v.filter (λt=>R7 ((Bx r m N).o t) o.By o.Epoch):=λt ht=>by
            rcases EH.1 ht with rfl|ht
            .exact GV.2 ⟨(V t).2 c4,by rw[hob];exact hmsg⟩
            .obtain⟨t1,t2⟩:=GV.1 ht;exact GV.2 ⟨(V t).2 (J ((Q t).1 t1) c4),t2⟩
           have:=EC (LE.2 ⟨λh=>R (GV.1 h).1,O.sublist List.filter_sublist⟩) hsub;unfold JK;simp at this;omega
          exact jw [hr 43 (C3 hb),Az 49 (eJ.ixZ d),Az 50 (eJ.ptZ GN d),hr 53 c1',hr 59 c2',hV 66 (dy b.Epoch o.Epoch (r:=false) (by simp[c3])),Az 73 (ac.ixZ e),Az 74 (ac.ptZ aW e),Az 78 (ac.ixZ c),Az 79 (ac.ptZ aW c),hf 80 A,hbb 84 (Xl (q:=n) aa),Az 89 (ac.ixZ e),Az 90 (ac.ptZ aW e),hf 91 g1,hr 98 (show decide (o.N<=b.N)=false from C5 aa),hbb 45 (Xl (q:=k) aa)] [] a []
         .exact jw [hr 43 (C3 hb),Az 49 (eJ.ixZ d),Az 50 (eJ.ptZ GN d),hr 53 c1',hr 59 c2',hV 66 (dy b.Epoch o.Epoch (r:=false) (by simp[c3])),Az 73 (ac.ixZ e),Az 74 (ac.ptZ aW e),Az 78 (ac.ixZ c),Az 79 (ac.ptZ aW c),hf 80 A,hbb 84 (Xl (q:=n) aa),Az 89 (ac.ixZ e),Az 90 (ac.ptZ aW e),hf 91 g1,hr 92 (show decide (W=0)=false from C5 hz'),hbb 45 (Xl (q:=k) aa)] [] a []
       .rw[hmsg,C5 c3] at a;exact jw [hr 43 (C3 hb),Az 49 (eJ.ixZ d),Az 50 (eJ.ptZ GN d),hr 53 c1',hr 59 c2',hV 66 (dy b.Epoch o.Epoch (r:=true) (by simp[c3])),hbb 45 (Xl (q:=k) aa)] [] a []
      .rw[hmsg,C5 c2] at a;exact jw [hr 43 (C3 hb),Az 49 (eJ.ixZ d),Az 50 (eJ.ptZ GN d),hr 53 c1',hr 59 (show decide (b.By≠o.By)=true from CM c2),hbb 45 (Xl (q:=k) aa)] [] a []
     .rw[hmsg,C5 c1] at a;exact jw [hr 43 (C3 hb),Az 49 (eJ.ixZ d),Az 50 (eJ.ptZ GN d),hr 53 (show decide (b.Kind≠6)=true from CM c1),hbb 45 (Xl (q:=k) aa)] [] a []
    .rw[<-nI,Y];exact yl 1111012210211101 [hr 43 (show decide ((r.IDs.length:Int)<ah r.L)=false from C5 (by unfold ah;omega))] [] kj
   .have hP:=AP fI ev;exact jw [Az 106 (ac.ixZ c),Az 107 (ac.ptZ aW c),ho 109 [.agg (aI r),aE aj [x]] [hc (ac.al [x])] hP (kF v),hq 110 [Z8 r.Cards m N,aE aj v] [hc (ac.al v)] X,hr 116 (show decide ((JK (Bx r m N) v o.By o.Epoch:Int)≠o.N)=false by simp[hn]),hV 125 (dy o.Epoch o.Epoch (r:=false) aC),hf 130 (rZ.fo Z),hf 133 C,hbb 25 (Xl (q:=i) aa)] [] k5 []
  .exact jw [hr 23 (C3 j),Az 30 (ac.ixZ c),Az 31 (ac.ptZ aW c),hf 32 h1,hr 33 (show decide (z≠0)=true from CM hz0),hbb 25 (Xl (q:=i) aa)] [] k5 []
 .exact Ar [hr 23 (D4 (s:=r.L)),hf 136 H] []
section
variable {P:Br} [M:Mix P] {st:St} {Q:Exit->St->Prop} {fn:Func} {Bs:List (St->Prop)} {p:Bq}
end
def Aiu:Bool:=match N8 [] 14 with
 |none=>false
 |some r=>match r.IDs with
  |[]=>false
  |x::_=>decide (KS r [x]=some (x,true))&&(decide (KS r []=some (⟨0,0,0⟩,false))&&decide (LK r x=some [1]))
theorem AeX:Aiu=true:=aH
theorem Acc:ba prog fI 20 [] (bG true):=by
 obtain⟨r,m,N,e,P,a,ne,hgr,hC,hM⟩:=YF (l:=[]) aC aC;have hM:=Acb e hM;have w:=P.w;have nI:=w.nI;have hkn:=AdL w;have hB:=AeX;unfold Aiu at hB;rw[e] at hB;dsimp only at hB;obtain⟨x,rest,hx⟩:∃x t,r.IDs=x::t:=by
  cases h:r.IDs with
  |nil=>rw[h] at nI;exact absurd (List.length_eq_zero_iff.1 nI.symm) ne
  |cons x t=>exact⟨x,t,rfl⟩
 rw[hx] at hB;dsimp only at hB;simp only[bA,decide_eq_true_eq] at hB;obtain⟨b1,b2,b3⟩:=hB;have hxm:x∈r.IDs:=by rw[hx];simp
 obtain⟨cs,R,D,q,_,_,_,_,_,_,f,_,_,_,_,g⟩:=AeS P a hkn (v:=[x]) ⟨by simpa using hxm,aC⟩ aC;obtain rfl:=Bo (b1.symm.trans f);have n1:=(g [x] (.refl _)).2.2.2;obtain⟨j,R',D',k,_,_,_,_,_,_,c,_,_,_,_,d⟩:=AeS P a hkn (v:=[]) ⟨aC,aC⟩ aC;obtain rfl:=Bo (b2.symm.trans c);have n2:=UY [.ptr (Ag ⟨r.Cards,m,N⟩) 0,Iy] (d [] (.refl _)).2.2.2;obtain⟨i,b,_⟩:=Ac0 P a hkn hxm;obtain hd:=Bo (b3.symm.trans i);rw[<-hd] at b;have b:=rZ.fo b;have hz:aS r.IDs 0=some x:=by rw[hx];rfl
 simp only[Ag,RJ] at n1 n2 b;refine Gh func20 ?_;refine pO 11100 (s0 56 fI [(1,Z8 r.Cards m N),(2,.ptr (aI r) 0)] [] 0 0) [tN 9 [] 0 [] [Iy] [ob 0 105 [aE bv r.Cards,.mref 1,.rsl 2 0 N.length],(1,oM m),(2,zQ N)] hM trivial ⟨⟨rfl,.inl rfl⟩,⟨rfl,rfl,rfl,rfl,.inr ⟨rfl,cf _⟩⟩,⟨rfl,.inr ⟨rfl,az.imm _⟩⟩,trivial⟩] [hc (cf m),hc (az.al N),hc (eB (gs:=[aE bv r.Cards,gMp m,aE d7 N]) aH),hc (eB (gs:=aI r) aH)] ?_;refine pO 111110 (s0 56 fI [(1,Z8 r.Cards m N),(2,.ptr (aI r) 0),(3,aE aj [x])] [] 0 0) [hr 18 (show decide ((r.IDs.length:Int)=0)=false by rw[hx];exact C5 cq),Az 22 (ac.ixZ hz),Az 23 (ac.ptZ aW hz)] [hc (ac.al [x])] ?_;refine pO 1111110 (s0 56 fI [(1,Z8 r.Cards m N),(2,.ptr (aI r) 0),(4,.ptr (aj x) 0),(5,bG true)] [] 0 0) [hf 28 n1] [hc (eB (gs:=aj x) aH)] ?_;refine pO 11111110 (s0 56 fI [(1,Z8 r.Cards m N),(2,.ptr (aI r) 0),(4,.ptr (aj x) 0),(5,bG true),(7,bG false)] [] 0 0) [hf 33 n2] [] ?_;exact Ar [Az 41 (ac.ixZ hz),Az 42 (ac.ptZ aW hz),hV 43 (dU (r:=true) x x aC),hf 52 b,hq 54 [aE cZ [1],aE cZ [1]] [hc (rZ.al [1])] (Ahv (gl:=fI) (l:=[1]) B5)] []
abbrev Ur:List (String×DataW Unit):=[("huddle/roll.asks",Rows.laid_huddle_roll_asks),("huddle/op.kinds",Rows.laid_huddle_op_kinds)]
theorem Y8:Tryz.prog.globalNamed "huddle/roll.asks" =some 1:=aH
theorem WB:Tryz.prog.globalNamed "huddle/op.kinds" =some 0:=aH
theorem Y9:(Tryz.prog.globals[1]?).map (·.type)=some 269:=aH
theorem WC:(Tryz.prog.globals[0]?).map (·.type)=some 213:=aH
theorem AdW{l:List α}{i:Nat}{v:α}(h:l[i]?=some v):(l.drop (i*1)).take 1=[v]:=by rw[Nat.mul_one];obtain⟨hi,rfl⟩:=cr h;rw[List.drop_eq_getElem_cons hi];rfl
theorem IL{P:Program}{sp:Nat->Bool}{fuel:Nat}{ps rs:Array TypeId}{va:Bool}{v:Value}{q:List MemPlace}(ht:P.underlying t=some (.func ps rs va))
  (h:DataW.trod (funcToken P) P w base sp true fuel t [v]=some (.nil,q)):v= .nilFunc:=by
 cases fuel with
 |zero=>simp[DataW.trod] at h
 |succ n=>cases v<;>simp[DataW.trod,ht] at h;rfl
theorem zo{H:Type}{enc:TypeId×Value->H}{P:Program}{sp:Nat->Bool}{a:Bool}{fuel n:Nat}{e:TypeId}{cs:Array Value}{ds:List (DataW H)}{p:List MemPlace}{nm:String}{g:Nat}(ht:P.underlying t=some (.array n e))(hc:P.cellsOf e=1)(hn:P.cellsOf t=n)
  (hg:P.globalNamed nm=some g) (hv:w.var? P nm=some cs) (h:DataW.trod enc P w base sp a fuel t cs.toList=some (.agg ds,p)):∀i,i<n->∃v d m q,w.cell? ⟨g,i,none⟩=some v/\ds[i]?=some d/\DataW.trod enc P w base sp a m e [v]=some (d,q):=by
 obtain⟨xs,m,_,hx,hl,hlen,b⟩:=DataW.trod_array ht h
 simp only[Fu,DataW.agg.injEq] at hx
 intro i hi
 have hsz:cs.size=n:=by rw[<-hn,<-hl];simp
 have hcell:=World.var?_cell hg hv i
 have hci:cs[i]?=some (cs[i]'aa):=Array.getElem?_eq_getElem aa
 have hli:cs.toList[i]?=some (cs[i]'aa):=by rw[Array.getElem?_toList];exact hci
 have:=b i hi
 rw[hc,AdW hli] at this
 have hxi:xs[i]?=some (xs[i]'aa):=Ef aa
 rw[hxi] at this
 refine⟨_,(xs[i]'aa).1,m,(xs[i]'aa).2,hcell.trans hci,?_,this⟩
 rw[hx.1,Nl,hxi]
 rfl
theorem ML{g i:Nat}{v:Value}(h:W.cell? ⟨g,i,none⟩=some v):g<W.heap.size:=by
 rcases HU g W.heap.size with h'|h'
 .exact h'
 .unfold World.cell? at h;simp[Array.getElem?_eq_none h'] at h
def IM:G->Value
 | .lit v=>v
 | .clo fn _ _=> .func fn #[] #[]
 |_=> .nilFunc
theorem WD{S:Nat->Prop}{g:G}(h:(∃v,g= .lit v)\/∃n,g= .clo (.func n) [] []):IV S W g (IM g):=by
 rcases h with⟨v,rfl⟩|⟨n,rfl⟩
 .exact .lit v
 .exact .clo _ [] [] #[] #[] rfl rfl aC aC
theorem MM{g:Nat}{l:List G}(h0:g<W.heap.size)(hc:∀i x,l[i]?=some x->W.cell? ⟨g,i,none⟩=some (IM x))(hg:∀x∈l,((∃k z,x= .lit (.int k z))\/x= .lit .nilFunc)\/∃n,x= .clo (.func n) [] []):IV (λ_=>False) W (.ptr l 0) (.pointer (some ⟨g,0,none⟩)):=by
 have e:(⟨g,0,none⟩:Addr)=⟨g,0+0,none⟩:=rfl;refine .ptr l 0 g 0 (λi=>IM (l.getD i .junk)) (λh=>h) h0 (λi hi=>?_) (λi hi=>?_) (λi x hx=>?_)
 .rw[Nat.zero_add];refine hc i _ ?_;rw[List.getD_eq_getElem?_getD,Ef hi];rfl
 .have hx:l[i]?=some (l[i]'hi):=Ef hi;rw[List.getD_eq_getElem?_getD,hx];rcases hg _ (bO hx) with(⟨k,z,h⟩|h)|⟨n,h⟩<;>(simp only[M1];rw[h];rfl)
 .rw[List.getD_eq_getElem?_getD,hx];simp only[M1];refine WD ?_;rcases hg _ (bO hx) with(⟨k,z,h⟩|h)|⟨n,h⟩
  .exact .inl ⟨_,h⟩
  .exact .inl ⟨_,h⟩
  .exact .inr ⟨n,h⟩
theorem Ov(h:laidMetH Tryz.prog Ur W):IV (λ_=>False) W (.ptr (nG.flatMap cZ) 0) (.pointer (some ⟨0,0,none⟩)):=by
 have hm:laidMet Tryz.prog [("huddle/op.kinds",Rows.laid_huddle_op_kinds)] W:=h.1;obtain⟨ps,⟨g1,e,c,f1,f,q1,a,b,hv1,hd1,_,_⟩,_,_⟩:=hm;obtain rfl:=Bo (WB.symm.trans a);obtain rfl:=Bo (WC.symm.trans b);have hcells:=zo (n:=14) Tryz.underlying213 aH aH a hv1 hd1;have key:∀i x,(nG.flatMap cZ)[i]?=some x->W.cell? ⟨0,i,none⟩=some (IM x):=by
  intro i x hx;have hi:i<14:=(cr hx).1;obtain⟨v,d,m,q,hc,hd,hr⟩:=hcells i hi;obtain⟨k,e1,e2,_⟩:=DataW.trod_int Tryz.underlying3 hr;simp only[Fu] at e2;rw[hc];simp only[List.cons.injEq,and_true] at e1;rw[e1];rw[e2.1] at hd;match i,hi with
  |0,_|1,_|2,_|3,_|4,_|5,_|6,_|7,_|8,_|9,_|10,_|11,_|12,_|13,_=>cases hd;cases hx;rfl
 refine MM (ML (key 0 _ rfl)) key λx hx=> .inl (.inl ?_);obtain⟨z,_,hz⟩:=List.mem_flatMap.1 hx;cases List.mem_singleton.1 hz;exact⟨_,_,rfl⟩
noncomputable abbrev fby(l:List UInt8):List Nat:=(List.range Tryz.prog.funcs.size).filter λf=>(Tryz.prog.funcs[f]?).any (·.name.toUTF8.data.toList==l)
theorem aaJ:fby [104,117,100,100,108,101,47,114,111,108,108,46,97,115,107,115,36,49]=[411]:=aH
theorem aaK:fby [104,117,100,100,108,101,47,114,111,108,108,46,97,115,107,115,36,50]=[413]:=aH
theorem aaL:fby [104,117,100,100,108,101,47,114,111,108,108,46,97,115,107,115,36,51]=[414]:=aH
theorem aaM:fby [104,117,100,100,108,101,47,114,111,108,108,46,97,115,107,115,36,52]=[415]:=aH
theorem aaN:fby [104,117,100,100,108,101,47,114,111,108,108,46,97,115,107,115,36,53]=[416]:=aH
theorem aaO:fby [104,117,100,100,108,101,47,114,111,108,108,46,97,115,107,115,36,54]=[417]:=aH
theorem aaP:fby [40,42,104,117,100,100,108,101,47,114,111,108,108,46,82,111,108,108,41,46,111,119,110]=[419]:=aH
theorem aaQ:fby [104,117,100,100,108,101,47,114,111,108,108,46,97,115,107,115,36,55]=[420]:=aH
theorem aaR:fby [104,117,100,100,108,101,47,114,111,108,108,46,97,115,107,115,36,56]=[421]:=aH
theorem Rc(h:laidMetH Tryz.prog Ur W):IV (λ_=>False) W (.ptr IU 0) (.pointer (some ⟨1,0,none⟩)):=by
 obtain⟨g,t,cs,fuel,p,hg,ht,hv,a⟩:=h.funcs (List.mem_cons_self ..);obtain rfl:=Bo (Y8.symm.trans hg);obtain rfl:=Bo (Y9.symm.trans ht);have hd1:DataW.trod (funcToken Tryz.prog) Tryz.prog W 0 (λ_=>true) true fuel 269 cs.toList=some (.agg [.nil,.nil,.held [104,117,100,100,108,101,47,114,111,108,108,46,97,115,107,115,36,49],.held [104,117,100,100,108,101,47,114,111,108,108,46,97,115,107,115,36,50],.nil,.held [104,117,100,100,108,101,47,114,111,108,108,46,97,115,107,115,36,51],.held [104,117,100,100,108,101,47,114,111,108,108,46,97,115,107,115,36,52],.nil,.held [104,117,100,100,108,101,47,114,111,108,108,46,97,115,107,115,36,53],.held [104,117,100,100,108,101,47,114,111,108,108,46,97,115,107,115,36,54],.held [40,42,104,117,100,100,108,101,47,114,111,108,108,46,82,111,108,108,41,46,111,119,110],.held [104,117,100,100,108,101,47,114,111,108,108,46,97,115,107,115,36,55],.held [40,42,104,117,100,100,108,101,47,114,111,108,108,46,82,111,108,108,41,46,111,119,110],.held [104,117,100,100,108,101,47,114,111,108,108,46,97,115,107,115,36,56]],p):=a;have hcells:=zo (n:=14) Tryz.underlying269 aH aH hg hv hd1;have key:∀i x,IU[i]?=some x->W.cell? ⟨1,i,none⟩=some (IM x):=by
  intro i x hx;have hi:i<14:=(cr hx).1;obtain⟨v,d,m,q,hc,hd,hr⟩:=hcells i hi;match i,hi with
  |0,_|1,_|2,_|3,_|4,_|5,_|6,_|7,_|8,_|9,_|10,_|11,_|12,_|13,_=>
   cases hd;cases hx;rw[hc];first
    |(rw[IL Tryz.underlying268 hr];rfl)
    |(rw[func_of_trod (f0:=411) Tryz.underlying268 aaJ hr];rfl)
    |(rw[func_of_trod (f0:=413) Tryz.underlying268 aaK hr];rfl)
    |(rw[func_of_trod (f0:=414) Tryz.underlying268 aaL hr];rfl)
    |(rw[func_of_trod (f0:=415) Tryz.underlying268 aaM hr];rfl)
    |(rw[func_of_trod (f0:=416) Tryz.underlying268 aaN hr];rfl)
    |(rw[func_of_trod (f0:=417) Tryz.underlying268 aaO hr];rfl)
    |(rw[func_of_trod (f0:=419) Tryz.underlying268 aaP hr];rfl)
    |(rw[func_of_trod (f0:=420) Tryz.underlying268 aaQ hr];rfl)
    |(rw[func_of_trod (f0:=421) Tryz.underlying268 aaR hr];rfl)
 refine MM (ML (key 0 _ rfl)) key λx hx=>?_;simp only[IU,EH,Lu,or_false] at hx;rcases hx with rfl|rfl|rfl|rfl|rfl|rfl|rfl|rfl|rfl|rfl|rfl|rfl|rfl|rfl<;>first|exact .inl (.inr rfl)|exact .inr ⟨_,rfl⟩
theorem TK(h:laidMetH Tryz.prog Ur W):Gls fI (λ_=>False) W:=by
 intro g l hl;simp only[fI,List.lookup_cons] at hl;split at hl
 .rename_i e;cases hl;obtain rfl:=eq_of_beq e;exact Ov h
 .split at hl
  .rename_i e;cases hl;obtain rfl:=eq_of_beq e;exact Rc h
  .cases hl
end Go.Proofs.YtlijnaneopediaaGreatDoor
