/- Texts. -/
import Derived.Test.YtlimmeehdfbheaaGreatDoorZM
namespace Go.Proofs.YtlimmeehdfbheaaGreatDoor
set_option linter.unusedSectionVars false
set_option linter.unusedVariables false
set_option linter.unusedSimpArgs false
open Go.RowKit Tryz
attribute [local irreducible] Tr dz Gp
variable (gl:CC)
variable {α:Type}{R:Ad}{D V:List Bool}{j k n p:Nat}{l u:Bj}{dl:Ke}{al:Be}{x y:Ab}{o:Bi}{d:Int}{cs:LP}{ids r row v vs:AH}{a:AH×FM Ab Bool}{fi:FuncId}{fa fc:Bo}{N:Hl}{gg:Aj}{I:Gi}{g:AB}
def Gs(R:Ad)(S:AH):Prop:=∀q z g,R.members.get q=some z->z.guard=some g->g.id∈S
section
variable {R:Ad} {S:AH}
theorem Gs.up(h:Gs R S)(i:Ab):Gs R (S++[i]):=λq z g h1 h2=>by simp[h q z g h1 h2]
theorem Vb(h:Gs R S){M:FM Int Az}{k:Int}{x:Az}(hM:∀q,M.get q=if q=k then some x else R.members.get q)(hx:∀g,x.guard=some g->g.id∈S){Q:Ad}(hQ:Q.members=M):Gs Q S:=λq z g h1 h2=>by
 rw[hQ,hM] at h1;split at h1
 .cases h1;exact hx g h2
 .exact h q z g h1 h2
theorem Vc(h:Gs R S)(d role:Int):Gs (Jk R d role) S:=by
 unfold Jk;cases DZ R d with
 |false=>exact h
 |true=>
  cases hm:(R.members.get (Dq R d)).isSome with
  |true=>exact λq z g h1 h2=>h q z g (by grind) h2
  |false=>exact Vb h (M:=C4 R.members (Dq R d) ⟨role,none⟩) (λq=>BA _ q) (λg hg=>by cases hg) (by rw[ax];simp[hm])
theorem ZQ(h:Gs R S)(hR:Bf R)(d:Int):Gs (Hg R d) S:=by
 unfold Hg;cases Pl R d with
 |false=>exact h
 |true=>
  cases MJ (I6 R d) (Dq R d) with
  |true=>exact h
  |false=>
   intro q z g h1 h2;have h1:(Sc R.members (Dq R d)).get q=some z:=h1;rw[N5 hR.cm] at h1;split at h1
   .cases h1
   .exact h q z g h1 h2
theorem Ajr(h:Gs R S)(hR:Bf R)(m:Int):∀l:Bj,Gs (l.foldl (Td m) R) S:=λl=>by induction l generalizing R<;>grind [Adv,Td,ZQ]
theorem AiL(h:Gs R S)(hR:Bf R)(o:Bi)(i:Ab):Gs (Sd R o i) (S++[i]):=by
 unfold Sd;split
 .unfold Aby;cases decide ((R.was.es.length:Int)=0)&&DZ R o.By with
  |false=>exact h.up i
  |true=>exact(Vc h o.By 3).up i
 split
 .exact(Vc h _ _).up i
 split
 .split
  .exact(Ajr h hR _ _).up i
  .exact(ZQ h hR _).up i
 split
 .refine Gs.up ?_ i;unfold Uu;split
  .exact h
  .rename_i x hx;exact Vb h (x:=⟨o.Role,x.guard⟩) (λq=>BA _ q) (λg hg=>h _ x g hx hg) rfl
 split
 .unfold Aao;split
  .exact h.up i
  .exact Vb (h.up i) (λq=>BA _ q) (by grind) rfl
 split
 .refine Gs.up ?_ i;unfold XW;split
  .rename_i k role g n hf;have hx:=(hR.mem (List.mem_of_find?_eq_some hf)).1;cases(g.guards.any λy=>decide (o.By=y))&&Aan g o with
   |false=>exact h
   |true=>exact Vb h (λq=>BA _ q) (λa hg=>by cases hg;exact h _ _ g hx rfl) rfl
  .exact h
 split
 .refine Gs.up ?_ i;unfold UG;split
  .rename_i role g hx;cases decide (g.id=o.Of) with
   |false=>exact h
   |true=>exact Vb h (λq=>BA _ q) (λa hg=>by cases hg;exact h _ _ g hx rfl) rfl
  .exact h
 grind [Gs.up,XX,ZQ,Vc,HB]
end
structure Pg (g:AB) (m:Hj) (N:Hl):Prop where
 w:Fv g
 p:ON g m N
 od:∀(i:Nat) (o:Bi) (x:Ab),g.L[i]?=some o->g.IDs[i]?=some x->TB o x
 dv:∀(i:Nat) (o:Bi) (x:Ab),g.L[i]?=some o->g.IDs[i]?=some x->∃c∈g.Cards,c.Device=o.By
 cd:Aeh g.Cards
 cn:(g.Cards.map (·.Device)).Nodup
section
variable {g:AB} {m:Hj} {N:Hl} (P:Pg g m N)
include P
theorem Pg.op{i:Nat}{o:Bi}{x:Ab}(ho:g.L[i]?=some o)(hx:g.IDs[i]?=some x):(BW g m N).op x=some o/\(BW g m N).o x=o:=by
 have e:(BW g m N).op x=some o:=by rw[Aja P.w P.p,KE P.w hx];exact ho
 grind [Gi.o]
theorem Pg.bef{i k:Nat}{x y:Ab}(hx:g.IDs[i]?=some x)(hy:g.IDs[k]?=some y):(BW g m N).bef x y=O9 g k i:=by rw[AcI P.w P.p,KE P.w hx,KE P.w hy]
theorem Pg.new(d:Int):Dq (Ha g.Cards) d=XJ g.Cards d:=by
 have key:∀(l:LP) (M:FM Int DF),(l.map (·.Device)).Nodup->(∀c∈l,M.get c.Device=none)->(l.foldl (λm c=>C4 m c.Device c) M).get d=match l.find? λc=>decide (c.Device=d) with|some c=>some c|none=>M.get d:=by
  intro l;induction l with
  |nil=>exact λM _ _=>rfl
  |cons c r ih=>grind [BA]
 unfold Dq XJ Ha Akj;rw[key g.Cards ⟨[],0⟩ P.cn λc _=>rfl];cases g.Cards.find? λc=>decide (c.Device=d)<;>rfl
theorem Vm{D:C7}(h:RkS g n D)(hn:n<=1000)(r:Rr R D)(q:Bf R):Sy D:=AcP r q (h.cards▸P.w.nC) (M1 h.nV aa)
theorem Anq(hi:EF g l)(hl:l.length<=1000)(hnd:(Jd g l).Nodup){id:Ab}(hk:g.IDs[k]?=some id):T (Fg g l (k:Int)) λD=>Rr (Tk (BW g m N) (Jd g l) id) D/\Bf (Tk (BW g m N) (Jd g l) id)/\RkS g 1000 D:=by
 have w:=P.w;have nL:=w.nL;have nI:=w.nI;have hkl:k<g.L.length:=by grind
 obtain⟨d,e0,f⟩:=Alv (P.new);unfold Fg;rw[e0,aL];have hD0:d=⟨g.Cards,[],[],[],0,[]⟩:=(Bh e0).symm;subst hD0;refine .bind (T.mono (Q:=λD=>Rr (Tk (BW g m N) (Jd g l) id) D/\Bf (Tk (BW g m N) (Jd g l) id)/\RkS g 1000 D) (T.forA l.length (λj D=>(Rr (((Jd g l).take j).foldl (Sg (BW g m N) id) (Ha g.Cards)) D/\Bf (((Jd g l).take j).foldl (Sg (BW g m N) id) (Ha g.Cards))/\Gs (((Jd g l).take j).foldl (Sg (BW g m N) id) (Ha g.Cards)) ((Jd g l).take j))/\RkS g j D) aa ⟨⟨f,K4 P.cd.r,λq z g h=>by cases h⟩,Mv g⟩ (λj D hj hr=>?_) λD hr=>?_) λD hr=> .some hr)
 .obtain⟨y,hy,hm⟩:=dk hj;obtain⟨i,x,rfl,hil,hx,a⟩:=Pr w hi hy;obtain⟨o,ho,so,p⟩:=w.op hil;obtain⟨row,b,hrow,hb⟩:=w.cell hkl hil;obtain⟨⟨h1,h2,h3⟩,h4⟩:=hr;have hod:=P.od i o x ho hx;have c:=(P.op ho hx).2;have hbf:(BW g m N).bef x id=b:=by rw[P.bef hx hk];grind [O9]
  have et:((Jd g l).take (j+1)).foldl (Sg (BW g m N) id) (Ha g.Cards)=bif b then Sd (((Jd g l).take j).foldl (Sg (BW g m N) id) (Ha g.Cards)) o x else((Jd g l).take j).foldl (Sg (BW g m N) id) (Ha g.Cards):=by rw[Rb a,LF,List.foldl_cons,List.foldl_nil];unfold Sg;rw[hbf,c]
  have hxS:x∉(Jd g l).take j:=by grind [EO,JX]
  rw[et,Rb a];generalize ((Jd g l).take j).foldl (Sg (BW g m N) id) (Ha g.Cards)=R at h1 h2 h3⊢;unfold xx;simp only[eA hj,ax,au,hy,ho,hx,hrow,hb,aL];have z:=Vm P h4 aa h1 h2;cases b with
  |true=>exact .bind ((doE z h1 h2 λ_ q z n k1 k2 e=>by have:=h3 q z n k1 k2;rw[e] at this;exact hxS this).mono λv hv=> .some (by constructor<;>grind [aq,PR,AiL,RkS,Gv]))
  |false=>exact .some (by constructor<;>grind [aq,Gs.up,RkS.up])
 .unfold xx;dsimp only;rw[eF,A9];have hl2:(Jd g l).length=l.length:=Hm ..;rw[<-hl2,D5] at hr;exact .some ⟨hr.1.1,hr.1.2.1,hr.2.up aa⟩
end
structure Lr (g:AB) (dl:Ke) (al:Be):Prop where
 row:EF g dl.Row
 nm:Jd g dl.Row=al.row
 nd:al.row.Nodup
 nr:dl.Row.length<=1000
 nv:dl.Void.length=g.L.length
 nc:dl.Decided.length=g.L.length
 fk:∀(p:Nat) (x:Ab),g.IDs[p]?=some x->dl.Fork[p]?=some (A7 (al.fork.get x))
 vd:∀(p:Nat) (x:Ab),g.IDs[p]?=some x->dl.Void[p]?=some (A7 (al.void.get x))
section
variable {g:AB} {m:Hj} {N:Hl} (P:Pg g m N)
include P
theorem AiM(h:Lr g dl al):T (Sr g dl) λr=>EF g r/\r.length<=1000/\Jd g r=Jt (BW g m N) al/\(Jd g r).Sublist al.row:=by
 have w:=P.w;have nL:=w.nL;have hr:=h.nr;unfold Sr Jt;refine .bind (T.mono (Q:=λr=>EF g r/\r.length<=1000/\Jd g r=al.row.foldl (Hh (BW g m N) al.void) []/\(Jd g r).Sublist al.row) (T.forA dl.Row.length (λj r=>EF g r/\r.length<=j/\Jd g r=(al.row.take j).foldl (Hh (BW g m N) al.void) []/\(Jd g r).Sublist (al.row.take j)) aa ⟨.nil,aC,by simp[Jd],by simp[Jd]⟩ (λk acc hk hj=>?_) λr a=>?_) λr a=> .some a)
 .obtain⟨y,hy,hm⟩:=dk hk;obtain⟨i,x,rfl,hil,hx,b⟩:=Pr w h.row hy;rw[h.nm] at b;obtain⟨o,ho,so,q⟩:=w.op hil;obtain⟨l,p,n,d⟩:=hj;have f:=(P.op ho hx).2;have hod:=P.od i o x ho hx;have hv:=h.vd i x hx;have hnd:(Jd g acc).Nodup:=(h.nd.sublist (List.take_sublist k _)).sublist d;rw[Rb b,LF,List.foldl_cons,List.foldl_nil,<-n];unfold um;simp only[eA hk,ax,au,hy,ho,hx,hv,aL];have keep:(Jd g acc).Sublist (al.row.take k++[x]):=d.trans (List.sublist_append_left _ _);unfold Hh;rw[f];cases hc:A7 (al.void.get x) with
  |true=>exact .some (by constructor<;>grind [aq])
  |false=>
   rw[A9,A9];refine .bind ((Anq P l aa hnd hx).mono λD hD=>?_);rw[Aln (Vm P hD.2.2 aa hD.1 hD.2.1).z hD.1 hD.2.1 hod.g x,aL];refine .dec (λc=>?_) λc=>?_
   .rw[CM c,ax];have e:Jd g (acc++[(i:Int)])=Jd g acc++[x]:=by simp[Jd,hx]
    exact .bind (.app cq (.some ⟨aq aa,l.snoc hil,by simp;omega,e,e▸d.append (.refl _)⟩))
   .rw[C3 c,A9];exact .some (by constructor<;>grind [aq])
 .unfold um;dsimp only;rw[eF,A9];have hl2:al.row.length=dl.Row.length:=by rw[<-h.nm,Hm]
  rw[<-hl2,D5] at a;exact .some ⟨a.1,aa,a.2.2.1,a.2.2.2⟩
theorem Ag2(d:Int):nT g d=some (match(BW g m N).card d with|some c=>c.Member|none=>0):=by have nC:=P.w.nC;unfold nT;rw[Cw aa,aL];unfold mZ;show _=some (match g.Cards.find? (λc=>decide (c.Device=d)) with|some c=>c.Member|none=>0);grind
theorem Pg.same{i k:Nat}{x y:Ab}(hx:g.IDs[i]?=some x)(hy:g.IDs[k]?=some y):x=y↔(i:Int)=(k:Int):=by grind [Pg,JX,Fv.nd]
theorem AeG{i:Nat}(hi:i<g.L.length)(hk:k<g.L.length)(hx:g.IDs[i]?=some x)(hy:g.IDs[k]?=some y):n9 g (i:Int) (k:Int)=some (Hb (BW g m N) x y):=by
 have w:=P.w;obtain⟨a,ha,h,e⟩:=w.op hi;obtain⟨b,hb,f,j⟩:=w.op hk;obtain⟨row,u,hrow,hu⟩:=w.cell hi hk;obtain⟨d,v,c,hv⟩:=w.cell hk hi;have ea:=P.op ha hx;have eb:=P.op hb hy;have e1:(BW g m N).bef y x=u:=by rw[P.bef hy hx];grind [O9]
 have e2:(BW g m N).bef x y=v:=by rw[P.bef hx hy];grind [O9]
 have hby:=P.same hx hy;unfold n9 Hb;simp only[au,ha,hb,hrow,hu,c,hv,aL,ea.1,eb.1,ea.2,eb.2,e1,e2,Option.isSome_some,Bool.true_and];have hd:decide (x=y)=decide ((i:Int)=(k:Int)):=decide_eq_decide.2 hby;rw[hd];cases decide ((i:Int)=(k:Int)) with
 |true=>rfl
 |false=>
 cases u with
 |true=>cases v<;>rfl
 |false=>
 cases v with
 |true=>rfl
 |false=>
 simp only[A9,aL,Bool.not_false,Bool.true_and];unfold Aih Zb;rw[Ag2 P];by_cases k3:a.Kind=3
 .rw[k3];simp only[Int.reduceEq,decide_true,decide_false,ax,A9];by_cases hD:a.Device=0
  .have hm:=T1 e.numbers|>.k3 k3;grind [C3]
  grind
 grind
theorem AeH(h:Lr g dl al){i:Nat}(hi:i<g.L.length)(hk:k<g.L.length)(hx:g.IDs[i]?=some x)(hy:g.IDs[k]?=some y):qW g dl (i:Int) (k:Int)=some (DQ (BW g m N) al.row x y):=by
 have w:=P.w;have hr:=h.nr;have hby:=P.same hx hy;unfold qW DQ;rw[show decide (x=y)=decide ((i:Int)=(k:Int)) from decide_eq_decide.2 hby];cases decide ((i:Int)=(k:Int)) with
 |true=>rfl
 |false=>
 rw[A9,Bool.not_false,Bool.true_and];refine T.eq (.bind ((T.search dl.Row (λz=>Uw (BW g m N) x y ((g.IDs[z.toNat]?).getD ⟨0,0,0⟩)) (λk _=>true) aa (λj z hz hj=>?_) ?_).mono ?_))
 .obtain⟨q,v,rfl,a,hv,_⟩:=Pr w h.row hz;obtain⟨row,u,hrow,hu⟩:=w.cell hi a;have e1:(BW g m N).bef v x=u:=by rw[P.bef hv hx];grind [O9]
  have hvx:decide (v=x)=decide ((q:Int)=(i:Int)):=decide_eq_decide.2 (P.same hv hx);unfold qV Uw;rw[eA hj,ax,au,hz,aL,Fm,hv,Nt,aq aa,e1,hvx,AeG P hk a hy hv];grind [au]
 .unfold qV;rw[eF,A9]
 .have hmap:∀z∈dl.Row,((g.IDs[z.toNat]?).getD ⟨0,0,0⟩)∈al.row:=by grind [Lr.nm]
  rintro r (⟨rfl,hn⟩|⟨j,z,hz,hp,rfl,hn⟩)
  .refine .some ?_;grind [Lr.nm]
  .refine .some ?_;grind
end
theorem AaY(c:EH o)(h:Yc o=some d):1<=d/\d<=12:=by have f:=T1 c.numbers;grind [OJ,Yc]
theorem AeI(o:Bi):LJ o=some ((Yc o).getD 0):=by grind [LJ,Yc]
theorem Alw(hd:l.Nodup)(h:∀x∈l,1<=x/\x<=12):l.length<=12:=by
 have hs:∀x∈l.map Int.toNat,x∈List.range' 1 12:=by grind
 have hn:(l.map Int.toNat).Nodup:=ZM (g:=id) (by rw[List.map_id];exact hd) (by grind);have:=Q4 hn hs;rwa [Hm,List.length_range'] at this
theorem AcR{I:Gi}:∀{l:AH} {acc:Bj},acc.Nodup->(l.foldl (OS I) acc).Nodup
 |[],acc,h=>h
 |x::r,acc,h=>by refine AcR (l:=r) ?_;grind [OS]
theorem AaZ{I:Gi}{Q:Int->Prop}:∀{l:AH} {acc:Bj},(∀x∈l,∀d,Yc (I.o x)=some d->Q d)->(∀d∈acc,Q d)->∀d∈l.foldl (OS I) acc,Q d
 |[],acc,_,h=>h
 |x::r,acc,hx,h=>by refine AaZ (l:=r) (by grind) ?_;grind [OS]
theorem AcS{m:FM Int Int}{s:Bj}(hn:s.Nodup){d:Int}:∀k,k<=s.length->(∀j:Nat,j<k->s[j]?=some d->(UH m s k).get d=some (j:Int))/\((∀j:Nat,j<k->s[j]?≠some d)->(UH m s k).get d=m.get d)
 |0,_=>⟨λj h=>aa,λ_=>rfl⟩
 |k+1,hk=>by
  have ih:=AcS (m:=m) hn (d:=d) k aa;obtain⟨x,hx,_⟩:=dk (l:=s) (k:=k) aa;have e:UH m s (k+1)=C4 (UH m s k) x (k:Int):=by show(match s[k]? with|some d=>_|none=>_)=_;rw[hx]
  rw[e,BA];refine⟨λj hj hd=>?_,λhne=>?_⟩
  .grind [JX]
  grind
theorem AcT{d:Int}:∀{cs:LP} {m:FM Int Int},(∃c∈cs,c.Device=d)\/m.get d=some 12->(cs.foldl (λm c=>C4 m c.Device 12) m).get d=some 12
 |[],m,h=>by grind
 |c::r,m,h=>by refine AcT (cs:=r) ?_;grind [BA]
def snD(s:Bj)(d:Int):Int:=match bu d s with
 |some j=>(j:Int)
 |none=>(s.length:Int)
theorem ZR{s:Bj}(hn:s.length<=1000)(d:Int):oa s d=some (snD s d):=by
 unfold oa;refine T.eq (.bind ((T.search s (λx=>decide (x=d)) (λk _=>(k:Int)) aa (λk x hx hk=>?_) ?_).mono ?_))
 .grind [ph,eA,au,aq]
 .unfold ph;rw[eF,A9]
 .rintro r (⟨rfl,h⟩|⟨k,x,hx,hp,rfl,h⟩)
  .have:bu d s=none:=by grind [jv]
   refine .some ?_;unfold snD;rw[this];rfl
  .have hp:=DP hp;subst hp;have:bu x s=some k:=by grind [y0]
   refine .some ?_;unfold snD;rw[this]
theorem Ajs{s:Bj}(hn:s.Nodup)(hl:s.length<=12){e:Int}(hd:∃c∈cs,c.Device=d)(he:∃c∈cs,c.Device=e):decide (Sp (OR cs s) d<Sp (OR cs s) e)=decide (snD s d<snD s e):=by
 have at_:∀d,(∃c∈cs,c.Device=d)->(∃j:Nat,j<s.length/\Sp (OR cs s) d=(j:Int)/\snD s d=(j:Int))\/(Sp (OR cs s) d=12/\snD s d=(s.length:Int)):=λd hd=>by have h:=AcS (m:=Tl cs) hn (d:=d) s.length (C6 _);unfold Sp OR snD;grind [gb,jv,Tl,AcT]
 grind
section
variable {g:AB} {m:Hj} {N:Hl} (P:Pg g m N)
include P
theorem Aa0{ids row:AH}(ho:n8 g ids=some row)(hn:row.length<=1000)(hm:∀x∈row,x∈g.IDs):jn g ids=some (M0 (BW g m N) row):=by
 have w:=P.w;have nL:=w.nL;have nI:=w.nI;unfold jn;rw[ho,aL];refine T.eq (.bind (T.mono (Q:=λr=>r=M0 (BW g m N) row) (T.forA row.length (λk acc=>acc=(row.take k).foldl (OS (BW g m N)) []) aa rfl (λk acc hk hj=>?_) λacc hj=>?_) λr hr=> .some hr))
 .obtain⟨x,hx,hmx⟩:=dk hk;obtain⟨i,hi⟩:=EO (hm x hmx);have hil:i<g.L.length:=by grind
  obtain⟨o,a,so,c⟩:=w.op hil;have hpz:gO g x=(i:Int):=by unfold gO;rw[KE w hi]
  have b:=(P.op a hi).2;have hal:=Xd (I:=BW g m N) (l:=row.take k) (acc:=[]);rw[Ns,List.length_nil,<-hj] at hal;rw[Rb hx,LF,List.foldl_cons,List.foldl_nil,<-hj];unfold OS;rw[b];unfold nk;simp only[eA hk,ax,au,hx,aL,qR,dC (show g.IDs.length<=1000000 by omega),hpz,a,AeI];cases hc:Yc o with
  |none=>exact .some ⟨aq aa,rfl⟩
  |some d=>
   have hd:=AaY c hc;rw[Nt,show decide (0<d)=true from CM aa,ax,cX aa,aL];have hb:QF acc d=acc.any (λy=>decide (d=y)):=by grind [LE]
   rw[hb,aL];dsimp only;cases acc.any (λy=>decide (d=y)) with
   |true=>exact .some ⟨aq aa,rfl⟩
   |false=>exact .bind (.app cq (.some ⟨aq aa,rfl⟩))
 .unfold nk;dsimp only;rw[eF,A9];refine .some (show acc=_ from ?_);rw[hj,D5];rfl
end
def XL(lt:Ab->Ab->Bool)(b:Option Ab)(x:Ab):Option Ab:=match b with
 |none=>some x
 |some y=>bif lt x y then some x else some y
theorem Anr{I:Gi}{row l:AH}{sen:FM Int Int}(hl:l.length<=1000):T (AQ (X9 I row l sen) (0,-1)) λr=>(∃(i:Nat) (x:Ab),r=(i:Int)/\l[i]?=some x/\(l.find? (λx=> !l.any (DQ I row x))=some x\/(l.find? (λx=> !l.any (DQ I row x))=none/\l.foldl (XL λx y=>decide (Sp sen x.By<Sp sen y.By)) none=some x)))\/(l=[]/\r= -1):=by
 refine T.loop (λs=>s.1<=l.length/\(∀y∈l.take s.1,(!l.any (DQ I row y))=false)/\((s.1=0/\s.2= -1)\/∃(i:Nat) (x:Ab),s.2=(i:Int)/\l[i]?=some x/\(l.take s.1).foldl (XL λx y=>decide (Sp sen x.By<Sp sen y.By)) none=some x)) (λs=>l.length-s.1) (by grind) (by show l.length-0<_;omega) ?_;rintro⟨k,b⟩ ⟨hk,hw,hb⟩;dsimp only at hk hw hb;unfold X9;dsimp only;cases hx:l[k]? with
 |none=>
  have hge:l.length<=k:=List.getElem?_eq_none_iff.1 hx;obtain rfl:k=l.length:=aa;rw[D5] at hw hb;dsimp only;rw[Nat.beq_refl,ax];refine .some ?_;rcases hb with⟨h1,h2⟩|⟨i,x,h1,h2,h3⟩
  .exact .inr ⟨List.length_eq_zero_iff.1 h1,h2⟩
  .exact .inl (by grind)
 |some x=>
  have hlt:=(cr hx).1;dsimp only;refine .ite (λha=>?_) λha=> .some (.inl ⟨k,x,rfl,hx,.inl ?_⟩)
  .have hw':∀y∈l.take (k+1),(!l.any (DQ I row y))=false:=λy hy=>by rw[Rb hx] at hy;grind
   have ef:(l.take (k+1)).foldl (XL λx y=>decide (Sp sen x.By<Sp sen y.By)) none=XL (λx y=>decide (Sp sen x.By<Sp sen y.By)) ((l.take k).foldl (XL λx y=>decide (Sp sen x.By<Sp sen y.By)) none) x:=by rw[Rb hx,LF];rfl
   unfold upB;rcases hb with⟨rfl,rfl⟩|⟨i,y,rfl,hi,hf⟩
   .refine .some ⟨⟨aa,hw',.inr ⟨0,x,rfl,hx,?_⟩⟩,by show l.length-1<l.length-0;omega⟩;rw[ef];rfl
   .rw[hf] at ef;rw[show decide ((i:Int)<0)=false from C3 aa,A9,au,hi,aL];cases hc:decide (Sp sen x.By<Sp sen y.By) with
    |true=>exact .some ⟨⟨by show k+1<=_;omega,hw',.inr ⟨k,x,rfl,hx,by rw[ef];show(bif Sp sen x.By<Sp sen y.By then some x else some y)=_;rw[hc];rfl⟩⟩,by grind⟩
    |false=>exact .some ⟨⟨by show k+1<=_;omega,hw',.inr ⟨i,y,rfl,hi,by rw[ef];show(bif Sp sen x.By<Sp sen y.By then some x else some y)=_;rw[hc];rfl⟩⟩,by grind⟩
  .rw[List.find?_eq_some_iff_getElem];obtain⟨h1,h2⟩:=cr hx;refine⟨by rw[ha];rfl,k,h1,h2,λj hj=>?_⟩;have hj':l[j]?=some (l[j]'aa):=EA _;have:=hw _ (bO (i:=j) (by rw[List.getElem?_take,Bx hj];exact hj'));rw[this];simp
abbrev NxQ(g:AB)(m:Hj)(N:Hl)(al:Be)(l:AH)(lt:Ab->Ab->Bool)(nx:Int):Prop:=(∃(p:Nat) (x:Ab),nx=(p:Int)/\g.IDs[p]?=some x/\x∈l/\(l.find? (λx=> !l.any (DQ (BW g m N) al.row x))=some x\/(l.find? (λx=> !l.any (DQ (BW g m N) al.row x))=none/\l.foldl (XL lt) none=some x)))\/(l=[]/\nx= -1)
section
variable {g:AB} {m:Hj} {N:Hl} (P:Pg g m N)
include P
theorem Alx(h:Lr g dl al){l:AH}{s:Bj}{lt:Ab->Ab->Bool}(hs:s.length<=1000)(hlf:l=al.row.filter λx=>decide (x∈l))(j:∀(p:Nat) (x:Ab),g.IDs[p]?=some x->x∈al.row->Oa g dl (p:Int)=some (decide (x∈l)))(hlt:∀x∈al.row,∀y∈al.row,lt x y=decide (snD s ((BW g m N).o x).By<snD s ((BW g m N).o y).By)):T (vL g dl s) λnx=>NxQ g m N al l lt nx:=by
 have w:=P.w;have hr:=h.nr;have inner:∀{i:Nat} {x:Ab},i<g.L.length->g.IDs[i]?=some x->AQ (ut g dl (i:Int)) (true,0)=some (!l.any (DQ (BW g m N) al.row x)):=λ{i x} hi hx=>by
  refine T.eq (T.forA dl.Row.length (λk b=>b= !((al.row.take k).any λy=>decide (y∈l)&&DQ (BW g m N) al.row x y)) aa rfl (λk b hk hb=>?_) λb hb=>?_)
  .obtain⟨z,hz,_⟩:=dk hk;obtain⟨q,v,rfl,d,hv,a⟩:=Pr w h.row hz;rw[h.nm] at a;unfold ut;simp only[eA hk,ax,au,hz,aL,j q v hv (bO a),AeH P h hi d hx hv];have e:((al.row.take (k+1)).any λy=>decide (y∈l)&&DQ (BW g m N) al.row x y)=(((al.row.take k).any λy=>decide (y∈l)&&DQ (BW g m N) al.row x y)||(decide (v∈l)&&DQ (BW g m N) al.row x v)):=by rw[Rb a,List.any_append];simp
   rw[e];cases decide (v∈l) with
   |false=>exact .some ⟨aq aa,by simpa using hb⟩
   |true=>
    cases DQ (BW g m N) al.row x v with
    |false=>exact .some ⟨aq aa,by simpa using hb⟩
    |true=>exact .some ⟨aq aa,aC⟩
  .unfold ut;dsimp only;rw[eF,A9];refine .some (show b=_ from ?_);grind [Lr.nm,Hm]
 unfold vL;refine .bind ((T.forA (Q:=λr:Int⊕Int=>(∃(p:Nat) (x:Ab),r= .inr (p:Int)/\g.IDs[p]?=some x/\x∈l/\l.find? (λx=> !l.any (DQ (BW g m N) al.row x))=some x)\/(∃(p:Nat) (x:Ab),r= .inl (p:Int)/\g.IDs[p]?=some x/\x∈l/\l.find? (λx=> !l.any (DQ (BW g m N) al.row x))=none/\l.foldl (XL lt) none=some x)\/(l=[]/\r= .inl (-1))) dl.Row.length (λk b=>(∀y∈al.row.take k,y∈l->(!l.any (DQ (BW g m N) al.row y))=false)/\((b= -1/\((al.row.take k).filter λx=>decide (x∈l))=[])\/∃(p:Nat) (x:Ab),b=(p:Int)/\p<g.L.length/\g.IDs[p]?=some x/\x∈l/\((al.row.take k).filter λx=>decide (x∈l)).foldl (XL lt) none=some x)) aa ⟨λy hy=>(by cases hy),.inl ⟨rfl,rfl⟩⟩ (λk b hk hb=>?_) λb hb=>?_).mono ?_)
 .obtain⟨z,hz,_⟩:=dk hk;obtain⟨q,v,rfl,d,hv,a⟩:=Pr w h.row hz;rw[h.nm] at a;have n:=bO a;obtain⟨hb1,hb2⟩:=hb;have ef:(al.row.take (k+1)).filter (λx=>decide (x∈l))=(al.row.take k).filter (λx=>decide (x∈l))++(if v∈l then[v] else[]):=by rw[Rb a,O8];grind
  unfold uu;simp only[eA hk,ax,au,hz,aL,j q v hv n];by_cases c:v∈l
  .rw[Bx c] at ef;rw[CM c,Bool.not_true,A9,inner d hv,aL];cases hany:l.any (DQ (BW g m N) al.row v) with
   |false=>
    refine .some (.inl ⟨q,v,rfl,hv,c,?_⟩);have hkl:(al.row.take k).filter (λx=>decide (x∈l))++[v]++(al.row.drop (k+1)).filter (λx=>decide (x∈l))=l:=by grind [Pt]
    have:l.find? (λx=> !l.any (DQ (BW g m N) al.row x))=((al.row.take k).filter (λx=>decide (x∈l))++[v]++(al.row.drop (k+1)).filter (λx=>decide (x∈l))).find? (λx=> !l.any (DQ (BW g m N) al.row x)):=by rw[hkl]
    rw[this,List.append_assoc,List.find?_append,List.find?_eq_none.2 λy hy=>by rw[HE] at hy;rw[hb1 y hy.1 (DP hy.2)];simp]
    rw[List.singleton_append,List.find?_cons,hany];rfl
   |true=>
    rw[Bool.not_true,A9];have hb1':∀y∈al.row.take (k+1),y∈l->(!l.any (DQ (BW g m N) al.row y))=false:=λy hy f=>by
     rw[Rb a] at hy;rcases Hp.1 hy with hy|hy
     .exact hb1 y hy f
     .simp at hy;subst hy;rw[hany];rfl
    obtain⟨o,ho,so,u⟩:=w.op d;rcases hb2 with⟨rfl,he⟩|⟨p,y,rfl,hpl,hp,f,hf⟩
    .rw[show decide ((-1:Int)<0)=true from rfl,ax,aL,ax];refine .some ⟨aq aa,hb1',.inr ⟨q,v,rfl,d,hv,c,?_⟩⟩;rw[ef,he];rfl
    .obtain⟨t,ho2,_⟩:=w.op hpl;have hmx:Fi (p:Int) 0=(p:Int):=by unfold Fi;rw[BB aa]
     have hyr:y∈al.row:=by grind
     rw[show decide ((p:Int)<0)=false from C3 aa,A9,hmx];simp only[au,ho,ho2,aL,ZR hs];have hl1:=hlt v n y hyr;rw[(P.op ho hv).2,(P.op ho2 hp).2] at hl1;rw[<-hl1];have ef2:((al.row.take (k+1)).filter λx=>decide (x∈l)).foldl (XL lt) none=XL lt (some y) v:=by rw[ef,LF,hf];rfl
     cases hc:lt v y with
     |true=>exact .some ⟨aq aa,hb1',.inr ⟨q,v,rfl,d,hv,c,by rw[ef2];show(bif lt v y then some v else some y)=_;rw[hc];rfl⟩⟩
     |false=>exact .some ⟨aq aa,hb1',.inr ⟨p,y,rfl,hpl,hp,f,by rw[ef2];show(bif lt v y then some v else some y)=_;rw[hc];rfl⟩⟩
  .rw[BB c,LK] at ef;rw[C3 c,Bool.not_false,ax];refine .some ⟨aq aa,λy hy f=>?_,by rw[ef];exact hb2⟩;rw[Rb a] at hy;grind
 .unfold uu;dsimp only;rw[eF,A9];have hl2:al.row.length=dl.Row.length:=by rw[<-h.nm,Hm]
  rw[<-hl2,D5,<-hlf] at hb;refine .some ?_;obtain⟨hb1,hb2⟩:=hb;rcases hb2 with⟨rfl,he⟩|⟨p,x,rfl,_,hp,hx,hf⟩
  .exact .inr (.inr ⟨he,rfl⟩)
  .refine .inr (.inl ⟨p,x,rfl,hp,hx,List.find?_eq_none.2 λy hy=>?_,hf⟩);have hyr:y∈al.row:=by rw[hlf] at hy;exact(HE.1 hy).1
   rw[hb1 y hyr hy];simp
 .rintro r (⟨p,x,rfl,hp,hx,h1⟩|⟨p,x,rfl,hp,hx,h1⟩|⟨h1,rfl⟩)
  .exact .some (.inl ⟨p,x,rfl,hp,hx,.inl h1⟩)
  .exact .some (.inl ⟨p,x,rfl,hp,hx,.inr h1⟩)
  .exact .some (.inr ⟨h1,rfl⟩)
end
theorem AbZ{α:Type}[DecidableEq α]:∀{l row:List α},l.Sublist row->row.Nodup->l=row.filter λx=>decide (x∈l)
 |_,_,.slnil,_=>rfl
 |l,_,.cons (l₂:=r) a h,hn=>by rw[M2] at hn;rw[List.filter_cons_of_neg (by grind)];exact AbZ h hn.2
 |_,_,.cons_cons (l₁:=l) (l₂:=r) a h,hn=>by rw[M2] at hn;rw[List.filter_cons_of_pos aC];have e:=AbZ h hn.2;grind [List.filter_congr]
theorem AcU:A7 ((ofV vs).get x)=decide (x∈vs):=by
 have key:∀(l:AH) (M:FM Ab Bool),A7 ((l.foldl (λm x=>C4 m x true) M).get x)=(A7 (M.get x)||decide (x∈l)):=by intro l;induction l<;>grind [BA,A7]
 unfold ofV;rw[key];rfl
theorem AcV{I:Gi}{row left:AH}{x y:Ab}:∀{l:AH} {v:FM Ab Bool},A7 ((l.foldl (vFu I row left x) v).get y)=(A7 (v.get y)||(decide (y∈l)&&(Hb I x y||(left.any (λz=>decide (y=z))&&DQ I row x y))))
 |[],v=>aC
 |a::r,v=>by
  rw[List.foldl_cons,AcV (l:=r)];have e:A7 ((vFu I row left x v a).get y)=(A7 (v.get y)||(decide (y=a)&&(Hb I x y||(left.any (λz=>decide (y=z))&&DQ I row x y)))):=by unfold vFu;grind [BA,A7]
  grind
section
variable {g:AB} {m:Hj} {N:Hl} (P:Pg g m N)
include P
theorem Aly(hi:C5 g ids)(ho:n8 g ids=some row)(hrn:row.Nodup)(hr:row.length<=1000)(hrm:∀x∈row,x∈g.IDs)(hv:vJ ids=some vs)(d:vs.length<=1000)(hvm:∀x∈vs,x∈g.IDs):T (Aa g ids) λc=>Lr g c (Sh ⟨g.Cards,m,N⟩ row vs)/\c.Decided=List.replicate g.L.length false:=by
 have w:=P.w;have nL:=w.nL;have nI:=w.nI;unfold Aa;rw[ho,aL];have hmk:rP 1 (false:Bool) (ah g.L)=some (List.replicate g.L.length false):=T.eq (.make (by unfold ah;omega) (by unfold ah;omega) (by unfold ah;omega) (by unfold ah;rw[Fm]));rw[hmk,aL,aL,aL];have pz:∀x∈g.IDs,∃i:Nat,g.IDs[i]?=some x/\i<g.L.length/\fC g x=some (i:Int):=λx hx=>by obtain⟨i,hi⟩:=EO hx;have:=(cr hi).1;exact⟨i,hi,aa,by rw[dC aa];unfold gO;rw[KE w hi]⟩
 refine .bind ((T.forA row.length (λk acc=>EF g acc/\acc.length=k/\Jd g acc=row.take k) aa ⟨.nil,rfl,rfl⟩ (λk acc hk hj=>?_) λacc hj=>?_).mono (Q:=λacc=>EF g acc/\acc.length=row.length/\Jd g acc=row) λb h10=>?_)
 .obtain⟨x,hx,hmx⟩:=dk hk;obtain⟨i,hi,hil,hp⟩:=pz x (hrm x hmx);unfold uq;simp only[eA hk,ax,au,hx,aL,hp];refine .bind (.app cq (.some ⟨aq aa,hj.1.snoc hil,by simp;omega,?_⟩));grind [Rb]
 .unfold uq;dsimp only;rw[eF,A9];rw[D5] at hj;exact .some hj
 .rw[hv,aL];refine .bind ((T.loop (Q:=λr:List Bool×List Bool=>r.1.length=g.L.length/\∀(p:Nat) (x:Ab),g.IDs[p]?=some x->r.1[p]?=some (decide (x∈vs))/\r.2[p]?=some (decide (x∈vs))) (λs=>∃k:Nat,k<=vs.length/\s.2.2=(k:Int)/\s.1.length=g.L.length/\s.2.1.length=g.L.length/\∀(p:Nat) (x:Ab),g.IDs[p]?=some x->s.1[p]?=some (decide (x∈vs.take k))/\s.2.1[p]?=some (decide (x∈vs.take k))) (λs=>vs.length-s.2.2.toNat) ⟨0,aa,rfl,aC,aC,λp x hp=>?_⟩ cq ?_).mono λr a=>?_)
  .have:=(cr hp).1;show(List.replicate g.L.length false)[p]?=_/\(List.replicate g.L.length false)[p]?=_;rw[List.getElem?_replicate,Bx aa];simp
  .rintro⟨V,F,i⟩ ⟨k,hk,rfl,h1,h2,h3⟩;dsimp only at h1 h2 h3;unfold uo;dsimp only;rcases JF k vs.length with hlt|hge
   .obtain⟨x,hx,hmx⟩:=dk hlt;obtain⟨q,hq,e,hp⟩:=pz x (hvm x hmx);rw[eA hlt,ax,au,hx,aL,hp,aL];have ew:=aq (show k<2305843009213693952 by omega);refine .bind (.set aa aa (.bind (.set aa aa (.some ⟨⟨k+1,aa,ew,by simp;omega,by simp;omega,λp y hy=>?_⟩,by rw[ew];simp;omega⟩))));dsimp only;rw[Fm,List.getElem?_set,List.getElem?_set,Rb hx];have:=h3 p y hy;grind [JX,Fv.nd]
   .obtain rfl:k=vs.length:=aa;rw[eF,A9];rw[D5] at h3;exact .some ⟨h1,h3⟩
  .refine .some ⟨⟨h10.1,h10.2.2,hrn,by show b.length<=1000;omega,a.1,aC,λp x hp=>?_,λp x hp=>?_⟩,rfl⟩
   .show r.2[p]?=some (A7 ((ofV vs).get x));rw[AcU];exact(a.2 p x hp).2
   .show r.1[p]?=some (A7 ((ofV vs).get x));rw[AcU];exact(a.2 p x hp).1
structure RDb (g:AB) (I:Gi) (dl:Ke) (al:Be) (a:AH×FM Ab Bool) (V D:List Bool):Prop where
 lr:Lr g {dl with Void:=V,Decided:=D} (wV al a.2)
 sub:a.1.Sublist al.row
 kil:∀x∈a.1,Hk (I.o x).Kind=true
 dec:∀(p:Nat) (x:Ab),g.IDs[p]?=some x->x∈al.row->Hk (I.o x).Kind=true->A7 (a.2.get x)=false->D[p]?=some (!decide (x∈a.1))
structure RDc (g:AB) (I:Gi) (dl:Ke) (al:Be) (s:Bj) (a:AH×FM Ab Bool) (b:List Bool×List Bool×Int):Prop extends RDb g I dl al a b.1 b.2.1 where
 nx:vL g {dl with Void:=b.1,Decided:=b.2.1} s=some b.2.2
theorem AiO(h:RDb g (BW g m N) dl al a V D)(hp:g.IDs[p]?=some x)(hx:x∈al.row):Oa g {dl with Void:=V,Decided:=D} (p:Int)=some (decide (x∈a.1.filter λx=> !A7 (a.2.get x))):=by
 have w:=P.w;have nI:=w.nI;have hpl:p<g.L.length:=by grind
 obtain⟨o,ho,so,c⟩:=w.op hpl;have b:=(P.op ho hp).2;have hv:=h.lr.vd p x hp;have hv:V[p]?=some (A7 (a.2.get x)):=hv;have hdl:=h.lr.nc;grind [Oa,au,Hk,RDb.kil,RDb.dec,Bh]
end
theorem Ans{js:Bj}(hj:js.length<=1000)(hi:∀z∈js,∃q:Nat,z=(q:Int)/\q<V.length):T (AQ (ng js) (V,0)) λW=>W.length=V.length/\∀(q:Nat) (b:Bool),V[q]?=some b->W[q]?=some (b||decide ((q:Int)∈js)):=by
 refine T.forA js.length (λk W=>W.length=V.length/\∀(q:Nat) (b:Bool),V[q]?=some b->W[q]?=some (b||decide ((q:Int)∈js.take k))) aa (by grind) (λk W hk a=>?_) λW a=>?_
 .obtain⟨z,hz,c⟩:=dk hk;obtain⟨p,rfl,hp⟩:=hi z c;unfold ng;simp only[eA hk,ax,au,hz,aL];refine .bind (.set aa (by rw[a.1];omega) (.some ⟨aq aa,by rw[List.length_set];exact a.1,λq b h=>?_⟩));rw[Fm,List.getElem?_set,Rb hz];grind
 .unfold ng;dsimp only;rw[eF,A9];rw[D5] at a;exact .some a
theorem Aa1{σ1 σ2 ρ1 ρ2:Type}{s1:σ1->Option (σ1⊕ρ1)}{s2:σ2->Option (σ2⊕ρ2)}(R:σ1->σ2->Prop)(Q:ρ1->ρ2->Prop)(μ:σ1->Nat)(h:∀a b,R a b->∃u v,s1 a=some u/\s2 b=some v/\Sim (λa' b'=>R a' b'/\μ a'<μ a) Q u v):∀(n:Nat) (a:σ1) (b:σ2),μ a<n->R a b->∃q r,KN s1 n a=some q/\KN s2 n b=some r/\Q q r
 |0,a,b,hm,_=>absurd hm (Nat.not_lt_zero _)
 |n+1,a,b,hm,hR=>by
  obtain⟨u,v,e1,e2,hs⟩:=h a b hR;unfold KN;rw[e1,e2];cases u with
  |inl a'=>
   cases v with
   |inl b'=>exact Aa1 R Q μ h n a' b' (by have:=hs.2;omega) hs.1
   |inr b'=>exact hs.elim
  |inr a'=>
   cases v with
   |inl b'=>exact hs.elim
   |inr b'=>exact⟨_,_,rfl,rfl,hs⟩
section
variable {g:AB} {m:Hj} {N:Hl} (P:Pg g m N)
include P
theorem AeJ(hi:EF g l)(hp:g.IDs[p]?=some x):(p:Int)∈l↔x∈Jd g l:=by grind [EO,Pr,Pg.w,JX,Fv.nd]
theorem AlA{s:Bj}{b:List Bool×List Bool×Int}(h:RDc g (BW g m N) dl al s a b){p:Nat}{x:Ab}(hp:g.IDs[p]?=some x)(hb:b.2.2=(p:Int)):AQ (nh g dl b) ([],0)=some (dl.Row.filter λz=>(λy=>Hb (BW g m N) x y||(decide (y∈a.1.filter λx=> !A7 (a.2.get x))&&DQ (BW g m N) al.row x y)) ((g.IDs[z.toNat]?).getD ⟨0,0,0⟩)):=by
 have w:=P.w;have nI:=w.nI;have hr:dl.Row.length<=1000:=h.lr.nr;have hpl:p<g.L.length:=by grind
 generalize hf:(λy=>Hb (BW g m N) x y||(decide (y∈a.1.filter λx=> !A7 (a.2.get x))&&DQ (BW g m N) al.row x y))=f;refine T.eq (T.forA dl.Row.length (λk acc=>acc=(dl.Row.take k).filter λz=>f ((g.IDs[z.toNat]?).getD ⟨0,0,0⟩)) aa aC (λk acc hk hj=>?_) λacc hj=>?_)
 .obtain⟨z,hz,_⟩:=dk hk;have hrow:EF g dl.Row:=h.lr.row;obtain⟨q,y,rfl,d,hq,i⟩:=Pr w hrow hz;have hnm:Jd g dl.Row=al.row:=h.lr.nm;rw[hnm] at i;have hyr:=bO i;have hal:acc.length<=k:=by grind
  have e:(dl.Row.take (k+1)).filter (λz=>f ((g.IDs[z.toNat]?).getD ⟨0,0,0⟩))=acc++(if f y=true then[(q:Int)] else[]):=by rw[Rb hz,O8,<-hj];cases hfy:f y<;>simp[hq,hfy]
  have hw:=AeH P h.lr hpl d hp hq;unfold nh;simp only[eA hk,ax,au,hz,aL,hb,AeG P hpl d hp hq,AiO P h.toRDb hq hyr];refine .bind (T.mono (Q:=λc=>c=f y) ?_ λc hc=>?_)
  .rw[<-hf];dsimp only;cases Hb (BW g m N) x y<;>grind [T.some]
  .subst hc;cases hfy:f y with
   |true=>rw[hfy,Bx rfl] at e;exact .bind (.app cq (.some ⟨aq aa,e.symm⟩))
   |false=>rw[hfy,BB aC,LK] at e;exact .some ⟨aq aa,e.symm⟩
 .unfold nh;dsimp only;rw[eF,A9];refine .some (show acc=_ from ?_);rw[hj,D5]
theorem ltE{s:Bj}(hsn:s.Nodup)(hsl:s.length<=12)(h:Lr g dl al):∀x∈al.row,∀y∈al.row,decide (Sp (OR g.Cards s) x.By<Sp (OR g.Cards s) y.By)=decide (snD s ((BW g m N).o x).By<snD s ((BW g m N).o y).By):=by
 have w:=P.w;have pos:∀x∈al.row,∃q:Nat,q<g.L.length/\g.IDs[q]?=some x:=λx hx=>by rw[<-h.nm] at hx;obtain⟨z,hz,e⟩:=E7.1 hx;obtain⟨j,hj⟩:=EO hz;obtain⟨n,y,rfl,hn,hy,_⟩:=Pr w h.row hj;grind
 intro x hx y hy;obtain⟨p,hp,a⟩:=pos x hx;obtain⟨q,hq,b⟩:=pos y hy;obtain⟨o,ho,_⟩:=w.op hp;obtain⟨c,ho2,_⟩:=w.op hq;rw[(P.op ho a).2,(P.op ho2 b).2,<-(P.od p o x ho a).i,<-(P.od q c y ho2 b).i];refine Ajs hsn hsl ?_ ?_
 .rw[(P.od p o x ho a).i];exact P.dv p o x ho a
 .rw[(P.od q c y ho2 b).i];exact P.dv q c y ho2 b
theorem nxE{s:Bj}(hsn:s.Nodup)(hsl:s.length<=12)(h:RDb g (BW g m N) dl al a V D):T (vL g {dl with Void:=V,Decided:=D} s) λnx=>NxQ g m N (wV al a.2) (a.1.filter λx=> !A7 (a.2.get x)) (λx y=>decide (Sp (OR g.Cards s) x.By<Sp (OR g.Cards s) y.By)) nx:=Alx P h.lr (show s.length<=1000 by omega) (AbZ (List.filter_sublist.trans h.sub) h.lr.nd) (λ_ _ hp hx=>AiO P h hp hx) (ltE P hsn hsl h.lr)
theorem AlB{s:Bj}{b:List Bool×List Bool×Int}(hsn:s.Nodup)(hsl:s.length<=12)(h:RDc g (BW g m N) dl al s a b):∃u v,Aeq (BW g m N) al (OR g.Cards s) a=some u/\tw g dl s b=some v/\Sim (λa' b'=>RDc g (BW g m N) dl al s a' b'/\a'.1.length<a.1.length) (λ(v:FM Ab Bool) (r:List Bool×List Bool)=>Lr g {dl with Void:=r.1,Decided:=r.2} (wV al v)) u v:=by
 have w:=P.w;have nL:=w.nL;have nI:=w.nI;have hrow:EF g dl.Row:=h.lr.row;have hnm:Jd g dl.Row=al.row:=h.lr.nm;have hnd:al.row.Nodup:=h.lr.nd;have hnr:dl.Row.length<=1000:=h.lr.nr;have hrl:al.row.length=dl.Row.length:=by rw[<-hnm,Hm]
 obtain⟨nx,e1,t⟩:=nxE P hsn hsl h.toRDb;obtain⟨v0,hv⟩:∃v0,tw g dl s b=v0:=⟨_,rfl⟩;rw[hv];have D:=Nr (λx=> !A7 (a.2.get x)) a.1;have hkl:=λp x hp hb=>AlA P h (p:=p) (x:=x) hp hb;have hl1s:(a.1.filter λx=> !A7 (a.2.get x)).Sublist al.row:=List.filter_sublist.trans h.sub;have hlen:a.1.length<=1000:=by have:=h.sub.length_le;omega
 have hmem:∀y,y∈(a.1.filter λx=> !A7 (a.2.get x))↔y∈a.1/\A7 (a.2.get y)=false:=by grind
 unfold Aeq;rw[CM hlen,ax];dsimp only;generalize (a.1.filter λx=> !A7 (a.2.get x))=l1 at*;have hl1n:l1.Nodup:=hnd.sublist hl1s;have hl1l:l1.length<=1000:=by have:=hl1s.length_le;omega
 rw[h.nx] at e1;obtain rfl:=Bh e1;obtain⟨r,e2,hr⟩:=Anr (I:=BW g m N) (row:=al.row) (sen:=OR g.Cards s) hl1l;rw[e2];rcases t with⟨p,x,f,hp,hxl,hx⟩|⟨h0,hb⟩
 .obtain⟨i,H,rfl,hi,hx'⟩:=hr.resolve_right (by grind);obtain rfl:x=H:=by grind
  have hil:=(cr hi).1;have hxr:=hl1s.subset hxl;have hpl:p<g.L.length:=by grind
  rw[show decide (ah l1=0)=false from C3 (by unfold ah;omega),A9,aL,au,hi,aL,Fm];obtain⟨gd,e3,g1,g2,F,K⟩:=AiM P h.lr;have hgood:QF gd (p:Int)=(Jt (BW g m N) (wV al a.2)).any (λz=>decide (x=z)):=by rw[LE,Bool.eq_iff_iff,List.any_eq_true,decide_eq_true_iff,AeJ P g1 hp,F];constructor<;>grind
  have hlp:∀y,y∈l1.eraseIdx i↔y∈l1/\y≠x:=λy=>by
   have hsp:l1=l1.take i++x::l1.drop (i+1):=by grind [List.drop_eq_getElem_cons,Pt]
   have A:=hl1n;rw[hsp,List.perm_middle.nodup_iff,M2] at A;rw[List.eraseIdx_eq_take_drop_succ];constructor
   .intro hy;constructor<;>grind [List.mem_of_mem_drop]
   .rintro⟨hy,hne⟩;rw[hsp] at hy;rcases Hp.1 hy with hy|hy
    .exact Hp.2 (.inl hy)
    grind
  have hvl:b.1.length=g.L.length:=h.lr.nv;have hdl:b.2.1.length=g.L.length:=h.lr.nc;have key:∀(o:Bj) (d:FM Ab Bool),o.length<=1000->(∀z∈o,∃q:Nat,z=(q:Int)/\q<b.1.length)->(∀(q:Nat) (y:Ab),g.IDs[q]?=some y->A7 (d.get y)=(A7 (a.2.get y)||decide ((q:Int)∈o)))->T ((ji b.2.1 b.2.2 true).bind λj=>(AQ (ng o) (b.1,0)).bind λk=>(vL g ({dl with Void:=k,Decided:=j}) s).bind λB=>some (.inl (k,j,B))) λ(v:(List Bool×List Bool×Int)⊕(List Bool×List Bool))=>Sim (λa' b'=>RDc g (BW g m N) dl al s a' b'/\a'.1.length<a.1.length) (λ(v:FM Ab Bool) (r:List Bool×List Bool)=>Lr g {dl with Void:=r.1,Decided:=r.2} (wV al v)) (.inl (l1.eraseIdx i,d)) v:=λo d hjl C l=>by
   rw[f];refine .bind (.set aa aa (.bind ((Ans hjl C).mono λW E=>?_)));rw[Fm];have hL:Lr g {dl with Void:=W,Decided:=b.2.1.set p true} (wV al d):=⟨hrow,hnm,hnd,hnr,E.1.trans hvl,by grind,h.lr.fk,λq y hq=>by show W[q]?=some (A7 (d.get y));rw[l q y hq];exact E.2 q _ (h.lr.vd q y hq)⟩
   have hb:RDb g (BW g m N) dl al (l1.eraseIdx i,d) W (b.2.1.set p true):=by
    refine⟨hL,(List.eraseIdx_sublist l1 i).trans hl1s,(by grind [RDb.kil,h.toRDb]),λq y hq hy hk n=>?_⟩;dsimp only at n⊢;rw[l q y hq] at n;have hvy1:A7 (a.2.get y)=false:=by grind
    rw[List.getElem?_set];by_cases c:p=q
    .grind
    .have hne:y≠x:=λe=>c (by rw[e] at hq;exact JX w.nd hp hq);rw[BB c,h.dec q y hq hy hk hvy1];grind
   obtain⟨J,e4,_⟩:=nxE P hsn hsl hb;rw[e4,aL];exact .some ⟨⟨hb,e4⟩,by show(l1.eraseIdx i).length<_;rw[List.length_eraseIdx_of_lt hil];omega⟩
  unfold tw at hv;rw[f,show decide ((0:Int)<=(p:Int))=true from CM aa,ax,e3,aL,cX aa,aL,hkl p x hp f,aL,hgood] at hv;rw[<-f] at hv;cases hg:(Jt (BW g m N) (wV al a.2)).any (λz=>decide (x=z)) with
  |true=>
   rw[hg,Bool.not_true,A9,aL] at hv;rw[ax];obtain⟨v',ev,hs⟩:=key (dl.Row.filter λz=>(λy=>Hb (BW g m N) x y||(decide (y∈l1)&&DQ (BW g m N) al.row x y)) ((g.IDs[z.toNat]?).getD ⟨0,0,0⟩)) (vAl (BW g m N) al.row (l1.eraseIdx i) x a.2) (M1 (Nr _ _) hnr) (λz hz=>by
    obtain⟨q,e,hq⟩:=hrow.nat (HE.1 hz).1;exact⟨q,e,aa⟩) λq y hq=>by
    unfold vAl;rw[AcV];congr 1;have h1:decide ((q:Int)∈dl.Row.filter λz=>(λy=>Hb (BW g m N) x y||(decide (y∈l1)&&DQ (BW g m N) al.row x y)) ((g.IDs[z.toNat]?).getD ⟨0,0,0⟩))=(decide (y∈al.row)&&(Hb (BW g m N) x y||(decide (y∈l1)&&DQ (BW g m N) al.row x y))):=by rw[Bool.eq_iff_iff,decide_eq_true_iff,HE,bA,decide_eq_true_iff,AeJ P hrow hq,hnm,Fm,hq,Nt]
    rw[h1];congr 2;have h2:(l1.eraseIdx i).any (λz=>decide (y=z))=decide (y∈l1/\y≠x):=by rw[Bool.eq_iff_iff,List.any_eq_true,decide_eq_true_iff,<-hlp];constructor<;>grind
    rw[h2];by_cases c:y=x
    .subst c;unfold DQ;simp
    .simp[c]
   exact⟨_,v',rfl,by rw[<-hv,ev],hs⟩
  |false=>
   rw[hg,Bool.not_false,ax,aL] at hv;rw[A9];obtain⟨v',ev,hs⟩:=key [b.2.2] (C4 a.2 x true) aC (by grind) λq y hq=>by
    rw[BA,f];by_cases c:y=x
    .subst c;have:q=p:=JX w.nd hq hp;rw[Bx rfl,this];simp[A7]
    .have:¬((q:Int)=(p:Int)):=λe=>c (by have:q=p:=aa;grind)
     rw[BB c];simp[this]
   exact⟨_,v',rfl,by rw[<-hv,ev],hs⟩
 .rw[h0,show decide (ah ([]:AH)=0)=true from rfl,ax];unfold tw at hv;rw[hb,show decide ((0:Int)≤-1)=false from rfl,A9] at hv;exact⟨_,_,rfl,hv.symm,h.lr⟩
include P
theorem AeK(hrm:∀x∈row,x∈g.IDs):(M0 (BW g m N) row).Nodup/\(M0 (BW g m N) row).length<=12:=by have h1:(M0 (BW g m N) row).Nodup:=AcR .nil;refine⟨h1,Alw h1 ?_⟩;refine AaZ (Q:=λd=>1<=d/\d<=12) (λx hx d hd=>?_) (by grind);obtain⟨i,hi⟩:=EO (hrm x hx);have:=(cr hi).1;obtain⟨o,ho,so,a⟩:=P.w.op (i:=i) (by have:=P.w.nI;omega);rw[(P.op ho hi).2] at hd;exact AaY a hd
theorem AeL(hi:C5 g ids)(ho:n8 g ids=some row)(hrn:row.Nodup)(hr:row.length<=1000)(hrm:∀x∈row,x∈g.IDs)(hv:vJ ids=some vs)(b:vs.length<=1000)(hvm:∀x∈vs,x∈g.IDs):T (oR g ids) λc=>∃v,AbH (BW g m N) (Sh ⟨g.Cards,m,N⟩ row vs) (OR g.Cards (M0 (BW g m N) row))=some v/\Lr g c (wV (Sh ⟨g.Cards,m,N⟩ row vs) v):=by
 unfold oR;refine .bind ((Aly P hi ho hrn hr hrm hv b hvm).mono λv1 ⟨hL,hD⟩=>?_);rw[Aa0 P ho hr hrm,aL];obtain⟨s1,s2⟩:=AeK P hrm;have hR:RDb g (BW g m N) v1 (Sh ⟨g.Cards,m,N⟩ row vs) (row.filter (λx=> !!Hk ((BW g m N).o x).Kind),(Sh ⟨g.Cards,m,N⟩ row vs).void) v1.Void v1.Decided:=⟨hL,List.filter_sublist,(by grind),λp x hp hx hk _=>by have hpl:=(cr hp).1;have hm:x∈row.filter (λx=> !!Hk ((BW g m N).o x).Kind):=HE.2 ⟨hx,by rw[hk];rfl⟩;grind [Lr]⟩
 obtain⟨nx,e3,_⟩:=nxE P s1 s2 hR;rw[show vL g v1 (M0 (BW g m N) row)=some nx from e3,aL];obtain⟨v,r,h1,h2,h3⟩:=Aa1 (s1:=Aeq (BW g m N) (Sh ⟨g.Cards,m,N⟩ row vs) (OR g.Cards (M0 (BW g m N) row))) (s2:=tw g v1 (M0 (BW g m N) row)) (RDc g (BW g m N) v1 (Sh ⟨g.Cards,m,N⟩ row vs) (M0 (BW g m N) row)) (λ(v:FM Ab Bool) (r:List Bool×List Bool)=>Lr g {v1 with Void:=r.1,Decided:=r.2} (wV (Sh ⟨g.Cards,m,N⟩ row vs) v)) (λa=>a.1.length) (by grind [AlB]) FU _ (v1.Void,v1.Decided,nx) (by grind [FU]) ⟨hR,e3⟩;rw[show AQ (tw g v1 (M0 (BW g m N) row)) (v1.Void,v1.Decided,nx)=some r from h2,aL];exact .some ⟨v,h1,h3⟩
theorem AlC(hi:EF g l)(hl:l.length<=1000)(hnd:(Jd g l).Nodup):T (AQ (tQ g l) (⟨g.Cards,[],[],[],0,[]⟩,0)) λD=>Rr (MZ (BW g m N) (Jd g l)) D/\Bf (MZ (BW g m N) (Jd g l))/\RkS g 1000 D:=by
 have w:=P.w;have nI:=w.nI;obtain⟨b,e0,c⟩:=Alv (P.new);have hD0:b=⟨g.Cards,[],[],[],0,[]⟩:=(Bh e0).symm;subst hD0;refine T.forA l.length (λj D=>(Rr (((Jd g l).take j).foldl (JV (BW g m N)) (Ha g.Cards)) D/\Bf (((Jd g l).take j).foldl (JV (BW g m N)) (Ha g.Cards))/\Gs (((Jd g l).take j).foldl (JV (BW g m N)) (Ha g.Cards)) ((Jd g l).take j))/\RkS g j D) aa ⟨⟨c,K4 P.cd.r,λq z g h=>by cases h⟩,Mv g⟩ (λj D hj hr=>?_) λD hr=>?_
 .obtain⟨y,hy,hm⟩:=dk hj;obtain⟨i,x,rfl,hil,hx,a⟩:=Pr w hi hy;obtain⟨o,ho,so,k⟩:=w.op hil;obtain⟨⟨h1,h2,h3⟩,h4⟩:=hr;have hod:=P.od i o x ho hx;have d:=(P.op ho hx).2;have et:((Jd g l).take (j+1)).foldl (JV (BW g m N)) (Ha g.Cards)=Sd (((Jd g l).take j).foldl (JV (BW g m N)) (Ha g.Cards)) o x:=by rw[Rb a,LF,List.foldl_cons,List.foldl_nil];grind [JV]
  have hxS:x∉(Jd g l).take j:=by grind [EO,JX]
  rw[et,Rb a];generalize ((Jd g l).take j).foldl (JV (BW g m N)) (Ha g.Cards)=R at h1 h2 h3⊢;unfold tQ;simp only[eA hj,ax,au,hy,ho,hx,aL];have z:=Vm P h4 aa h1 h2;exact .bind ((doE z h1 h2 λ_ q z f k1 k2 e=>by have:=h3 q z f k1 k2;grind).mono λv hv=> .some (by constructor<;>grind [aq,PR,AiL,RkS,Gv]))
 .unfold tQ;dsimp only;rw[eF,A9];have hl2:(Jd g l).length=l.length:=Hm ..;rw[<-hl2,D5] at hr;exact .some ⟨hr.1.1,hr.1.2.1,hr.2.up aa⟩
theorem Anu{ids row vs:AH}(hi:C5 g ids)(ho:n8 g ids=some row)(hrn:row.Nodup)(hr:row.length<=1000)(hrm:∀x∈row,x∈g.IDs)(hv:vJ ids=some vs)(a:vs.length<=1000)(hvm:∀x∈vs,x∈g.IDs):T (zY g ids) λD=>∃cs,Yb (BW g m N) (Sh ⟨g.Cards,m,N⟩ row vs) (M0 (BW g m N) row)=some cs/\cs.Sublist row/\Rr (MZ (BW g m N) cs) D/\Bf (MZ (BW g m N) cs)/\RkS g 1000 D:=by
 unfold zY AV;rw[aL];refine .bind ((AeL P hi ho hrn hr hrm hv a hvm).mono λe hdl=>?_);obtain⟨v,h1,h2⟩:=hdl;refine .bind ((AiM P h2).mono λr b=>?_);obtain⟨g1,g2,d,c⟩:=b;have hcs:Yb (BW g m N) (Sh ⟨g.Cards,m,N⟩ row vs) (M0 (BW g m N) row)=some (Jd g r):=by unfold Yb;rw[show(BW g m N).cards=g.Cards from rfl,h1,d];rfl
 refine .bind ((AlC P g1 g2 (hrn.sublist c)).mono λD hD=> .some ⟨Jd g r,hcs,c,hD⟩)
end
theorem Ag3{D:C7}(z:Sz D)(h:Rr R D)(hR:Bf R):lu D=some (D3 R):=by
 obtain⟨a,b,_⟩:=IK hR;unfold lu;refine T.eq (.bind ((ZL z.i).mono λv hv=> .some ?_));refine Su (hv.1.trans (List.Perm.trans ?_ b.symm)) hv.2 a;refine(List.perm_ext_iff_of_nodup (List.nodup_append.1 h.nd).1 hR.ci.kd).2 λe=>?_;have hi:=h.in_ e;constructor
 .grind [Ge]
 .intro he;obtain⟨q,hq,rfl⟩:=E7.1 he;have hg:=JJ hR.ci (k:=q.1) (v:=q.2.1) (n:=q.2.2) hq;grind
theorem Ut:fg prog 96=some true:=aH
theorem NN:Acc prog gl Bu (λx=>[.agg (Bu x)]) 214:=λs f fi_f fa_f fc_f a=>
 cy func214 λK=>Pa 1101 (λg=>sg [] []) (λs1=>sf [] [(7,iG (ah s)),(8,iG s1)]) [hc (a.im)] K (λg=>rv K) λs1 k5 h k6=>aF 9 (CD 14 Bk.ixZ 15 (Bk.ptZ Hw) λd=>ak λi e=>kV (λb=>aw [hz 16 [] (cS (a.cs (c:=0) e (aY (aG 20 (.agg (Bu d)) aH) (bf))) b)]<|aP c3 k6 []) λb=>aw [hz 16 [] (cS (a.cs (c:=0) e (aY (aG 20 (.agg (Bu d)) aH) (bf))) b)]<|cj k5 [hc (a.im)])<|aA c2 h []
theorem MH:Acd prog gl Bu (λx=>[.agg (Bu x)]) 125:=λs f fi_f fa_f fc_f a=>
 cy func125 λK=>ak λv1 e2=>aw [hz 7 [] (jf (c:=0) aH (NN gl (a) e2) (aY (aG 20 (aE Bu s) aH) (aY (a.im) (bf))))]<|rv K
def JG(f:Bg)(a1:Bi):Fw:=
 (bif f.Device=a1.By then(some (decide (f.Seq<=a1.Seq)))else(some false)).bind λa=>some a
theorem UA{f a1}:DC prog gl (JG f a1) 127 [.agg (Bu f),.ptr (aJ a1) 0] bG:=
 cy func127 λK=>cN [1,0] (so [0] [(2,.ref 0 0)] [ob 0 186 (Bu f)] 1) []<|cC [1,0] (λa=>sk [] [(3,bG a)] [] 0) (λa=>rv K) λa k3=>aF 8 (rx k3)<|rx k3
def Aae(a:Ad)(device:Int):Fw:=
 some (Hi (a.in_.get device))
theorem UB{r_ device}:DC prog gl (Aae r_ device) 131 [.ptr (CB r_) 0,iG device] bG:=
 cy func131 λK=>aw [hm 10 (SA r_.in_ device)]<|rv K
def SM(d:Int)(a1:Bj):Fw:=
 (Ace a1 d).bind λv1=>some (!v1)
theorem UC{d a1}:DC prog gl (SM d a1) 132 [iG d,.ptr [aE cZ a1] 0] bG:=
 cy func132 λK=>BU 6 (DL gl) λv1=>rv K
section
variable {gl:CC}
abbrev InV(gl:CC)(fi:FuncId)(fa fc:Bo)(p:Int->Bool):Prop:=R3 prog gl fi fa fc (λx:Int=>[iG x]) (λx:Bool=>bG x) (λk=>some (p k))
theorem Adf{p:Int->Bool}(hv:InV gl fi fa fc p){l:Bj}(hn:l.length<=1000000):iV prog gl 129 [aE cZ l,.clo (.func fi) fa fc] 3 (l.filter p).length ((l.filter p).flatMap cZ):=by
 refine OW func129 ?_;refine pN (λk:Nat=>(s0 23 gl [(1,.clo (.func fi) fa fc),(5,.rsl 0 0 ((l.take k).filter p).length),(8,aE cZ l),(9,iG (ah l)),(10,iG (k:Int))] [(0,JI ((l.take k).filter p))] 1 0)) 1110122 (Aat (n:=l.length) aa) [] [hc hv.im,hc (rZ.imm [])] (λB k w hs k5 a=>?_) [3] [(0,0)] [(0,.row)];unfold Aeg at hs;split at hs
 .rename_i hlt;obtain rfl:=Bh hs;obtain⟨x,hx⟩:∃x,l[k]?=some x:=⟨_,EA hlt⟩;have hz:=Bq hx;have k5:=k5 _ rfl;have hl:((l.take k).filter p).length<=k:=M1 (Nr _ _) (by rw[Ns];omega);rw[Hv,hx,Option.toList_some,O8] at k5;generalize (l.take k).filter p=q at k5 hl⊢;have hcs:=hv.cs (c:=1) (x:=x) rfl (aY (aG 20 (iG x) aH) bf);cases hp:p x with
  |true=>rw[hp] at hcs;rw[List.filter_cons_of_pos hp,List.filter_nil] at k5;exact jw [hr 11 (Dk hx),AA 12 (rZ.ixZ hz),AA 13 (rZ.p1Z tZ hz),Go.Proofs.YtlimmeehdfbheaaGreatDoor.hz 16 [] hcs,Tn 20 rZ 8 q x aa,hbb 21 (Xl (q:=k) aa)] [hc hv.im,hc (el (q++[x])),hc (rZ.imm (q++[x]))] k5 [] [(0,2)] [(0,.row)]
  |false=>rw[hp] at hcs;rw[List.filter_cons_of_neg (by simp[hp]),List.filter_nil,LK] at k5;exact jw [hr 11 (Dk hx),AA 12 (rZ.ixZ hz),AA 13 (rZ.p1Z tZ hz),Go.Proofs.YtlimmeehdfbheaaGreatDoor.hz 16 [] hcs,hbb 21 (Xl (q:=k) aa)] [hc hv.im,hc (el q),hc (rZ.imm q)] k5 [] [(0,0)] [(0,.row)]
 .split at hs
  .rename_i he;subst he;rw[D5];exact EI [hr 11 (Fe (s:=l))] (rZ.imm (l.filter p))
  .cases hs
end
def US(p:Nat->Bool)(N:Hl):AH:=(N.zipIdx.filter λq=>p q.2).map (·.1.id)
theorem AfB{p:Nat->Bool}{x:BX}(h:N[k]?=some x):US p (N.take (k+1))=US p (N.take k)++bif p k then[x.id] else[]:=by grind [US,Hv]
theorem Adg{p:Nat->Bool}:(US p N).length<=N.length:=by grind [US,List.length_zipIdx]
section
variable {gl:CC}
theorem AhE(a b:Ab):ba prog gl 121 [.agg (aj a),.agg (aj b)] (iG (Gu a b)):=by
 have h1:=Tm (gl:=gl) a b;have h2:=Tm (gl:=gl) b a;unfold Gu;refine Gh func121 ?_;cases c1:dt a b with
 |true=>rw[c1] at h1;exact Ar [hf 8 h1] []
 |false=>
  rw[c1] at h1;cases c2:dt b a with
  |true=>rw[c2] at h2;exact Ar [hf 8 h1,hf 12 h2] []
  |false=>rw[c2] at h2;exact Ar [hf 8 h1,hf 12 h2] []
theorem AjY:CmV gl 121 [] [] Gu:=⟨aH,bf,bf,(by grind [AhE])⟩
abbrev NmV(gl:CC)(fi:FuncId)(fa fc:Bo)(p:Nat->Bool):Prop:=R3 prog gl fi fa fc (λx:Nat=>[iG (x:Int)]) (λx:Bool=>bG x) (λk=>bif k<200 then some (p k)else none)
theorem Abm(hn:gg.nodes.length<=15){p:Nat->Bool}{fi:FuncId}{fa fc:Bo}(hv:NmV gl fi fa fc p)(h:Pm Gu (US p gg.nodes)=some r)(hle:r.length=(US p gg.nodes).length):iV prog gl 52 [.ptr (Ag gg) 0,.clo (.func fi) fa fc] 42 r.length (r.flatMap aj):=by
 rw[hle];refine OW func52 ?_;refine dLl (l:=gg.nodes) aa (λk:Nat=>(s0 30 gl [(1,.clo (.func fi) fa fc),(5,.rsl 0 0 (US p (gg.nodes.take k)).length),(11,aE d7 gg.nodes),(12,iG (ah gg.nodes)),(13,iG (k:Int))] [(0,Bt (US p (gg.nodes.take k)))] 1 0)) 1110122 [] [hc hv.im,hc (ac.imm [])] (λB k x hx hz k5=>?_) (λB=>?_)
 .have hlt:=(cr hx).1;have hl:(US p (gg.nodes.take k)).length<=k:=by grind [Adg]
  rw[AfB hx] at k5;generalize US p (gg.nodes.take k)=l at k5 hl⊢;have hcs:=hv.cs (c:=2) (x:=k) (by rw[CM (by grind)];rfl) (aY (aG 20 (iG (k:Int)) aH) bf);cases hp:p k with
  |true=>rw[hp] at k5 hcs;exact jw [hr 14 (Dk hx),AA 16 (az.ixZ hz),AA 17 (az.ptZ Ut hz),Go.Proofs.YtlimmeehdfbheaaGreatDoor.hz 20 [] hcs,Tn 25 ac 24 l x.id aa,hbb 26 (Xl (q:=k) aa)] [hc hv.im,hc (el (l++[x.id])),hc (ac.imm (l++[x.id]))] k5
  |false=>rw[hp] at k5 hcs;rw[A9,LK] at k5;exact jw [hr 14 (Dk hx),AA 16 (az.ixZ hz),AA 17 (az.ptZ Ut hz),Go.Proofs.YtlimmeehdfbheaaGreatDoor.hz 20 [] hcs,hbb 26 (Xl (q:=k) aa)] [hc hv.im,hc (el l),hc (ac.imm l)] k5
 .rw[D5];exact EI [hr 14 (Fe (s:=gg.nodes)),hso (gl:=gl) 28 1 AjY (M1 Adg hn) h] (ac.imm r)
theorem AhF(k:Nat):ba prog gl 53 [iG (k:Int)] (bG true):=by refine Gh func53 ?_;exact Ar [] []
theorem AhG{gg:Aj}(hn:gg.nodes.length<=15)(h:Pm Gu (US (λ_=>true) gg.nodes)=some r)(hle:r.length=(US (λ_=>true) gg.nodes).length):ba prog gl 17 [.ptr (Ag gg) 0] (aE aj r):=by have hN:=(Abm (gl:=gl) hn (fi:=53) (fa:=[]) (fc:=[]) ⟨aH,bf,bf,(by grind [AhF])⟩ h hle).fn ac.sz (ac.len _) (ac.imm _);refine Gh func17 ?_;exact Ar [hf 4 hN] []
def R6(gg:Aj)(l:AH):O0:=l.foldl (λs x=>match MY gg x with|some y=>Q6 s y.past|none=>s) z4
theorem AfC(hg:Ug gg)(hn:ids.length<=1000000):ba prog gl 296 [.ptr (Ag gg) 0,aE aj ids] (.agg (FSq (R6 gg ids))):=by
 refine Gh func296 ?_;refine dLl (l:=ids) aa (λk:Nat=>(s0 37 gl [(0,.ptr (Ag gg) 0),(4,.ref 0 0),(5,.ref 1 0),(10,aE aj ids),(11,iG (ah ids)),(12,iG (k:Int))] [(0,oA z4),(1,oA (R6 gg (ids.take k)))] 2 0)) 1110122 [] [] (λB k x hx hz k5=>?_) (λB=>?_) [] [(0,0),(1,1)] []
 .have hlt:=(cr hx).1;have e:R6 gg (ids.take (k+1))=match MY gg x with|some y=>Q6 (R6 gg (ids.take k)) y.past|none=>R6 gg (ids.take k):=by unfold R6;rw[Hv,hx,Option.toList_some,LF];rfl
  rw[e] at k5;generalize R6 gg (ids.take k)=s at k5⊢;have hk:=H7 gg.at_ x;cases em:gg.at_.get x with
  |none=>rw[em] at hk;rw[WY em] at k5;exact jw [hr 13 (Dk hx),AA 14 (ac.ixZ hz),AA 15 (ac.ptZ aW hz),hm 22 hk,hbb 35 (Xl (q:=k) aa)] [] k5 [] [(0,0),(1,1)] []
  |some n=>rw[em] at hk;obtain⟨j,y,rfl,hy,e2,_⟩:=Uh hg em;rw[e2] at k5;exact jw [hr 13 (Dk hx),AA 14 (ac.ixZ hz),AA 15 (ac.ptZ aW hz),hm 22 hk,AA 31 (az.ixZ hy),AA 33 (az.fsZ aap aaq 30 Cd hy),tN 34 [1] 3 [(1,oA s)] [.ref 1 0,.agg (FSq y.past)] [(0,oA (Q6 s y.past))] (TX gl s y.past) ⟨⟨rfl,.inl rfl⟩,trivial⟩ ⟨⟨rfl,.inl rfl⟩,trivial⟩,hbb 35 (Xl (q:=k) aa)] [] k5 [] [(0,0),(1,1)] []
 .rw[D5];exact Ar [hr 13 (Fe (s:=ids))] []
theorem AhH(s:O0)(hn:n<256):ba prog gl 48 [.ptr (FSq s) 0,iG (n:Int)] (bG (gW s n)):=by
 have h:=Xa (s:=s) hn;generalize gW s n=r at h⊢;have hm:u9 (n:Int) 64=some ((n%64:Nat):Int):=by grind [u9]
 have hcn:wJ ((n%64:Nat):Int)=some (n%64):=by grind [wJ]
 have hq:∀q:Nat,n/64=q->Gg (n:Int) 64=some (q:Int):=by grind [Gg,Mx]
 have hd:wI (Int.tdiv (n:Int) 64)=((n/64:Nat):Int):=by grind [bM]
 have ht:Int.tmod (n:Int) 64=((n%64:Nat):Int):=by grind
 unfold iX at h;rw[hd,ht,hcn] at h;refine Gh func48 ?_;have h4:n/64=0\/n/64=1\/n/64=2\/n/64=3:=aa;rcases h4 with e|e|e|e
 .rw[e] at h;obtain rfl:=Bh h;exact Ar [hbb 7 (Tt (hq 0 e)),hbb 12 (KO hm),hV 13 (Am (P:=prog) (t:=40) s.a0 hcn),hV 14 (ju (P:=prog) (t:=40) (JB s.a0 (n%64)) 1)] []
 .rw[e] at h;obtain rfl:=Bh h;exact Ar [hbb 7 (Tt (hq 1 e)),hbb 12 (KO hm),hV 13 (Am (P:=prog) (t:=40) s.a1 hcn),hV 14 (ju (P:=prog) (t:=40) (JB s.a1 (n%64)) 1)] []
 .rw[e] at h;obtain rfl:=Bh h;exact Ar [hbb 7 (Tt (hq 2 e)),hbb 12 (KO hm),hV 13 (Am (P:=prog) (t:=40) s.a2 hcn),hV 14 (ju (P:=prog) (t:=40) (JB s.a2 (n%64)) 1)] []
 .rw[e] at h;obtain rfl:=Bh h;exact Ar [hbb 7 (Tt (hq 3 e)),hbb 12 (KO hm),hV 13 (Am (P:=prog) (t:=40) s.a3 hcn),hV 14 (ju (P:=prog) (t:=40) (JB s.a3 (n%64)) 1)] []
theorem AhI(s:O0):NmV gl 48 [.ptr (FSq s) 0] [] (gW s):=⟨aH,aY (aG 20 _ aH) bf,bf,(by grind [AhH])⟩
theorem AhJ(hg:Ug gg)(hn:gg.nodes.length<=15){ids r:AH}(hi:ids.length<=1000000)(h:Pm Gu (US (gW (R6 gg ids)) gg.nodes)=some r)(hle:r.length=(US (gW (R6 gg ids)) gg.nodes).length):iV prog gl 212 [.ptr (Ag gg) 0,aE aj ids] 42 r.length (r.flatMap aj):=by refine OW func212 ?_;exact EI [hf 8 (AfC (gl:=gl) hg hi),ho 11 [.ptr (Ag gg) 0,.clo (.func 48) [.ptr (FSq (R6 gg ids)) 0] []] [] (Abm (gl:=gl) hn (AhI _) h hle) (kF r)] (ac.imm r)
theorem AfD{l:AH}{x:Ab}{i c:Nat}(hn:l.length<=100000):oJ prog gl 152 [.rsl i 0 l.length,.agg (aj x)] [(i,Bt l)] c (bG (l.any λy=>decide (x=y))) [] c:=
 OP aH (Jo gl (Uv aa x)) (lR _) rfl λst h j y z h1 h2=>by
  match j with
  |0=>grind [AaA]
  |1=>cases h1;cases h2;exact jB (aG 20 (.agg (aj x)) aH)
  |j+2=>cases h1
def LA(I:Gi)(p l:AH):AH:=l.foldl (λr x=>bif 0<I.lev x then bif r.any λy=>decide (x=y)then r else r++[x]else r) p
theorem Abn{I:Gi}:∀{l p:AH},(LA I p l).length<=p.length+l.length
 |[],p=>C6 _
 |x::l,p=>by have a:LA I p (x::l)=LA I (bif 0<I.lev x then bif p.any λy=>decide (x=y)then p else p++[x]else p) l:=rfl;rw[a];refine M1 Abn ?_;grind
theorem AfE(h:Sf gl gg I){p:AH}(hp:iV prog gl 212 [.ptr (Ag gg) 0,aE aj o.Past] 42 p.length (p.flatMap aj))(hn:p.length+o.Past.length<=100000):iV prog gl 124 [.ptr (Ag gg) 0,.agg (aJ o)] 42 (LA I p o.Past).length ((LA I p o.Past).flatMap aj):=by
 refine OW func124 ?_;refine dLl (l:=o.Past) aa (λk:Nat=>(s0 35 gl [(0,.ptr (Ag gg) 0),(5,.rsl 0 0 (LA I p (o.Past.take k)).length),(13,aE aj o.Past),(14,iG (ah o.Past)),(15,iG (k:Int))] [(0,Bt (LA I p (o.Past.take k)))] 1 0)) 1110122 [ho 11 [.ptr (Ag gg) 0,aE aj o.Past] [] hp (kF p)] [hc (el p),hc (ac.imm p)] (λB k x hx hz k5=>?_) (λB=>?_)
 .have hlt:=(cr hx).1;have hl:(LA I p (o.Past.take k)).length<=100000:=by grind [Abn]
  have e:LA I p (o.Past.take (k+1))=bif 0<I.lev x then bif(LA I p (o.Past.take k)).any λy=>decide (x=y)then LA I p (o.Past.take k)else LA I p (o.Past.take k)++[x]else LA I p (o.Past.take k):=by grind [LA,Hv,Option.toList_some]
  rw[e] at k5;generalize LA I p (o.Past.take k)=l at k5 hl⊢;have b:=h.lev x;cases c1:decide (0<I.lev x) with
  |false=>rw[c1] at k5;exact jw [hr 16 (Dk hx),AA 17 (ac.ixZ hz),AA 18 (ac.ptZ aW hz),hf 21 b,hr 22 c1,hbb 33 (Xl (q:=k) aa)] [hc (el l),hc (ac.imm l)] k5
  |true=>
   rw[c1] at k5;have a:=AfD (gl:=gl) (l:=l) (x:=x) (i:=0) (c:=2) hl;cases c2:(l.any λy=>decide (x=y)) with
   |true=>rw[c2] at k5 a;exact jw [hr 16 (Dk hx),AA 17 (ac.ixZ hz),AA 18 (ac.ptZ aW hz),hf 21 b,hr 22 c1,Go.Proofs.YtlimmeehdfbheaaGreatDoor.hz 26 [0] a,hbb 33 (Xl (q:=k) aa)] [hc (el l),hc (ac.imm l)] k5
   |false=>rw[c2] at k5 a;exact jw [hr 16 (Dk hx),AA 17 (ac.ixZ hz),AA 18 (ac.ptZ aW hz),hf 21 b,hr 22 c1,Go.Proofs.YtlimmeehdfbheaaGreatDoor.hz 26 [0] a,Tn 32 ac 24 l x aa,hbb 33 (Xl (q:=k) aa)] [hc (el (l++[x])),hc (ac.imm (l++[x]))] k5
 .rw[D5];exact EI [hr 16 (Fe (s:=o.Past))] (ac.imm (LA I p o.Past))
end
abbrev haS(R:Ad)(sen:Bj):Bj:=sen.filter (Pl R)
abbrev Abo(l:Bj)(d:Int):Bool:= !(l.any λy=>decide (d=y))
def UD(fk:Bool)(R:Ad)(o:Bi)(i:Ab)(sen:Bj):Bj:=bif fk then[]else bif Re R o≠0 then[]else haS (Sd R o i) sen++(D3 (Sd R o i)).filter (Abo (haS (Sd R o i) sen))
theorem AhK(gl:CC)(R:Ad):InV gl 131 [.ptr (CB R) 0] [] (Pl R):=⟨aH,aY (aG 20 (.ptr (CB R) 0) aH) bf,bf,λk r e=>by cases e;exact UB gl rfl⟩
theorem AhL(gl:CC){l:Bj}(hl:l.length<=1000000):InV gl 132 [] [.ptr [aE cZ l] 0] (Abo l):=⟨aH,bf,aY (aG 20 (.ptr [aE cZ l] 0) aH) bf,λk r e=>by cases e;exact UC gl (by grind [SM,Uv])⟩
theorem Ack{gl:CC}(hR:Bf R){l:Bj}(hl:l.length<=1000000){f:Nat->Nat}{c:Nat}(hnd:(Xh f).Nodup):oJ prog gl 129 [aE cZ l,.clo (.func 131) [.ref (f 0) 0] []] (Bz f R) c (.rsl c 0 (haS R l).length) [(c,some ⟨3,(haS R l).flatMap cZ,none⟩)] (c+1):=
 AdG aH (Adf (AhK gl R) hl) (lZ _) rfl λst h i x y h1 h2=>by
  have hs:Rls f R st.σ:=λk ob ho=>h _ _ (by rw[G9,KS (by grind [Acq]) (List.mem_range.2 (DT ho))];exact ho)
  match i with
  |0=>cases h1;cases h2;exact jB (aG 20 (aE cZ l) aH)
  |1=>cases h1;cases h2;refine SX rfl rfl (λj g d a b=>?_) (by grind);grind [AfN]
  |i+2=>cases h1
section
variable {gg:Aj} {I:Gi} (h:Sf fI gg I) {o:Bi} {i:Ab} {s:AH} (hS:iV prog fI 124 [.ptr (Ag gg) 0,.agg (aJ o)] 42 s.length (s.flatMap aj)) {fr:List Bg} (hF:ba prog fI 126 [.ptr (Ag gg) 0,aE aj s] (aE Bu fr)) {fk:Bool} (hK:Abc fr (λf=>JG f o)=some fk) {R:Ad} (hR:Bf R) (hRl:R4 prog fI 6 [.ptr (Ag gg) 0,aE aj s] [] 0 0 (.ref 0 0) (Bz f0 R)) (hi:ba prog fI 42 [.agg (aJ o)] (.agg (aj i))) (hg:o.Guards.length<=1000000) (hp:Re R o=0->TB o i) {sen:Bj} (hN:ba prog fI 130 [.ptr (Ag gg) 0,aE aj s] (aE cZ sen)) (hn:sen.length<=1000)
include hS hF hK hR hRl hi hg hp hN hn
theorem AfF:iV prog fI 55 [.ptr (Ag gg) 0,.agg (aJ o)] 3 (UD fk R o i sen).length ((UD fk R o i sen).flatMap cZ):=by
 have a:=hS.fn ac.sz (ac.len _) (ac.imm _);have b:=MH fI (fi_f:=127) (fa_f:=[]) (fc_f:=[.ptr (aJ o) 0]) ⟨aH,bf,aY (aG 20 (.ptr (aJ o) 0) aH) bf,λf r e=>UA fI e⟩ hK;refine OW func55 ?_;unfold UD;cases fk with
 |true=>exact EI [hf 11 a,hf 14 hF,hq 16 [aE Bu fr,.clo (.func 127) [] [.ptr (aJ o) 0]] [] b] (rZ.imm [])
 |false=>
 rw[A9];have hM:=Agp hR (o:=o) (i:=i) hg;generalize Re R o=mm at hM hp⊢;cases cm:decide (mm≠0) with
 |true=>exact EI [hf 11 a,hf 14 hF,hq 16 [aE Bu fr,.clo (.func 127) [] [.ptr (aJ o) 0]] [] b,hrn 19 2 [.ptr (Ag gg) 0,aE aj s] hR hRl,hf 21 hi,hrr 25 (JN 2) 16 [.agg (aJ o),.agg (aj i)] hR hM,hr 26 cm] (rZ.imm [])
 |false=>
  rw[A9];have hp:=hp (Decidable.of_not_not (Np cm));have hD:=Adw fI hR hp;have hQ:=PR hR hp;generalize Sd R o i=Q at hD hQ⊢;have hdl:(D3 Q).length<=1000:=by grind [List.Perm.length_eq,IK,Hm,Bf.len]
  have hv:=MT fI hQ;have hl:(haS Q sen).length<=1000:=by grind
  have d:=Adf (AhL fI (l:=haS Q sen) aa) (l:=D3 Q) aa;have hap:aT 8 (haS Q sen) ((D3 Q).filter (Abo (haS Q sen)))=some (haS Q sen++(D3 Q).filter (Abo (haS Q sen))):=Bx (by grind);have g:=Ack (gl:=fI) hQ (l:=sen) aa (f:=f0) (c:=14) Cd;refine pO 1111110 (s0 43 fI [(0,.ptr (Ag gg) 0),(3,.ptr (aJ o) 0),(5,aE aj s),(6,.ref 0 0),(7,.ref 14 0)] (Bz f0 R++[(14,Xi i)]) 15 0) [hf 11 a,hf 14 hF,hq 16 [aE Bu fr,.clo (.func 127) [] [.ptr (aJ o) 0]] [] b,hrn 19 2 [.ptr (Ag gg) 0,aE aj s] hR hRl,hf 21 hi,hrr 25 (JN 2) 16 [.agg (aJ o),.agg (aj i)] hR hM,hr 26 cm] (hc (eB (gs:=aJ o) aH)::rlB (GI (JN 2)++[(14,1)]) (JN 2) hR) ?_ (ρ:=GI (JN 2)++[(14,1)]) (kd:=N7);refine pO 11111110 (s0 43 fI [(0,.ptr (Ag gg) 0),(5,aE aj s),(6,.ref 0 0)] (Bz f0 Q) 14 0) [Y4 30 f0 15 [.agg (aJ o),.agg (aj i)] hR hQ hD] (rlB (GI (fW f0 15)) (fW f0 15) hQ) ?_ (ρ:=GI (fW f0 15)) (kd:=N7);refine pO 111111110 (s0 43 fI [(6,.ref 0 0),(8,.ref 14 0)] (Bz f0 Q++[ob 14 22 [.rsl 15 0 (haS Q sen).length],(15,JI (haS Q sen))]) 16 0) [hf 33 hN,hz 36 (Xh f0) g] (rlB (GI f0++[(14,15),(15,14)]) f0 hQ++[hc (el (haS Q sen)),hc (rZ.imm (haS Q sen))]) ?_ (ρ:=GI f0++[(14,15),(15,14)]) (kd:=N7++[(15,.row)]);exact EI [hrr 39 f0 17 [] hQ hv,ho 41 [aE cZ (D3 Q),.clo (.func 132) [] [.ptr [aE cZ (haS Q sen)] 0]] [hc (rZ.al (haS Q sen))] d (lZ _),dg 42 rZ hap] (rZ.imm _)
end
section
section
variable {P:Br}
section
variable {ops:Array Oper} {K:St->Prop} {ty:Bn} {pos:String} {af:Array Edge} {rest:It} {n:Nat} {gl:CC} {fr:Fr} {σ:aQ} {c p d j:Nat} {bars:Bp} {rr:Bool}
theorem AlY{op:Op}{gq:Option (Nat×Bool)}(hw:ce ⟨n,gl,fr,σ,c,p,rr⟩ ops ⟨some d,op,ty,pos,af,gq⟩=some false)(hd:d<n)(h:D8 P ops K rest ⟨n,gl,(d,.lit undef)::fr,σ,c,p,rr⟩):D8 P ops K (⟨some d,op,ty,pos,af,gq⟩::rest) ⟨n,gl,fr,σ,c,p,rr⟩:=by unfold D8;exact .inr ⟨hw,(by grind),h⟩
end
end
section
variable {P:Br} {ops:Array Oper} {K:St->Prop} {op:Op} {ty:Bn} {pos:String} {af:Array Edge} {rest:It} {n:Nat} {gl:CC} {fr:Fr} {σ:aQ} {c p d j:Nat} {bars:Bp} {rr:Bool} {gq:Option (Nat×Bool)}
theorem zn(h:D8 P ops K rest ⟨n,gl,(d,.lit undef)::fr,σ,c,p,rr⟩)(hw:ce ⟨n,gl,fr,σ,c,p,rr⟩ ops ⟨some d,op,ty,pos,af,gq⟩=some false:=by kernel_rfl)(hd:d<n:=by decide):D8 P ops K (⟨some d,op,ty,pos,af,gq⟩::rest) ⟨n,gl,fr,σ,c,p,rr⟩:=AlY hw hd h
end
end
theorem AlZ:bw prog 50=some 27:=aH
theorem AfG(l:LP):∀g∈l.flatMap bv,∃v,g= .lit v:=by grind [bv]
section
def I4(g:Aj)(a:Ab):Option (Bi×Bool):=
 bif(!((g.at_.get a).isSome))then(some (⟨0,0,0,0,[],0,0,0,0,[],⟨0,0,0⟩,0,[],[],⟨0,0,0⟩,[],0,0,[],0,[],⟨0,0⟩⟩,false))else((aS g.nodes (FR (g.at_.get a))).bind λb=>(pG b.o).bind λe=>some (e,true))
theorem NP{g id_}:DC prog gl (I4 g id_) 28 [.ptr (Ag g) 0,.agg (aj id_)] (λr=> .tup [.agg (aJ r.1),bG r.2]):=
 cy func28 λK=>aw [hm 14 (H7 g.at_ id_)]<|aF 18 (rv K)<|CD 25 az.ixZ 27 (az.fsZ GN AlZ 0 Cd) λa=>BU 28 (Ds gl) λb=>rv K
def G8(g:Aj):Option LP:=
 (Ef g.cards).bind λv1=>some v1
theorem LC{g}:Mu prog gl (G8 g) 26 [.ptr (Ag g) 0] 103 bv:=
 gc func26 λK=>ak λv1 e2=>aw [ho 7 [aE bv g.cards] [] (tn gl e2) (AfG v1)]<|mr c0 K (bT.imm _)
end
theorem sP(a:Ab):dt a a=false:=by grind [ye]
theorem Uc{a b:Ab}(h1:dt a b=false)(h2:dt b a=false):a=b:=by
 have n1:¬dt a b=true:=by rw[h1];simp
 have n2:¬dt b a=true:=by rw[h2];simp
 rw[ye] at n1 n2;obtain⟨a1,a2,a3⟩:=a;obtain⟨b1,b2,b3⟩:=b;grind
theorem AfH(hn:gg.cards.length<=1000)(d:Int):hY gg d=some (((gg.cards.find? λc=>decide (c.Device=d)).getD WF),(gg.cards.find? λc=>decide (c.Device=d)).isSome):=by
 unfold hY;refine T.eq (.bind (T.forA gg.cards.length (λk acc=>∀(j:Nat) (c:DF),j<k->gg.cards[j]?=some c->c.Device≠d) aa (by grind) (λk acc hk hj=>?_) λacc hj=>?_))
 .obtain⟨x,hx⟩:∃x,gg.cards[k]?=some x:=⟨_,EA hk⟩;unfold ij;dsimp only;rw[eA hk,ax,au,hx,aL];refine .dec (λe=> .some (.some ?_)) λe=> .some ⟨aq aa,λj c' a b=>?_⟩
  .grind [List.find?_eq_some_iff_getElem]
  grind
 .unfold ij;dsimp only;rw[eF,A9];have hf:gg.cards.find? (λc=>decide (c.Device=d))=none:=by grind [EO]
  rw[hf];exact .some (.some rfl)
theorem AhM{i:Int}{x:BX}(hx:aS N i=some x)(hn:n<256){r:Bool}(h:iX x.past (n:Int)=some r):ba prog fI 48 [.ptr (N.flatMap d7) (i.toNat*35+30),iG (n:Int)] (bG r):=by
 have hm:u9 (n:Int) 64=some ((n%64:Nat):Int):=by grind [u9]
 have hcn:wJ ((n%64:Nat):Int)=some (n%64):=by grind [wJ]
 have hq:∀q:Nat,n/64=q->Gg (n:Int) 64=some (q:Int):=by grind [Gg,Mx]
 have hd:wI (Int.tdiv (n:Int) 64)=((n/64:Nat):Int):=by grind [bM]
 have ht:Int.tmod (n:Int) 64=((n%64:Nat):Int):=by rw[Int.tmod_eq_emod_of_nonneg aa];rfl
 unfold iX at h;rw[hd,ht,hcn] at h;refine Gh func48 ?_;have h4:n/64=0\/n/64=1\/n/64=2\/n/64=3:=aa;rcases h4 with e|e|e|e
 .rw[e] at h;obtain rfl:=Bh h;exact Ar [hbb 7 (Tt (hq 0 e)),AA 10 (az.fdZ tW 30 hx),hbb 12 (KO hm),hV 13 (Am (P:=prog) (t:=40) x.past.a0 hcn),hV 14 (ju (P:=prog) (t:=40) (JB x.past.a0 (n%64)) 1)] []
 .rw[e] at h;obtain rfl:=Bh h;exact Ar [hbb 7 (Tt (hq 1 e)),AA 10 (az.fdZ tW 31 hx),hbb 12 (KO hm),hV 13 (Am (P:=prog) (t:=40) x.past.a1 hcn),hV 14 (ju (P:=prog) (t:=40) (JB x.past.a1 (n%64)) 1)] []
 .rw[e] at h;obtain rfl:=Bh h;exact Ar [hbb 7 (Tt (hq 2 e)),AA 10 (az.fdZ tW 32 hx),hbb 12 (KO hm),hV 13 (Am (P:=prog) (t:=40) x.past.a2 hcn),hV 14 (ju (P:=prog) (t:=40) (JB x.past.a2 (n%64)) 1)] []
 .rw[e] at h;obtain rfl:=Bh h;exact Ar [hbb 7 (Tt (hq 3 e)),AA 10 (az.fdZ tW 33 hx),hbb 12 (KO hm),hV 13 (Am (P:=prog) (t:=40) x.past.a3 hcn),hV 14 (ju (P:=prog) (t:=40) (JB x.past.a3 (n%64)) 1)] []
theorem Wf(h:Ug gg):Sf fI gg (Rf gg) where
 op x:=by
  cases e:gg.at_.get x with
  |none=>
   have hr:I4 gg x=some ((Rf gg).o x,((Rf gg).op x).isSome):=by grind [I4,Gi.o,Rf,WY]
   exact NP fI hr
  |some n=>
   obtain⟨k,y,rfl,hz,hn,hk,hm⟩:=Uh h e;have hr:I4 gg x=some ((Rf gg).o x,((Rf gg).op x).isSome):=by grind [I4,Gi.o,Rf,FR,Option.isSome_some,Ug.cl]
   exact NP fI hr
 bef x y:=by
  refine Gh func118 ?_;refine pO [1,0] (s0 44 fI [(0,.ptr (Ag gg) 0),(4,.ref 0 0),(5,.ref 1 0)] [(0,Xi x),(1,Xi y)] 2 0) [] [] ?_ [] [(0,0),(1,1)];show Gp _ _ (tH _ _ (bG (Agw gg x y))) _ _ _ _;unfold Agw;have h1:=H7 gg.at_ x;have h2:=H7 gg.at_ y;unfold FR at h1 h2;cases e1:gg.at_.get x with
  |none=>rw[e1] at h1;exact Ar [hm 17 h1,hm 26 h2] []
  |some n=>
   rw[e1] at h1;cases e2:gg.at_.get y with
   |none=>rw[e2] at h2;rw[WY e2];exact Ar [hm 17 h1,hm 26 h2] []
   |some q=>rw[e2] at h2;obtain⟨k,b,rfl,hz,hn,hk,hmm⟩:=Uh h e2;obtain⟨j,a,rfl,_,_,hj,_⟩:=Uh h e1;rw[hn];exact Ar [hm 17 h1,hm 26 h2,AA 39 (az.ixZ hz),hf 42 (AhM hz hj (Xa hj))] []
 lev x:=by
  refine Iu fI ?_;unfold Fp FR;cases e:gg.at_.get x with
  |none=>show _=some (match MY gg x with|some y=>y.level|none=>0);rw[WY e];rfl
  |some n=>obtain⟨k,y,rfl,hz,hn,hk,hm⟩:=Uh h e;show _=some (match MY gg x with|some y=>y.level|none=>0);grind
 cards:=by
  have hr:G8 gg=some gg.cards:=by grind [G8,Ef,aT,Ug.nc]
  exact(LC fI hr).fn aH (bT.len _) (bT.imm _)
 card d:=uN fI (AfH h.nc d)
section
section
variable {g:AB} {m:Hj} {N:Hl}
theorem SN(w:Fv g)(p:ON g m N):Ug ⟨g.Cards,m,N⟩ where
 pos x n e:=by have e:m.get x=some n:=e;rw[p.get] at e;cases hk:bu x g.IDs<;>grind [AbF]
 cl y hy:=by grind [ON,EO,RM,Fv.ops]
 nc:=w.nC
end
end
section
theorem QM(a:Ab):¬Gu a a<0:=by grind [N6,sP]
theorem SO{a b:Ab}:M4 I a b<0↔I.lev a<I.lev b\/(I.lev a=I.lev b/\dt a b=true):=by grind [M4,N6,AbG]
theorem NQ(a:Ab):¬M4 I a a<0:=by grind [SO,sP]
theorem SP(I:Gi):OrN (M4 I) λ_=>True:=by grind [OrN,SO,dt,EX]
section
variable {gl:CC}
end
end
theorem Acl(hl:ids.length<=1000000)(d s:Int):z9 ids d s=some (Nf ids ⟨d,s⟩:Int):=by
 refine T.eq ?_;unfold z9;refine .bind ((T.forA ids.length (λk n=>n=(Nf (ids.take k) ⟨d,s⟩:Int)) aa rfl (λk n hk hn=>?_) λn hn=>?_).mono (Q:=λn:Int=>n=(Nf ids ⟨d,s⟩:Int)) λn hn=> .some hn)
 .obtain⟨y,hy,_⟩:=dk hk;unfold uf;simp only[eA hk,ax,au,hy,aL];have h1:=Lq (ids.take k) y ⟨d,s⟩;have h2:=AgR (ids.take k) ⟨d,s⟩;rw[Ns] at h2;rw[<-Rb hy] at h1;simp only[Bg.mk.injEq] at h1;have yes:y.By=d->y.Seq=s->wI (n+1)=(Nf (ids.take (k+1)) ⟨d,s⟩:Int):=by grind [bM]
  have no:¬(y.By=d/\y.Seq=s)->n=(Nf (ids.take (k+1)) ⟨d,s⟩:Int):=by grind
  by_cases c1:y.By=d
  .by_cases c2:y.Seq=s
   .simp only[c1,c2,decide_true,ax,aL];exact .some ⟨aq aa,yes c1 c2⟩
   .simp only[c1,c2,decide_true,decide_false,ax,A9,aL];exact .some ⟨aq aa,no λc=>c2 c.2⟩
  .simp only[c1,decide_false,A9,aL];exact .some ⟨aq aa,no λc=>c1 c.1⟩
 .unfold uf;dsimp only;rw[eF,A9];refine .some (show n=_ from ?_);rw[hn,D5]
def FsI(ids p:AH)(d v:Int):Prop:=(v=0/\∀y∈p,y.By=d->¬2<=Nf ids ⟨d,y.Seq⟩)\/(∃y∈p,y.By=d/\y.Seq=v/\2<=Nf ids ⟨d,v⟩/\∀z∈p,z.By=d->2<=Nf ids ⟨d,z.Seq⟩->v<=z.Seq)
theorem PL{ids:AH}(hl:ids.length<=1000000)(hs:∀x∈ids,1<=x.Seq)(d:Int):T (qN ids d) (FsI ids ids d):=by
 unfold qN;refine .bind ((T.forA ids.length (λk v=>FsI ids (ids.take k) d v) aa (.inl ⟨rfl,λy hy=>by cases hy⟩) (λk v hk hv=>?_) λv hv=>?_).mono (Q:=FsI ids ids d) λv hv=> .some hv)
 .obtain⟨y,hy,hm⟩:=dk hk;unfold qM;simp only[eA hk,ax,au,hy,aL,Acl hl];have a:=hs y hm;have keep:(y.By=d->2<=Nf ids ⟨d,y.Seq⟩->v≠0/\v<=y.Seq)->FsI ids (ids.take (k+1)) d v:=λh=>by
   rw[Rb hy];rcases hv with⟨h1,h2⟩|⟨z,h1,h2,h3,h4,h5⟩
   .refine .inl ⟨h1,λz hz hb hc=>?_⟩;rcases Hp.1 hz with hz|hz
    .exact h2 z hz hb hc
    .simp at hz;subst hz;exact(h hb hc).1 h1
   .refine .inr ⟨z,by simp[h1],h2,h3,h4,λw hw hb hc=>?_⟩;rcases Hp.1 hw with hw|hw
    .exact h5 w hw hb hc
    .simp at hw;subst hw;exact(h hb hc).2
  have new:y.By=d->2<=Nf ids ⟨d,y.Seq⟩->(v=0\/y.Seq<v)->FsI ids (ids.take (k+1)) d y.Seq:=λhb hc h=>by
   rw[Rb hy];refine .inr ⟨y,aC,hb,rfl,hc,λw hw hb' b=>?_⟩;rcases Hp.1 hw with hw|hw
   .rcases hv with⟨h1,h2⟩|⟨z,h1,h2,h3,h4,h5⟩
    all_goals grind
   grind
  by_cases c1:y.By=d
  .by_cases c2:2<=Nf ids ⟨d,y.Seq⟩
   .have c2':(1:Int)<(Nf ids ⟨d,y.Seq⟩:Int):=aa;by_cases c3:v=0
    .simp only[c1,c2',c3,decide_true,ax,aL];exact .some ⟨aq aa,new c1 c2 (.inl c3)⟩
    .by_cases c4:y.Seq<v
     .simp only[c1,c2',c3,c4,decide_true,decide_false,ax,A9,aL];exact .some ⟨aq aa,new c1 c2 (.inr c4)⟩
     .simp only[c1,c2',c3,c4,decide_true,decide_false,ax,A9,aL];exact .some ⟨aq aa,keep λ_ _=>⟨c3,aa⟩⟩
   .have c2':¬(1:Int)<(Nf ids ⟨d,y.Seq⟩:Int):=aa;simp only[c1,c2',decide_true,decide_false,ax,A9,aL];exact .some ⟨aq aa,keep λ_ h=>absurd h c2⟩
  .simp only[c1,decide_false,A9,aL];exact .some ⟨aq aa,keep λh=>absurd h c1⟩
 .unfold qM;dsimp only;rw[eF,A9];rw[D5] at hv;exact .some hv
theorem Ad5(hs:∀x∈ids,1<=x.Seq){v:Int}(h:FsI ids ids y.By v):Rh ids y=(decide (0<v)&&decide (v<=y.Seq)):=by
 rw[Bool.eq_iff_iff];unfold Rh;rw[List.any_eq_true];simp only[bA,decide_eq_true_eq];refine⟨λ⟨z,hz,h1,h2,h3⟩=>?_,λ⟨h1,h2⟩=>?_⟩
 .rcases h with⟨_,h5⟩|⟨w,k1,k2,k3,a,k5⟩
  all_goals grind
 .rcases h with⟨h5,_⟩|⟨w,k1,k2,k3,a,k5⟩
  all_goals grind
theorem MI{ids:AH}(hl:ids.length<=100000)(hd:ids.Nodup)(hs:∀x∈ids,1<=x.Seq):T (vJ ids) λr=>r.Perm (ids.filter (Rh ids))/\r.Pairwise λx y=>Gu x y<0:=by
 unfold vJ;refine .bind ((T.forA ids.length (λk acc=>acc=(ids.take k).filter (Rh ids)) aa aC (λk acc hk hj=>?_) λacc hj=>?_).mono (Q:=λacc=>acc=ids.filter (Rh ids)) λx hx=> .bind ((kg ?_).mono λv hv=> .some ?_))
 .obtain⟨y,hy,hm⟩:=dk hk;unfold un;simp only[eA hk,ax,au,hy,aL];have hla:acc.length<=k:=by grind
  have e:(ids.take (k+1)).filter (Rh ids)=acc++(if Rh ids y then[y] else[]):=by rw[Rb hy,O8,<-hj];cases hp:Rh ids y<;>simp[hp]
  refine .bind ((PL aa hs y.By).mono λv hv=>?_);have hq:=Ad5 hs hv;by_cases c1:0<v
  .by_cases c2:v<=y.Seq
   .simp only[c1,c2,decide_true,ax,aL];rw[hq,CM c1,CM c2] at e;exact .bind (.app cq (.some ⟨aq aa,by rw[e];rfl⟩))
   .simp only[c1,c2,decide_true,decide_false,ax,A9,aL];rw[hq,CM c1,C3 c2] at e;exact .some ⟨aq aa,by rw[e];simp⟩
  .simp only[c1,decide_false,A9,aL];rw[hq,C3 c1] at e;exact .some ⟨aq aa,by rw[e];simp⟩
 .unfold un;dsimp only;rw[eF,A9];refine .some (show acc=_ from ?_);rw[hj,D5]
 .grind
 .refine⟨hx▸hv.1,?_⟩;have hn:v.Nodup:=by grind
  refine(hv.2.and hn).imp λ{a b} h=>N6.2 ?_;cases h1:dt a b with
  |true=>rfl
  |false=>exact absurd (Uc h1 h.1) h.2
section
section
variable {g:AB} {m:Hj} {N:Hl}
theorem Wg(w:Fv g)(p:ON g m N){i:Nat}(h:g.IDs[i]?=some x):∃y,N[i]?=some y/\(BW g m N).lev x=y.level/\0<=y.level/\y.level<=(i:Int)+1:=by obtain⟨y,h1,h2,h3⟩:=AbF w p (KE w h);refine⟨y,h1,?_,(p.nd i y h1).2.2.2⟩;show(match MY ⟨g.Cards,m,N⟩ x with|some y=>y.level|none=>0)=_;rw[Qh w p,KE w h];grind
theorem Ad6(w:Fv g)(p:ON g m N):nZ g=some (N.map (·.level)):=by
 have nL:=w.nL;have nU:=w.nU;have pl:=p.len;refine T.eq ?_;unfold nZ;refine .bind (T.mono (Q:=λr=>r=N.map (·.level)) (T.forA g.L.length (λk acc=>acc=(N.take k).map (·.level)) aa aC (λk acc hk hj=>?_) λacc hj=>?_) λx hx=> .some hx)
 .obtain⟨u,hu,_⟩:=dk (l:=g.Up) (k:=k) aa;obtain⟨y,hy,_⟩:=dk (l:=N) (k:=k) aa;obtain⟨u1,e⟩:=w.up k u hu;have b:=p.lv k y u hy hu;unfold pd;dsimp only;rw[eA hk,ax];have hla:acc.length=k:=by grind
  have hin:AQ (iP g (acc,(k:Int))) (1,0)=some y.level:=by
   refine T.eq ?_;refine T.loop (λs=>∃j:Nat,j<=u.length/\s.2=(j:Int)/\s.1=lvF N (u.take j)) (λs=>u.length-s.2.toNat) ⟨0,aa,rfl,rfl⟩ cq ?_;rintro⟨a,i⟩ ⟨j,f,rfl,rfl⟩;unfold iP;simp only[au,hu,aL];rcases JF j u.length with hlt|hge
   .obtain⟨z,hz,hm⟩:=dk hlt;obtain⟨h,o⟩:=e z hm;obtain⟨n,rfl⟩:∃n:Nat,z=(n:Int):=⟨z.toNat,aa⟩;obtain⟨v,hv,_⟩:=dk (l:=N) (k:=n) aa;have hb:=(p.nd n v hv).2.2.2;have ha:acc[n]?=some v.level:=by grind
    rw[eA hlt,ax,hz,aL,au,ha,aL,bM aa aa];refine .some ⟨⟨j+1,aa,aq aa,?_⟩,?_⟩
    .rw[Rb hz,Abl];grind [lvN]
    grind [aq]
   .obtain rfl:j=u.length:=aa;rw[eF,A9,D5];exact .some b.symm
  rw[hin,aL];refine .bind (.app cq (.some ⟨aq aa,?_⟩));rw[Rb hy,List.map_append,hj];rfl
 .unfold pd;dsimp only;rw[eF,A9];refine .some (show acc=_ from ?_);rw[hj,<-pl,D5]
theorem Sa(w:Fv g)(p:ON g m N){i:Nat}(hx:g.IDs[i]?=some x)(hy:g.IDs[k]?=some y):vI g (N.map (·.level)) (i:Int) (k:Int)=some (decide (M4 (BW g m N) x y<0)):=by
 obtain⟨a,h1,h2,_⟩:=Wg w p hx;obtain⟨b,h3,h4,_⟩:=Wg w p hy;have e1:(N.map (·.level))[i]?=some a.level:=by rw[Nh,h1];rfl
 have e2:(N.map (·.level))[k]?=some b.level:=by rw[Nh,h3];rfl
 grind [vI,au,pJ,SO]
theorem Aj0{cmp:α->α->Int}(hO:OrN cmp λ_=>True){l:List α}{x:α}(hp:l.Pairwise λa b=>cmp a b<0)(h1:∀i y,i<j->l[i]?=some y->cmp y x<0)(h2:∀y,l[j]?=some y->¬cmp y x<0)(hx:x∉l):(l.take j++[x]++l.drop j).Pairwise λa b=>cmp a b<0:=by
 have hpj:(l.take j++l.drop j).Pairwise λa b=>cmp a b<0:=by rw[Pt];exact hp
 rw[List.pairwise_append] at hpj;have hlt:∀a∈l.take j,cmp a x<0:=by grind [EO]
 have hgt:∀b∈l.drop j,cmp x b<0:=by grind [OrN,List.drop_eq_nil_of_le,List.drop_eq_getElem_cons,List.pairwise_cons]
 grind
theorem Hf(w:Fv g)(p:ON g m N){ids:AH}(hl:ids.length<=1000)(hd:ids.Nodup)(hm:∀x∈ids,x∈g.IDs):T (n8 g ids) λr=>r.Perm ids/\r.Pairwise λx y=>M4 (BW g m N) x y<0:=by
 have nL:=w.nL;have nI:=w.nI;unfold n8;rw[Ad6 w p,aL];refine .bind (T.mono (Q:=λx:Bj=>EF g x/\(Jd g x).Perm ids/\(Jd g x).Pairwise λx y=>M4 (BW g m N) x y<0) (T.forA ids.length (λk acc=>EF g acc/\(Jd g acc).Perm (ids.take k)/\(Jd g acc).Pairwise λx y=>M4 (BW g m N) x y<0) aa ⟨.nil,by simp[Jd],.nil⟩ (λk acc hk hj=>?_) λacc hj=>?_) λf h4=>?_)
 .obtain⟨y,hy,l⟩:=dk hk;obtain⟨b,u,o⟩:=hj;obtain⟨i,hi⟩:=EO (hm y l);have hil:i<g.IDs.length:=(cr hi).1;have hpz:gO g y=(i:Int):=by unfold gO;rw[KE w hi]
  have hal:acc.length<=k:=by grind [List.Perm.length_eq,Hm,Ns]
  have hny:y∉Jd g acc:=by grind [EO,JX]
  unfold qU;simp only[eA hk,ax,au,hy,aL,qR,dC (show g.IDs.length<=1000000 by omega),hpz];rw[show decide ((i:Int)<0)=false from C3 aa,A9];refine .bind (T.mono (Q:=λn:Int=>∃j:Nat,n=(j:Int)/\j<=acc.length/\(∀q z,q<j->(Jd g acc)[q]?=some z->M4 (BW g m N) z y<0)/\∀z,(Jd g acc)[j]?=some z->¬M4 (BW g m N) z y<0) (T.forI acc.length (λj=>∀q z,q<j->(Jd g acc)[q]?=some z->M4 (BW g m N) z y<0) aa (λq z h=>aa) (λj hjl hq=>?_) λhq=>?_) λn hn=>?_)
  .obtain⟨z,hz,s⟩:=dk hjl;obtain⟨B,zn,rfl,t,a,hzz⟩:=Pr w b hz;unfold qT;simp only[eA hjl,ax,au,hz,aL,Sa w p a hi];refine .dec (λhc=> .some ⟨aq aa,λq C v hz'=>?_⟩) λhc=> .some ⟨j,rfl,aa,hq,λC hz'=>?_⟩;all_goals grind
  .unfold qT;dsimp only;rw[eF,A9,aL,A9];refine .some ⟨acc.length,rfl,C6 _,hq,λz hz=>?_⟩;grind
  .obtain⟨j,rfl,hjl,q1,A⟩:=hn;refine .bind (.pre aa aa (.bind (.app cq (.bind (.app cq (.bind (.suf aa aa (.bind (.app cq (.some ⟨aq aa,?_,?_⟩))))))))))
   .intro x hx;have:x∈acc++[(i:Int)]:=by grind
    exact b.snoc aa x this
   .have e:Jd g ([]++acc.take (j:Int).toNat++[(i:Int)]++acc.drop (j:Int).toNat)=(Jd g acc).take j++[y]++(Jd g acc).drop j:=by grind [Fm,List.map_take,List.map_drop]
    rw[e];refine⟨?_,Aj0 (SP _) o q1 A hny⟩;grind [Rb,Cy]
 .unfold qU;dsimp only;rw[eF,A9];rw[D5] at hj;exact .some hj
 .obtain⟨h1,h2,h3⟩:=h4;refine .bind (T.mono (Q:=λr:AH=>r=Jd g f) (T.forA f.length (λk acc=>acc=(Jd g f).take k) (by grind [List.Perm.length_eq,Hm]) aC (λk acc hk hj=>?_) λacc hj=>?_) (by grind [T.some]))
  .obtain⟨z,hz,s⟩:=dk hk;obtain⟨B,zn,rfl,t,a,hzz⟩:=Pr w h1 hz;have hxl:f.length<=1000:=by grind [List.Perm.length_eq]
   have hal:acc.length<=k:=by rw[hj,Ns];omega
   unfold qS;simp only[eA hk,ax,au,hz,a,aL];refine .bind (.app cq (.some ⟨aq aa,?_⟩));rw[Rb hzz,hj]
  .unfold qS;dsimp only;rw[eF,A9];refine .some (show acc=_ from ?_);grind [Hm]
end
end
section
theorem AhN:1<=lvF N u:=by
 have key:∀(l:Bj) (a:Int),1<=a->1<=l.foldl (λa j=>Fi a (lvN N j+1)) a:=by intro l;induction l<;>grind [Fi]
 exact key u 1 (Int.le_refl _)
theorem Abp{a b:AH}(h:a.Perm b)(f:Bg):Nf a f=Nf b f:=(h.filter _).length_eq
theorem Abq{a b:AH}(h:a.Perm b)(x:Ab):Rh a x=Rh b x:=by grind [Rh,Abp]
section
variable {g:AB} {m:Hj} {N:Hl} (P:Pg g m N)
include P
end
end
theorem Adh{gg:Aj}{j:Nat}:∀(l:AH) (s:O0),gW (l.foldl (λs x=>match MY gg x with|some y=>Q6 s y.past|none=>s) s) j=(gW s j||l.any λx=>match MY gg x with|some y=>gW y.past j|none=>false)
 |[],s=>aC
 |x::l,s=>by rw[List.foldl_cons,Adh l,List.any_cons];grind [RP]
theorem AhO{p:Nat->Bool}{N:Hl}:x∈US p N↔∃(k:Nat) (y:BX),N[k]?=some y/\p k=true/\y.id=x:=by unfold US;simp only[E7,HE,List.mem_zipIdx_iff_getElem?,Prod.exists];grind
theorem AhP{p:Nat->Bool}{N:Hl}:(US p N).Sublist (N.map (·.id)):=by
 have h:(N.zipIdx.map (·.1.id))=N.map (·.id):=by rw[show(λq:BX×Nat=>q.1.id)=(λy:BX=>y.id)∘Prod.fst from rfl,<-IX,List.zipIdx_map_fst]
 rw[<-h];exact List.filter_sublist.map _
theorem Adi{I:Gi}{x:Ab}:∀{l p:AH},x∈LA I p l↔x∈p\/x∈l/\0<I.lev x
 |[],p=>by simp[LA]
 |y::l,p=>by have a:LA I p (y::l)=LA I (bif 0<I.lev y then bif p.any λz=>decide (y=z)then p else p++[y]else p) l:=rfl;rw[a,Adi];grind
theorem AfI{I:Gi}:∀{l p:AH},p.Nodup->(LA I p l).Nodup
 |[],p,h=>h
 |y::l,p,h=>by have a:LA I p (y::l)=LA I (bif 0<I.lev y then bif p.any λz=>decide (y=z)then p else p++[y]else p) l:=rfl;rw[a];refine AfI ?_;grind
section
variable {g:AB} {m:Hj} {N:Hl} (P:Pg g m N)
include P
theorem Aj1:N.map (·.id)=g.IDs:=by
 refine List.ext_getElem? λk=>?_;have pl:=P.p.len;have nI:=P.w.nI;rw[Nh];cases hy:N[k]? with
 |none=>grind
 |some y=>rw[(P.p.nd k y hy).2.1];rfl
theorem Adj{l:AH}(hj:j<256):gW (R6 ⟨g.Cards,m,N⟩ l) j=true↔uX g l j:=by
 have z:gW z4 j=false:=by unfold gW z4;split<;>simp
 rw[show gW (R6 ⟨g.Cards,m,N⟩ l) j=_ from Adh l z4,z,Bool.false_or,List.any_eq_true];unfold uX;refine⟨λ⟨x,hx,h⟩=>⟨x,hx,?_⟩,λ⟨x,hx,n,h1,h2⟩=>⟨x,hx,?_⟩⟩
 .rw[Qh P.w P.p] at h;cases hk:bu x g.IDs with
  |none=>rw[hk] at h;simp at h
  |some n=>
   rw[hk,aL] at h;cases hy:N[n]? with
   |none=>rw[hy] at h;simp at h
   |some y=>rw[hy] at h;exact⟨n,rfl,((P.p.nd n y hy).2.2.1 j hj).symm.trans h⟩
 .have hn:=(cr (gb h1).1).1;have pl:=P.p.len;have nI:=P.w.nI;obtain⟨y,hy⟩:∃y,N[n]?=some y:=⟨_,EA aa⟩;rw[Qh P.w P.p,h1,aL,hy];exact((P.p.nd n y hy).2.2.1 j hj).trans h2
theorem AhQ:0<(BW g m N).lev x↔x∈g.IDs:=by
 have pl:=P.p.len;have nI:=P.w.nI;cases hk:bu x g.IDs with
 |none=>
  have:(BW g m N).lev x=0:=by show(match MY ⟨g.Cards,m,N⟩ x with|some y=>y.level|none=>0)=_;rw[Qh P.w P.p,hk];rfl
  grind [jv]
 |some k=>have hid:=(gb hk).1;obtain⟨y,a,c,_⟩:=Wg P.w P.p hid;have hkl:=(cr hid).1;obtain⟨u,hu,_⟩:=dk (l:=g.Up) (k:=k) (by have:=P.w.nU;omega);have b:=P.p.lv k y u a hu;grind [AhN]
theorem Al0(b:g.L.length<=15){l:AH}(hl:l.length<=1000):∃v p,Ja g l=some v/\C5 g v/\v.Nodup/\Pm Gu (US (gW (R6 ⟨g.Cards,m,N⟩ l)) N)=some p/\p.length=(US (gW (R6 ⟨g.Cards,m,N⟩ l)) N).length/\p.length<=15/\(LA (BW g m N) p l).Perm v:=by
 have pl:=P.p.len;have nI:=P.w.nI;obtain⟨v,e,v1,v2,c,d⟩:=yf P.w (ids:=l) aa;have hs:=AhP (p:=gW (R6 ⟨g.Cards,m,N⟩ l)) (N:=N);rw[Aj1 P] at hs;have hle:=hs.length_le;obtain⟨p,e2,a,f⟩:=Uk Lo (P.w.nd.sublist hs) aa;have hpl:=a.length_eq;refine⟨v,p,e,v1,v2,e2,hpl,aa,(List.perm_ext_iff_of_nodup (AfI (a.nodup_iff.2 (P.w.nd.sublist hs))) v2).2 λx=>?_⟩;rw[Adi,c,a.mem_iff,AhO,AhQ P];refine or_congr_left ⟨λ⟨k,y,h1,h2,h3⟩=>?_,λ⟨k,h1,h2⟩=>?_⟩
 .have hk:=(cr h1).1;exact⟨k,h3▸(P.p.nd k y h1).2.1,(Adj P aa).1 h2⟩
 .have hk:=(cr h1).1;obtain⟨y,hy⟩:∃y,N[k]?=some y:=⟨_,EA aa⟩;have:=(P.p.nd k y hy).2.1;grind [Adj]
end
theorem Aj2{gl:CC}{gg:Aj}{o:Bi}{s:AH}(hn:s.length<=15)(hp:s.Perm v)(hs:∀x∈v,1<=x.Seq):∃fr fk w,ba prog gl 126 [.ptr (Ag gg) 0,aE aj s] (aE Bu fr)/\Abc fr (λf=>JG f o)=some fk/\qN v o.By=some w/\fk=(decide (0<w)&&decide (w<=o.Seq)):=by
 obtain⟨fs,hq,hi⟩:=Ajj hn;have hl:=AaK (ids:=s) aa;have hI:=AgS s aa;have hfl:fs.length=(Ul s).2.es.length:=by rw[hq.length_eq,Hm]
 have hF:=(AbQ (gl:=gl) (gg:=gg) (ids:=s) (r:=fs) (n:=fs.length) aa aa hfl.symm hi).fn Bk.sz (Bk.len _) (Bk.imm _);obtain⟨w,e,hw⟩:=PL (ids:=v) (by have:=hp.length_eq;omega) hs o.By;refine⟨fs,_,w,hF,?_,e,rfl⟩;rw[show(λf=>JG f o)=λf=>some (decide (f.Device=o.By)&&decide (f.Seq<=o.Seq)) from funext λf=>by unfold JG;cases decide (f.Device=o.By)<;>rfl,Adq (p:=λf:Bg=>decide (f.Device=o.By)&&decide (f.Seq<=o.Seq)) aa λ_ _=>rfl];congr 1;rw[Bool.eq_iff_iff,List.any_eq_true];simp only[bA,decide_eq_true_eq];have hm:∀f:Bg,f∈fs↔(Ul s).2.get f.Device=some f.Seq:=λf=>by rw[hq.mem_iff,Tz]
 have hc:∀f,Nf v f=Nf s f:=λf=>(Abp hp f).symm;have hex:∀{d q:Int},2<=Nf s ⟨d,q⟩->∃y∈v,y.By=d/\y.Seq=q:=λ{d q} h=>by unfold Nf at h;obtain⟨y,hy⟩:=List.exists_mem_of_length_pos (l:=s.filter λx=>decide (x.By=d)&&decide (x.Seq=q)) (Nat.lt_of_lt_of_le Cd h);rw[HE] at hy;have:=hy.2;simp only[bA,decide_eq_true_eq] at this;exact⟨y,hp.mem_iff.1 hy.1,this.1,this.2⟩
 unfold FsI at hw;simp only[hc] at hw;refine⟨λ⟨f,hf,h1,h2⟩=>?_,λ⟨h1,h2⟩=>?_⟩
 .rw[hm] at hf;have h3:=hI.a _ _ hf;obtain⟨y,g,c,i⟩:=hex h3;rw[h1] at h3 c;rcases hw with⟨_,h5⟩|⟨z,k1,k2,k3,j,k5⟩
  .exact absurd (i▸h3) (h5 y g c)
  .have a:=k5 y g c (i▸h3);have b:=hs z k1;omega
 .rcases hw with⟨h5,_⟩|⟨z,k1,k2,k3,j,k5⟩
  .omega
  .obtain⟨q,q1,k⟩:=hI.b _ _ j;exact⟨⟨o.By,q⟩,(hm _).2 q1,rfl,by show q<=o.Seq;omega⟩
theorem Al1{D D':C7}{o:Bi}{i:Ab}(h:o7 D o i=some D'):D'.In=D.In:=by grind [o7,GJ]
theorem Ai0{D:C7}(h:Rr R D)(hR:Bf R)(d:Int):Pl R d=decide (d∈D3 R):=by
 have hp:=(IK hR).2.1;have hi:=h.in_ d;unfold Pl Hi;rw[Bool.eq_iff_iff,decide_eq_true_iff,hp.mem_iff,E7];by_cases c:d∈D.In
 .grind [Ge]
 .rw[BB c] at hi;rw[hi];refine⟨(by grind),λ⟨q,hq,e⟩=>?_⟩;have hg:=JJ hR.ci (k:=q.1) (v:=q.2.1) (n:=q.2.2) hq;grind
theorem af0{a b:Bj}(h1:a.length<=1000)(h2:b.length<=1000):AQ (qn a b) ([],0)=some (b.filter (QF a)):=by
 refine T.eq (T.forA b.length (λk acc=>acc=(b.take k).filter (QF a)) aa aC (λk acc hk hj=>?_) λacc hj=>?_)
 .obtain⟨y,hy,hm⟩:=dk hk;subst hj;have hl:((b.take k).filter (QF a)).length<=1000:=by grind
  unfold qn;simp only[eA hk,ax,au,hy,aL,cX (show a.length<=1000000 by omega)];refine .ite (λc=> .bind (.app cq (.some ⟨aq aa,?_⟩))) λc=> .some ⟨aq aa,?_⟩
  .grind [Rb]
  .rw[Rb hy,O8];simp[c]
 .unfold qn;dsimp only;rw[eF,A9];subst hj;exact .some (show _=_ by rw[D5])
theorem af1{a b x:Bj}(h0:x.length<=1000)(h1:a.length<=1000)(h2:b.length<=1000):AQ (qm a b) (x,0)=some (x++a.filter λd=> !QF b d):=by
 refine T.eq (T.forA a.length (λk acc=>acc=x++(a.take k).filter λd=> !QF b d) aa aC (λk acc hk hj=>?_) λacc hj=>?_)
 .obtain⟨y,hy,hm⟩:=dk hk;subst hj;have hl:((a.take k).filter λd=> !QF b d).length<=1000:=by grind
  unfold qm;simp only[eA hk,ax,au,hy,aL,cX (show b.length<=1000000 by omega)];refine .ite (λc=> .bind (.app cq (.some ⟨aq aa,?_⟩))) λc=> .some ⟨aq aa,?_⟩
  .grind [Rb]
  .rw[Rb hy,O8];simp[c]
 .unfold qm;dsimp only;rw[eF,A9];subst hj;exact .some (show _=_ by rw[D5])
section
variable {g:AB} {m:Hj} {N:Hl} (P:Pg g m N)
include P
theorem Al2{D:C7}(k:RkS g 1000 D)(h:Rr R D)(hR:Bf R){i:Ab}(so:Bb o)(hp:TB o i):∃D',DM D o i=some D'/\lu D'=some (D3 (Sd R o i))/\∀d,Pl (Sd R o i) d=decide (d∈D3 (Sd R o i)):=by
 have z:=Vm P k Cd h hR;have hQ:=PR hR hp;by_cases c:o.Kind=9
 .have eD:DM D o i=o7 D o i:=by unfold DM;rw[ofE z.z,aL];obtain⟨a,e3,_⟩:=XK z.z h (XJ D.Cards o.By);grind
  obtain⟨D',e,_⟩:=Alu z h (o:=o) (i:=i);have ei:=Al1 e;have eQ:(Sd R o i).in_=R.in_:=by grind [Sd,Aao]
  have e1:D3 (Sd R o i)=D3 R:=by grind [D3]
  have e2:lu D'=lu D:=by grind [lu]
  refine⟨D',eD.trans e,by grind [Ag3,Sy.z],λd=>?_⟩;rw[e1,<-Ai0 h hR d];grind [Pl]
 .obtain⟨D',e,h2,q⟩:=doE z h hR (o:=o) (i:=i) (by grind);exact⟨D',e,Ag3 (AcP h2 hQ (by rw[q.c,k.cards];exact P.w.nC) (by have:=q.v;have:=k.nV;omega)).z h2 hQ,Ai0 h2 hQ⟩
end
theorem Acm(hR:Bf R)(h:Re R o=0):1<=o.By/\o.By<=6:=by
 unfold Re at h;split at h
 .grind [Bf,Dq]
 .cases c:Pl R o.By with
  |false=>grind
  |true=>
   unfold Pl Hi at c;cases hg:R.in_.get o.By with
   |none=>grind
   |some v=>grind [Bf,Ge]
section
variable {g:AB} {m:Hj} {N:Hl} (P:Pg g m N)
include P
theorem Aag(h:g.L.length<=15)(hsq:∀(i:Nat) (o:Bi) (x:Ab),g.L[i]?=some o->g.IDs[i]?=some x->x.Seq=o.Seq)(v1:C5 g v)(v2:v.Nodup):∃row vs:AH,n8 g v=some row/\row.Perm v/\(row.Pairwise λx y=>M4 (BW g m N) x y<0)/\vJ v=some vs/\vs.Perm (v.filter (Rh v))/\vs.length<=1000/\Ael fI (Sh ⟨g.Cards,m,N⟩ row vs) (BW g m N)/\(∀x∈row,x∈g.IDs)/\(∀x∈vs,x∈g.IDs)/\row.Nodup/\row.length<=15/\∀s:AH,s.Perm v->ba prog fI 145 [.ptr (Ag ⟨g.Cards,m,N⟩) 0,aE aj s] (aE aj row)/\ba prog fI 146 [.ptr (Ag ⟨g.Cards,m,N⟩) 0,aE aj s] (aE aj vs):=by
 have w:=P.w;have nI:=w.nI;have hG:=SN w P.p;have hI:=Wf hG;have opx:∀x∈g.IDs,∃(i:Nat) (o:Bi),g.IDs[i]?=some x/\g.L[i]?=some o/\EH o:=by grind [EO,Fv.op]
 have hseq:∀x∈g.IDs,1<=x.Seq/\x.Seq<=2147483647:=λx hx=>by obtain⟨i,o,h1,h2,l⟩:=opx x hx;rw[hsq i o x h2 h1];exact(T1 l.numbers).seq
 have hv14:v.length<=15:=by have:=EC v2 v1.sub;omega
 obtain⟨row,j,b,d⟩:=Hf w P.p aa v2 v1.sub;have hrl:row.length<=15:=by rw[b.length_eq];exact hv14
 have hrn:row.Nodup:=b.nodup_iff.2 v2;have hrm:∀x∈row,x∈g.IDs:=λx hx=>v1.sub x (b.mem_iff.1 hx);have hO:∀s:AH,s.Perm v->ba prog fI 145 [.ptr (Ag ⟨g.Cards,m,N⟩) 0,aE aj s] (aE aj row):=λs a=>by
  have hs14:s.length<=15:=by rw[a.length_eq];exact hv14
  obtain⟨r,e,f,c⟩:=Uk (SP (BW g m N)) (a.nodup_iff.2 v2) hs14;have:r=row:=JK (SP (BW g m N)).tr NQ (f.trans (a.trans b.symm)) c d;grind [AbM,List.Perm.length_eq]
 obtain⟨vs,w1,w2,k⟩:=MI (ids:=v) aa v2 (by grind [C5.sub]);have hvm:∀x∈vs,x∈g.IDs:=by grind [C5.sub]
 have hvl:vs.length<=1000:=by grind [List.Perm.length_eq,Nr]
 have hV:∀s:AH,s.Perm v->ba prog fI 146 [.ptr (Ag ⟨g.Cards,m,N⟩) 0,aE aj s] (aE aj vs):=λs a=>by
  have hs14:s.length<=15:=by rw[a.length_eq];exact hv14
  obtain⟨r,e,f,c⟩:=AiH (gl:=fI) (gg:=⟨g.Cards,m,N⟩) hs14 (a.nodup_iff.2 v2) (by grind [C5.sub,List.Perm.mem_iff]);have hq:(s.filter (Rh s)).Perm (v.filter (Rh v)):=by rw[show Rh s=Rh v from funext (Abq a)];grind
  have:r=vs:=JK Lo.tr QM (by grind) c k;exact this▸e
 have hod:∀x∈row,TB ((BW g m N).o x) x:=λx hx=>by obtain⟨i,o,h1,h2,_⟩:=opx x (hrm x hx);rw[(P.op h2 h1).2];grind [Pg.od]
 exact⟨row,vs,j,b,d,w1,w2,hvl,⟨hI,P.cd,hod,by show row.length<=1000;omega⟩,hrm,hvm,hrn,hrl,λs hs=>⟨hO s hs,hV s hs⟩⟩
def UE(g:AB)(m:Hj)(N:Hl)(v:AH)(R:Ad)(sen:Bj):Prop:=∃row vs cs:AH,n8 g v=some row/\vJ v=some vs/\(∀x∈row,x∈v)/\Yb (BW g m N) (Sh ⟨g.Cards,m,N⟩ row vs) (M0 (BW g m N) row)=some cs/\cs.Sublist row/\R=MZ (BW g m N) cs/\sen=M0 (BW g m N) row
theorem PM(b:g.L.length<=15)(hsq:∀(i:Nat) (o:Bi) (x:Ab),g.L[i]?=some o->g.IDs[i]?=some x->x.Seq=o.Seq){v:AH}(v1:C5 g v)(v2:v.Nodup):∃(R:Ad) (D:C7) (sen:Bj),zY g v=some D/\Rr R D/\Bf R/\RkS g 1000 D/\(∀s:AH,s.Perm v->R4 prog fI 6 [.ptr (Ag ⟨g.Cards,m,N⟩) 0,aE aj s] [] 0 0 (.ref 0 0) (Bz f0 R)/\ba prog fI 130 [.ptr (Ag ⟨g.Cards,m,N⟩) 0,aE aj s] (aE cZ sen))/\sen.Nodup/\sen.length<=12/\jn g v=some sen/\UE g m N v R sen:=by
 obtain⟨row,vs,c,f,_,w1,_,hvl,hL,hrm,hvm,hrn,hrl,hS⟩:=Aag P b hsq v1 v2;have hI:=Wf (SN P.w P.p);obtain⟨s1,s2⟩:=AeK P hrm;have d:=Si hI (hS row f).1 aa;have e:=Aa0 P c aa hrm;obtain⟨D,j,cs,h,k,l,n,d6⟩:=Anu P (ids:=v) v1 c hrn aa hrm w1 hvl hvm;have hod:=hL.o;have hcl:cs.length<=1000:=by grind
 exact⟨_,D,_,j,l,n,d6,λs a=>⟨Aio hI P.cd (ac.fo (ZH (I:=BW g m N) (ids:=s) (row:=row) (s:=M0 (BW g m N) row) (r:=cs) hL (hS s a).1 (hS s a).2 hvl d aa h)) (by grind [Sh]) hcl,Si hI (hS s a).1 aa⟩,s1,s2,e,row,vs,cs,c,w1,λx hx=>f.mem_iff.1 hx,h,k,rfl,rfl⟩
theorem Ud(j:g.L.length<=15)(hsq:∀(i:Nat) (o:Bi) (x:Ab),g.L[i]?=some o->g.IDs[i]?=some x->x.Seq=o.Seq)(so:Bb o){i:Ab}(hid:pV o=some i)(n:ba prog fI 42 [.agg (aJ o)] (.agg (aj i)))(hp:1<=o.By/\o.By<=6->TB o i):∃(l:Bj) (v:AH) (R:Ad) (fk:Bool) (sen:Bj),(iV prog fI 55 [.ptr (Ag ⟨g.Cards,m,N⟩) 0,.agg (aJ o)] 3 l.length (l.flatMap cZ)/\qo g o=some l/\l.length<=12/\l.Nodup)/\Ja g o.Past=some v/\l=UD fk R o i sen/\Bf R/\(∃D,Rr R D/\UE g m N v R sen/\∃f,qN v o.By=some f/\fk=(decide (0<f)&&decide (f<=o.Seq)))/\∀s:AH,s.Perm v->R4 prog fI 6 [.ptr (Ag ⟨g.Cards,m,N⟩) 0,aE aj s] [] 0 0 (.ref 0 0) (Bz f0 R):=by
 have w:=P.w;have hpl:=so.nPast;have hgl:o.Guards.length<=1000000:=by grind [Bb.nGuards]
 have nI:=w.nI;have pl:=P.p.len;have hG:=SN w P.p;have hI:=Wf hG;obtain⟨v,p,e1,v1,v2,e2,pe,y,a⟩:=Al0 P j hpl;have hv14:v.length<=15:=by have:=EC v2 v1.sub;omega
 obtain⟨R,D,sen,A,k,b,d6,c,s1,s2,q,r⟩:=PM P j hsq v1 v2;have hP:=AhJ (gl:=fI) hG (by show N.length<=15;omega) (ids:=o.Past) aa e2 pe;have hS:=AfE hI hP aa;generalize LA (BW g m N) p o.Past=s at hS a;have hs14:s.length<=15:=by rw[a.length_eq];exact hv14
 obtain⟨fr,fk,f,f1,f2,t,B⟩:=Aj2 (gl:=fI) (gg:=⟨g.Cards,m,N⟩) (o:=o) hs14 a (λx hx=>by obtain⟨i,h1⟩:=EO (v1.sub x hx);obtain⟨o,h2,_,C⟩:=w.op (i:=i) (by have:=(cr h1).1;omega);rw[hsq i o x h2 h1];exact(T1 C.numbers).seq.1)
 obtain⟨h1,hN⟩:=c s a;have hA:=AfF hS f1 f2 b h1 n hgl (by grind [Acm]) hN aa;refine⟨_,v,R,fk,sen,⟨hA,?_,?_⟩,e1,rfl,b,⟨D,k,r,f,t,B⟩,λs h=>(c s h).1⟩;all_goals clear hA c hN h1
 .unfold qo UD;rw[e1,aL,t,aL];have hj:(bif 0<f then(some (decide (f<=o.Seq)))else(some false))=some fk:=by grind
  rw[hj,aL];cases fk with
  |true=>rfl
  |false=>
  rw[A9,A9,A,aL,hid,aL,Aln (Vm P d6 aa k b).z k b hgl i,aL];cases cm:decide (Re R o≠0) with
  |true=>rfl
  |false=>
  have hp:=hp (Acm b (Decidable.of_not_not (Np cm)));obtain⟨D',k1,k2,k3⟩:=Al2 P d6 k b so hp;have hQ:=PR b hp;generalize Sd R o i=Q at k2 k3 hQ;have hdl:(D3 Q).length<=1000:=by rw[(IK hQ).2.1.length_eq,Hm];grind [Bf.len]
  rw[A9,A9,k1,aL,k2,aL,q,aL,af0 hdl aa,aL,af1 (by grind) hdl aa,aL];have a1:sen.filter (QF (D3 Q))=haS Q sen:=by grind [List.filter_congr,LE]
  rw[a1];congr 2;grind [List.filter_congr,LE]
 .unfold UD;cases fk with
  |true=>simp
  |false=>
  cases cm:decide (Re R o≠0) with
  |true=>simp
  |false=>
  have hQ:=PR b (hp (Acm b (Decidable.of_not_not (Np cm))));generalize Sd R o i=Q at hQ;obtain⟨_,u,_⟩:=IK hQ;have dn:(D3 Q).Nodup:=u.nodup_iff.2 hQ.ci.kd;have hn:(haS Q sen++(D3 Q).filter (Abo (haS Q sen))).Nodup:=by grind
  refine⟨Alw hn λd hd=>?_,hn⟩;have i6:=hQ.i6;rcases Hp.1 hd with h|h
  .have h:=(HE.1 h).2;unfold Pl Hi at h;cases hg:Q.in_.get d with
   |none=>grind
   |some v=>grind [Ge]
  .obtain⟨e,he,rfl⟩:=E7.1 (u.mem_iff.1 (HE.1 h).1);have:=i6 e he;omega
theorem AfK(a:g.L.length<=15)(hsq:∀(i:Nat) (o:Bi) (x:Ab),g.L[i]?=some o->g.IDs[i]?=some x->x.Seq=o.Seq)(so:Bb o){i:Ab}(hid:pV o=some i)(b:ba prog fI 42 [.agg (aJ o)] (.agg (aj i)))(hp:1<=o.By/\o.By<=6->TB o i):∃l:Bj,iV prog fI 55 [.ptr (Ag ⟨g.Cards,m,N⟩) 0,.agg (aJ o)] 3 l.length (l.flatMap cZ)/\qo g o=some l/\l.length<=12/\l.Nodup:=by obtain⟨l,_,_,_,_,h,_⟩:=Ud P a hsq so hid b hp;exact⟨l,h⟩
end
def Pq{α:Type}(x:Option α)(Q:α->Prop):Prop:=∀v,x=some v->Q v
section
variable {α β:Type} {x:Option α} {f:α->Option β} {Q:β->Prop} {R:α->Prop}
theorem Pq.b(h:∀v,Pq (f v) Q):Pq (x.bind f) Q:=λw e=>by obtain⟨v,_,e⟩:=GJ.1 e;exact h v w e
theorem Pq.m(h:Pq x R)(k:∀v,R v->Pq (f v) Q):Pq (x.bind f) Q:=λw e=>by obtain⟨v,e',e⟩:=GJ.1 e;exact k v (h v e') w e
theorem Pq.i{c:Bool}{a b:Option α}(h1:c=true->Pq a R)(h2:c=false->Pq b R):Pq (bif c then a else b) R:=by grind
theorem Pq.s{v:α}(h:R v):Pq (some v) R:=λw e=>(by grind)
end
theorem Pq.of{α:Type}{x:Option α}{Q:α->Prop}(h:T x Q):Pq x Q:=λv e=>by obtain⟨w,e',h⟩:=h;grind
def Kn(o:Bi):Prop:=o.Kind=9->1<=o.Need/\o.Need<=1000000
theorem Ad7{n:Int}(h0:0<=n)(h1:n<=1000000):Pq (sc g ids o n) Kn:=by
 unfold sc;refine .b λv1=> .b λj=> .b λk=> .i (λc=>?_) λc=>?_
 .refine .b λl=> .b λa=> .m (R:=λq=>0<=q/\q<=1) (λq e=>?_) λd hq=> .b λh=> .s λ_=>?_
  .grind [bM,u9,iI,ah]
  grind [bM]
 .have c':=Np c;refine .b λ_=> .b λ_=> .b λ_=> .b λ_=> .b λ_=> .b λ_=> .i (λ_=> .s λe=>absurd e c') λ_=> .s λe=>absurd e c'
theorem AhR{n m:Int}(hm:Fk m):Pq (sd g n m) Kn:=by
 unfold sd;refine .b λv1=> .m (.of (eX hm Cd)) λj h3=> .b λw=> .i (λ_=> .s λe=>(by grind)) λ_=> .b λa=> .b λl=> .b λj12=> .b λo=> .b λp=>?_;have hk:0<=wI (j.tdiv 20)/\wI (j.tdiv 20)<=1000000:=by grind [bM]
 have no:∀{k:Int},decide (a.Kind=k)=true->k≠9->∀{q:Int},a.Kind=9->1<=q/\q<=1000000:=by grind
 refine .m (R:=λx:Bi×AH=>Kn x.1) (.i (λc=> .b λ_=> .s λe=>(by grind)) λ_=> .m (R:=λx:Bi×AH=>Kn x.1) (.i (λc=> .b λ_=> .s λe=>(by grind)) λ_=> .m (R:=λx:Bi×AH=>Kn x.1) (.i (λc=> .s λe=>(by grind)) λ_=> .m (R:=λx:Bi×AH=>Kn x.1) (.i (λc=> .b λ_=> .b λ_=> .b λ_=> .s λe=>(by grind)) λ_=> .m (R:=λx:Bi×AH=>Kn x.1) (.i (λc=> .s λe=>(by grind)) λ_=> .m (R:=λx:Bi×AH=>Kn x.1) (.i (λc=> .s λe=>(by grind)) λ_=> .m (R:=λb:Bool=>a.Kind=9->b=true) (by grind [Pq.s]) λr t=> .m (R:=λx:Bi×AH=>Kn x.1) (.i (λ_=> .m (Ad7 hk.1 hk.2) λu h=> .b λ_=> .s h) λc=> .s λe=>(by grind)) λ_ h=> .s h) λ_ h=> .s h) λ_ h=> .s h) λ_ h=> .s h) λ_ h=> .s h) λ_ h=> .s h) λv d=>?_;exact .b λ_=> .b λ_=> .b λ_=> .b λ_=> .b λ_=> .s d
def R5(l:LP):Bool:=decide (l.length<=12)&&(List.range 12).all λk=>match l[k]?,l[k+1]? with
 |some a,some b=>decide (a.Device<=b.Device)&&(decide (0<=a.Device)&&decide (b.Device<=1000000))
 |_,_=>true
theorem OM{l:LP}(h:R5 l=true):xf l:=by unfold R5 at h;simp only[bA,decide_eq_true_eq] at h;refine⟨h.1,λk a b ha hb=>?_⟩;have hk:=(cr ha).1;have:=GE.1 h.2 k (List.mem_range.2 aa);rw[ha,hb] at this;simpa using this
theorem Ls:xf GR:=OM aH
structure AnO (r:AB) (ms:Nat->Hj) (N:Hl):Prop where
 wf:Fv r
 ne:r.L≠[]
 run:Adc r ms N
 pg:ON r (ms r.L.length) N
 gr:JS g0 r
 gC:r.Cards=GR
 n14:r.L.length<=14
theorem neZ(a:Int):decide (a≠a)=false:=aC
theorem Adl{gl:CC}{l:Bj}(hn:l.length<=1000000):ba prog gl 19 [aE cZ l,aE cZ l] (bG true):=by
 refine Gh func19 ?_;refine dLl (l:=l) aa (λk:Nat=>(s0 26 gl [(0,aE cZ l),(1,aE cZ l),(5,iG (k:Int))] [] 0 0)) 1110122 [hr 10 (neZ (ah l))] [] (λB k x hx hz k5=>?_) (λB=>?_)
 .have hlt:=(cr hx).1;exact jw [hr 14 (Dk hx),AA 19 (rZ.ixZ hz),AA 20 (rZ.p1Z tZ hz),AA 23 (rZ.ixZ hz),AA 24 (rZ.p1Z tZ hz),hr 25 (neZ x),hbb 16 (Xl (q:=k) aa)] [] k5 []
 .exact Ar [hr 14 (Fe (s:=l))] []
theorem I5{i:Ab}(so:Bb o)(h:pV o=some i):i.By=o.By/\i.Seq=o.Seq:=by obtain⟨j,e,a,b,_⟩:=wN so;grind
theorem Aco{b:AB}(h:JS b g)(hb:b.L=[]):∀(i:Nat) (o:Bi),g.L[i]?=some o->∃c∈g.Cards,c.Device=o.By:=by
 induction h with
 |base=>grind
 | @step g o id up row gr w sm _ e a hid hrow ih=>
  intro i d ho;have ho:(g.L++[o])[i]?=some d:=ho;rcases je ho with⟨_,h⟩|⟨_,rfl⟩
  .exact ih i d h
  .obtain⟨c,hc,_⟩:=a.card;exact⟨c,yd hc⟩
theorem Adm(h:cs.all KK=true){c:DF}(hc:c∈cs):1<=c.Device/\c.Device<=6/\1<=c.Member/\c.Member<=3:=by grind [KK]
theorem Aj3:GR.map (·.Device)=[1,2,3,4,5,6]:=aH
section
variable {r:AB} {ms:Nat->Hj} {N:Hl}
theorem AfM{b:AB}{m:Hj}(w:Fv r)(p:ON r m N)(gr:JS b r)(hb:b.L=[])(hl:r.Cards.length<=1000)(h6:r.Cards.all KK=true)(hn:(r.Cards.map (·.Device)).Nodup):Pg r m N:=by have hcd:=Aco gr hb;refine⟨w,p,λi o x ho hx=>?_,(by grind),⟨hl,λc hc=>Adm h6 hc⟩,hn⟩;grind [Fv.ops,T1,EH.numbers,Bb.nGuards,TB,I5,Fv.ids,OJ.k9,ah,Adm]
end
theorem Aah{m:Hj}(P:Pg g m N)(a:g.L.length<=15){o:Bi}(so:Bb o)(hk:Kn o):∃l:Bj,iV prog fI 55 [Z8 g.Cards m N,.agg (aJ o)] 3 l.length (l.flatMap cZ)/\qo g o=some l/\l.length<=12/\l.Nodup:=by
 obtain⟨i,e,hi⟩:=TU so;have hb:=I5 so hi;have hg:o.Guards.length<=1000000:=by grind [Bb.nGuards]
 have:=AfK P a (λi o x ho hx=>(I5 (P.w.ops i o ho).1 (P.w.ids i o x ho hx)).2) so hi (TP fI so e) λb=>⟨hb.1,hg,hk,b⟩;grind [Ag,RJ]
theorem Al3{x:Option α}{Q:α->Prop}(h:T x Q):T x λv=>x=some v/\Q v:=by obtain⟨v,e,q⟩:=h;exact⟨v,e,e,q⟩
theorem Iv{o:Bi}(h:T (qo g o) λl=>l.length<=3000):T (jm g o) λl=>l.length<=200000:=by unfold jm;refine .bindc (zh _) λv1 _=> .ite (λ_=> .some aC) λ_=> .bind (h.mono λa h4=>?_);grind [cX,T.some,Od]
section
variable {gl:CC}
abbrev DnV(gl:CC)(fi:FuncId)(fa fc:Bo)(p:Ab->Bool):Prop:=R3 prog gl fi fa fc (λx:Ab=>[.agg (aj x)]) (λx:Bool=>bG x) (λk=>some (p k))
theorem AfL{p:Ab->Bool}(hv:DnV gl fi fa fc p){l:AH}(hn:l.length<=1000000):iV prog gl 207 [aE aj l,.clo (.func fi) fa fc] 42 (l.filter p).length ((l.filter p).flatMap aj):=by
 refine OW func207 ?_;refine dLl (l:=l) aa (λk:Nat=>(s0 23 gl [(1,.clo (.func fi) fa fc),(5,.rsl 0 0 ((l.take k).filter p).length),(8,aE aj l),(9,iG (ah l)),(10,iG (k:Int))] [(0,Bt ((l.take k).filter p))] 1 0)) 1110122 [] [hc hv.im,hc (ac.imm [])] (λB k x hx hz k5=>?_) (λB=>?_)
 .have hlt:=(cr hx).1;have hl:((l.take k).filter p).length<=k:=M1 (Nr _ _) (by rw[Ns];omega);rw[Hv,hx,Option.toList_some,O8] at k5;generalize (l.take k).filter p=q at k5 hl⊢;have hcs:=hv.cs (c:=2) (x:=x) rfl (aY (aG 20 (.agg (aj x)) aH) bf);cases hp:p x with
  |true=>rw[hp] at hcs;rw[List.filter_cons_of_pos hp,List.filter_nil] at k5;exact jw [hr 11 (Dk hx),AA 12 (ac.ixZ hz),AA 13 (ac.ptZ aW hz),Go.Proofs.YtlimmeehdfbheaaGreatDoor.hz 16 [] hcs,Tn 20 ac 24 q x aa,hbb 21 (Xl (q:=k) aa)] [hc hv.im,hc (el (q++[x])),hc (ac.imm (q++[x]))] k5
  |false=>rw[hp] at hcs;rw[List.filter_cons_of_neg (by simp[hp]),List.filter_nil,LK] at k5;exact jw [hr 11 (Dk hx),AA 12 (ac.ixZ hz),AA 13 (ac.ptZ aW hz),Go.Proofs.YtlimmeehdfbheaaGreatDoor.hz 16 [] hcs,hbb 21 (Xl (q:=k) aa)] [hc hv.im,hc (el q),hc (ac.imm q)] k5
 .rw[D5];exact EI [hr 11 (Fe (s:=l))] (ac.imm (l.filter p))
section
variable {gg:Aj}
theorem Adk{l:Bj}{b:Bool}{ss:Ni}(hc:ba prog gl 286 [iG o.Kind] (bG b))(hA:b=true->ba prog gl 55 [.ptr (Ag gg) 0,.agg (aJ o)] (aE cZ l))(hP:b=true->ba prog gl 287 [aE cZ l,iG o.By] (aE Jc ss)):ba prog gl 209 [.ptr (Ag gg) 0,.agg (aJ o)] (aE Jc (bif b then ss else[])):=by
 refine Gh func209 ?_;cases b with
 |false=>exact Ar [hf 7 hc] []
 |true=>exact Ar [hf 7 hc,hf 11 (hA rfl),hf 14 (hP rfl)] []
def Abr(n:Nat)(o:Bi):Bool:=bif (0:Int)<(n:Int)then decide ((n:Int)=ah o.Path)else false
theorem AhS(h:Sf gl gg I){ss:Ni}(hS:ba prog gl 209 [.ptr (Ag gg) 0,.agg (aJ (I.o x))] (aE Jc ss)):ba prog gl 208 [.agg (aj x),.ptr [.ptr (Ag gg) 0] 0] (bG (Abr ss.length (I.o x))):=by
 have ho:=h.op x;refine Gh func208 ?_;unfold Abr;cases c:decide ((0:Int)<(ss.length:Int)) with
 |false=>exact Ar [hf 10 ho,hf 15 hS,hr 18 c] []
 |true=>exact Ar [hf 10 ho,hf 15 hS,hr 18 c] []
theorem Acn(h:Sf gl gg I){ss:Ab->Ni}(hS:∀x,ba prog gl 209 [.ptr (Ag gg) 0,.agg (aJ (I.o x))] (aE Jc (ss x)))(hO:ba prog gl 145 [.ptr (Ag gg) 0,aE aj ids] (aE aj row))(hn:row.length<=1000):ba prog gl 114 [.ptr (Ag gg) 0,aE aj ids] (aE aj (row.filter λx=>Abr (ss x).length (I.o x))):=by have hv:DnV gl 208 [] [.ptr [.ptr (Ag gg) 0] 0] (λx=>Abr (ss x).length (I.o x)):=⟨aH,bf,aY (aG 20 (.ptr [.ptr (Ag gg) 0] 0) aH) bf,λx r e=>by cases e;exact AhS h (hS x)⟩;have hF:=AfL hv (l:=row) aa;refine Gh func114 ?_;exact Ar [hf 7 hO,ho 9 [aE aj row,.clo (.func 208) [] [.ptr [.ptr (Ag gg) 0] 0]] [] hF (kF _)] [hc (ac.al (row.filter λx=>Abr (ss x).length (I.o x)))]
end
end
def AjU(k:Int):Bool:=(E0 k).getD false
theorem Afw{k:Int}(h:0<=k/\k<=13):E0 k=some (AjU k)/\ba prog fI 286 [iG k] (bG (AjU k)):=by
 have:k=0\/k=1\/k=2\/k=3\/k=4\/k=5\/k=6\/k=7\/k=8\/k=9\/k=10\/k=11\/k=12\/k=13:=aa;rcases this with rfl|rfl|rfl|rfl|rfl|rfl|rfl|rfl|rfl|rfl|rfl|rfl|rfl|rfl
 all_goals
  refine⟨aH,Gh func286 ?_⟩
  exact Ar [] []
def MG(g:AB)(o:Bi):Bj:=(qo g o).getD []
def Ur(g:AB)(o:Bi):Ni:=bif AjU o.Kind then tpL o.By (MG g o) else[]
theorem Afx{m:Hj}(P:Pg g m N)(a:g.L.length<=15)(so:Bb o)(hk:Kn o)(h13:0<=o.Kind/\o.Kind<=13):ba prog fI 209 [.ptr (Ag ⟨g.Cards,m,N⟩) 0,.agg (aJ o)] (aE Jc (Ur g o))/\jm g o=some (Ur g o)/\Aaa o.By (Ur g o)/\ba prog fI 55 [.ptr (Ag ⟨g.Cards,m,N⟩) 0,.agg (aJ o)] (aE cZ (MG g o))/\qo g o=some (MG g o)/\(MG g o).length<=12:=by
 obtain⟨l,hA,e,hl,hn⟩:=Aah P a so hk;obtain⟨c1,c2⟩:=Afw h13;have hA':ba prog fI 55 [.ptr (Ag ⟨g.Cards,m,N⟩) 0,.agg (aJ o)] (aE cZ l):=by grind [Ba.fo,rZ,Ag,RJ]
 grind [MG,Ur,Adk,Afv,jm,cX,LE,Afu,tpL,Aab,AjT]
section
variable {g:AB} {m:Hj} {N:Hl} (P:Pg g m N) (h14:g.L.length<=15) (hkn:∀(k:Nat) (o:Bi),g.L[k]?=some o->Kn o)
include P h14 hkn
theorem AlV(x:Ab):ba prog fI 209 [.ptr (Ag ⟨g.Cards,m,N⟩) 0,.agg (aJ ((BW g m N).o x))] (aE Jc (Ur g ((BW g m N).o x)))/\Aaa x.By (Ur g ((BW g m N).o x))/\(x∉g.IDs->Ur g ((BW g m N).o x)=[])/\Aac g x=some (Ur g ((BW g m N).o x)):=by
 have w:=P.w;have nI:=w.nI;have nL:=w.nL;by_cases hx:x∈g.IDs
 .obtain⟨i,o,e1,e2,e3,_,so,a⟩:=w.place (lj.2 hx);obtain⟨h1,h2,h3,_⟩:=Afx P h14 so (hkn i o e3) (by have:=a.kind;omega);rw[(P.op e3 e2).2];rw[<-(I5 so (w.ids i o x e3 e2)).1] at h3;refine⟨h1,h3,λh=>absurd hx h,?_⟩;unfold Aac;rw[dC aa,aL,e1,show decide ((i:Int)<0)=false from C3 aa,A9,au,e3,aL,h2];rfl
 .have e:(BW g m N).o x=ip:=by unfold Gi.o;rw[Aja w P.p,jv.2 hx];rfl
  have hp:gO g x<0:=Int.not_le.1 λh=>hx (lj.1 h);have e2:Ur g ip=[]:=rfl;rw[e,e2];refine⟨Adk (b:=false) (l:=[]) (ss:=[]) (Afw (k:=0) Cd).2 (λh=>by cases h) (λh=>by cases h),Aab,λ_=>rfl,?_⟩;unfold Aac;rw[dC aa,aL,CM hp,ax]
include P h14 hkn
def isC(g:AB)(I:Gi)(x:Ab):Bool:=Abr (Ur g (I.o x)).length (I.o x)
theorem Abj{v:AH}(hv:C5 g v)(a:v.Nodup):∃row:AH,ba prog fI 114 [.ptr (Ag ⟨g.Cards,m,N⟩) 0,aE aj v] (aE aj (row.filter (isC g (BW g m N))))/\KJ g v=some (row.filter (isC g (BW g m N)))/\row.Perm v/\(row.Pairwise λx y=>M4 (BW g m N) x y<0)/\row.length<=15:=by
 have w:=P.w;have nI:=w.nI;have hI:=Wf (SN w P.p);have hv14:v.length<=15:=by have:=EC a hv.sub;omega
 obtain⟨row,j,b,f⟩:=Hf w P.p aa a hv.sub;have hrl:row.length<=15:=by rw[b.length_eq];exact hv14
 have hO:ba prog fI 145 [.ptr (Ag ⟨g.Cards,m,N⟩) 0,aE aj v] (aE aj row):=by obtain⟨r,e,l,q⟩:=Uk (SP (BW g m N)) a hv14;have:r=row:=JK (SP (BW g m N)).tr NQ (l.trans b.symm) q f;grind [AbM,SN,Pg.p,List.Perm.length_eq]
 refine⟨row,Acn hI (by grind [AlV]) hO aa,?_,b,f,hrl⟩;unfold KJ;rw[j,aL];refine T.eq (.bind (T.mono (T.forA (Q:=λr:AH=>r=row.filter (isC g (BW g m N))) row.length (λk acc=>acc=(row.take k).filter (isC g (BW g m N))) aa aC (λk acc hk hj=>?_) λacc hj=>?_) λ_ h=> .some h))
 .obtain⟨x,hx⟩:∃x,row[k]?=some x:=by simp_all
  obtain⟨i,o,e1,e2,e3,_,so,s⟩:=w.place (lj.2 (hv.sub x (b.mem_iff.1 (bO hx))));obtain⟨_,hS,hl,_⟩:=Afx P h14 so (hkn i o e3) (by grind [EH]);have hl:=hl.n;have ha:acc.length<=15:=by grind
  unfold Nn;dsimp only;rw[eA hk,ax,au,hx,aL,dC aa,aL,e1,show decide ((i:Int)<0)=false from(by simp_all),A9,au,e3,aL,hS,aL];have hc:(bif 0<ah (Ur g o)then(((some o:Option Bi)).bind λd=>some (decide (ah (Ur g o)=ah d.Path)))else(some false))=some (isC g (BW g m N) x):=by unfold isC;rw[(P.op e3 e2).2];grind [Abr,ah]
  rw[hc,aL,Hv,hx,Option.toList_some,O8];cases c:isC g (BW g m N) x with
  |true=>rw[ax,aL,show List.filter (isC g (BW g m N)) [x]=[x] by simp[c]];exact .bind (.app (by grind) (.some ⟨aq aa,by rw[hj]⟩))
  |false=>rw[A9,show List.filter (isC g (BW g m N)) [x]=[] by simp[c],LK];exact .some ⟨aq aa,hj⟩
 .unfold Nn;dsimp only;rw[eF,A9];exact .some (show acc=_ by grind)
end
structure AoU where
 Set:Bj
 Pub:Nat
 By:Ab
 N:Int
section
variable {gl:CC}
end
theorem AhC{N:Hl}{j:Int}(h:j∈u):lvN N j<lvF N u:=by
 have key:∀(u:Bj) (a:Int),a<=u.foldl (λa j=>Fi a (lvN N j+1)) a/\∀j∈u,lvN N j+1<=u.foldl (λa j=>Fi a (lvN N j+1)) a:=by intro u;induction u<;>grind [Fi]
 have:=(key u 1).2 j h;unfold lvF;omega
section
variable {g:AB} {m:Hj} {N:Hl} (P:Pg g m N)
include P
theorem Afy:∀(d i k:Nat) {y z:BX},i-k<=d->O9 g i k=true->N[i]?=some y->N[k]?=some z->z.level<y.level
 |0,i,k,y,z,hd,h,_,_=>absurd (P.w.inlt i k h).1 aa
 |d+1,i,k,y,z,hd,h,hy,hz=>by
  have w:=P.w;have one:∀{i:Nat} {u:Bj} {y:BX},N[i]?=some y->g.Up[i]?=some u->(k:Int)∈u->z.level<y.level:=λ{i u y} h1 h2 h3=>by rw[P.p.lv i y u h1 h2];have:=AhC (N:=N) h3;grind [lvN]
  obtain⟨u,hu,h1|⟨j,v,h1,h2,h3⟩⟩:=w.la i k h
  .grind
  .have hj:=(w.inlt i j h1);obtain⟨q,hq⟩:∃q,N[j]?=some q:=by grind
   have hk:=(w.up j v h2).2 _ h3;exact Int.lt_trans (one hq h2 h3) (Afy d i j aa h1 hy hq)
theorem AhD(h:(BW g m N).bef x y=true):M4 (BW g m N) x y<0:=by
 rw[AcI P.w P.p] at h;split at h
 .rename_i i j hi hj;obtain⟨hi,_⟩:=gb hi;obtain⟨hj,_⟩:=gb hj;obtain⟨a,a1,a2,_⟩:=Wg P.w P.p hi;obtain⟨b,b1,b2,_⟩:=Wg P.w P.p hj;have:=Afy P _ _ _ (C6 _) h b1 a1;exact SO.2 (by grind)
 .cases h
end
section
variable {g:AB} {m:Hj} {N:Hl} (P:Pg g m N) (h14:g.L.length<=15) (hkn:∀(k:Nat) (o:Bi),g.L[k]?=some o->Kn o)
include P h14
theorem AjV:∃al,ba prog fI 17 [.ptr (Ag ⟨g.Cards,m,N⟩) 0] (aE aj al)/\al.Perm g.IDs/\C5 g al/\al.Nodup:=by
 have w:=P.w;have nI:=w.nI;have pl:=P.p.len;have e:US (λ_=>true) N=g.IDs:=by
  refine List.ext_getElem? λi=>?_;unfold US;rw[List.filter_eq_self.2 aC,Nh,List.getElem?_zipIdx];cases h:N[i]? with
  |none=>rw[List.getElem?_eq_none_iff] at h;exact(List.getElem?_eq_none aa).symm
  |some y=>exact(P.p.nd i y h).2.1.symm
 obtain⟨r,h1,h2,_⟩:=Uk Lo (l:=g.IDs) w.nd aa;refine⟨r,AhG (gg:=⟨g.Cards,m,N⟩) (by show N.length<=15;omega) (by show Pm Gu (US _ N)=_;rw[e];exact h1) (by show r.length=(US _ N).length;rw[e];exact h2.length_eq),h2,⟨λx hx=>h2.mem_iff.1 hx,by rw[h2.length_eq];omega⟩,h2.nodup_iff.2 w.nd⟩
include hkn
end
section
set_option maxHeartbeats 2000000
def QL(g:AB)(a:Ab)(b:Ab):Fw:=
 (fC g a).bind λv1=>(fC g b).bind λe=>(bif 0<=v1 then(bif 0<=e then((aS g.In (Fi e 0)).bind λc=>(aS c (Fi v1 0)).bind λd=>some d)else(some false))else(some false)).bind λf=>some f
theorem SJ{g a b}:DC prog gl (QL g a b) 222 [.agg (aI g),.agg (aj a),.agg (aj b)] bG:=
 cy func222 λK=>BU 11 (dX gl) λv1=>BU 14 (dX gl) λh=>cN 11110 (sp [] [(3,.ref 0 0),(7,iG v1),(8,iG h)] [ob 0 30 (aI g)] 1) []<|cC 11110 (λe=>sk [] [(6,bG e)] [] 0) (λe=>rv K) λe f=>aF 16 (aF 20 (ak λi c=>ak λj d=>aw [AA 26 (zV.ixZ c),AA 27 (zV.p1Z Vt c),AA 30 (rO.ixZ d),AA 31 (rO.p1Z tO d)]<|rx f)<|rx f)<|rx f
def eqQ(a b:Bj)(k:Nat):Option (Nat⊕Bool):=match a[k]? with
 |none=>some (.inr true)
 |some x=>match b[k]? with
  |none=>none
  |some y=>bif x≠y then some (.inr false)else some (.inl (k+1))
theorem AiP{a b:Bj}(hl:a.length=b.length)(hn:a.length<=1000):AQ (eqQ a b) 0=some (decide (a=b)):=T.eq (T.loop (λk=>k<=a.length/\a.take k=b.take k) (λk=>a.length-k) ⟨aa,aC⟩ aa λk ⟨hk,he⟩=>by
 unfold eqQ;cases hx:a[k]? with
 |none=>have:=List.getElem?_eq_none_iff.1 hx;rw[List.take_of_length_le aa,List.take_of_length_le aa] at he;exact .some (CM he).symm
 |some x=>
  have hlt:=(cr hx).1;obtain⟨y,hy⟩:∃y,b[k]?=some y:=⟨_,EA aa⟩;rw[hy];refine .dec (λh=> .some (C3 λh2=>h ?_).symm) λh=> .some ⟨⟨aa,?_⟩,aa⟩
  .subst h2;exact Bh (hx.symm.trans hy)
  .rw[Hv,Hv,hx,hy,he,Decidable.of_not_not h])
def Aa3(a b:Bj):Fw:=bif a.length<=1000/\b.length<=1000 then some (decide (a=b))else none
theorem AeQ{a b}:DC prog gl (Aa3 a b) 19 [aE cZ a,aE cZ b] bG:=λr h=>by
 unfold Aa3 at h;cases c:decide (a.length<=1000/\b.length<=1000) with
 |false=>rw[c] at h;cases h
 |true=>
  rw[c] at h;obtain⟨ha,hb⟩:=DP c;obtain rfl:=Bh h;refine Gh func19 ?_;by_cases hl:a.length=b.length
  .refine pN (λk:Nat=>(s0 26 gl [(0,aE cZ a),(1,aE cZ b),(5,iG (k:Int))] [] 0 0)) 1110122 (AiP hl aa) [hr 10 (show decide (ah a≠ah b)=false by unfold ah;rw[hl];simp)] [] (λB k w hs k5 d=>?_);unfold eqQ at hs;cases hx:a[k]? with
   |none=>rw[hx] at hs;cases hs;have:=List.getElem?_eq_none_iff.1 hx;rw[<-d _ rfl];exact Ar [hr 14 (show decide ((k:Int)<ah a)=false from C3 (by unfold ah;omega))] []
   |some x=>
    have hlt:=(cr hx).1;obtain⟨y,hy⟩:∃y,b[k]?=some y:=⟨_,EA aa⟩;rw[hx,hy] at hs;have hz:=Bq hx;have hz':=Bq hy;cases c:decide (x≠y) with
    |true=>simp only[c,ax] at hs;cases hs;rw[<-d _ rfl];exact Ar [hr 14 (Dk hx),AA 19 (rZ.ixZ hz),AA 20 (rZ.p1Z tZ hz),AA 23 (rZ.ixZ hz'),AA 24 (rZ.p1Z tZ hz'),hr 25 c] []
    |false=>simp only[c,A9] at hs;cases hs;exact jw [hr 14 (Dk hx),AA 19 (rZ.ixZ hz),AA 20 (rZ.p1Z tZ hz),AA 23 (rZ.ixZ hz'),AA 24 (rZ.p1Z tZ hz'),hr 25 c,hbb 16 (Xl (q:=k) aa)] [] (k5 _ rfl) []
  .rw[show decide (a=b)=false from C3 λh=>hl (by rw[h])];exact Ar [hr 10 (show decide (ah a≠ah b)=true from CM (by unfold ah;omega))] []
def KZ(g:AB)(v1:AH)(s3:AH×Int)(a:Bool×Int):Option ((Bool×Int)⊕(Bool)):=
 bif a.2<ah v1 then((aS v1 s3.2).bind λb=>(aS v1 a.2).bind λc=>(QL g b c).bind λd=>bif d then(some (.inl (false,wI (a.2+1))))else(some (.inl (a.1,wI (a.2+1)))))else(some (.inr a.1))
def Nk(g:AB)(v1:AH)(s3:AH×Int):Option ((AH×Int)⊕AH):=
 bif s3.2<ah v1 then((AQ (KZ g v1 s3) (true,0)).bind λa=>bif a then((aS v1 s3.2).bind λb=>(aT 24 s3.1 [b]).bind λc=>some (.inl (c,wI (s3.2+1))))else(some (.inl (s3.1,wI (s3.2+1)))))else(some (.inr s3.1))
def LW(g:AB)(ids:AH):Option AH:=
 (KJ g ids).bind λv1=>(AQ (Nk g v1) ([],0)).bind λa=>some a
theorem XM{g ids}:Mu prog gl (LW g ids) 138 [.agg (aI g),aE aj ids] 42 aj:=
 gc func138 λK=>ak λv1 e2=>aw [hf 12 (ac.fo (XV gl e2))]<|rdL 111101 11110122 (λk=>sp [] [(6,.rsl 0 0 k.length)] [ob 0 42 (k.flatMap aj)] 1) (λs3=>sp [] [(2,.ref 0 0),(5,aE aj v1),(6,.rsl 1 0 s3.1.length),(7,iG s3.2)] [ob 0 30 (aI g),ob 1 42 (s3.1.flatMap aj)] 2) [hc (ac.imm [])] (vs:=[42]) (ρ:=[(0,0),(1,1)]) (kd:=[(1,.row)]) (λk=>mr c0 K (ac.imm _)) λs3 n k6=>aF 16 (rdL 11110122102101 1111012210210122 (λc=>sf [] [(8,bG c)]) (λa=>sf [] [(8,bG a.1),(9,iG a.2)]) [hc (el s3.1),hc (ac.imm s3.1)] (ρ:=[(0,0),(1,1)]) (kd:=[(1,.row)]) (λc=>aF 35 (ak λo d=>ak λe l=>aw [AA 39 (ac.ixZ d),AA 40 (ac.ptZ aW d),dg 42 ac l]<|cj n [hc (el e),hc (ac.imm e)] (ρ:=[(0,0),(1,3)]) (kd:=[(1,.row)]))<|cj n [hc (el s3.1),hc (ac.imm s3.1)] (ρ:=[(0,0),(1,1)]) (kd:=[(1,.row)])) λa f m=>aF 22 (ak λp h=>ak λq i=>ak λr j=>aw [AA 28 (ac.ixZ h),AA 29 (ac.ptZ aW h),AA 32 (ac.ixZ i),AA 33 (ac.ptZ aW i)]<|kV (λb=>aw [hf 34 (cF (SJ gl j) b)]<|cj f [hc (el s3.1),hc (ac.imm s3.1)] (ρ:=[(0,0),(1,1)]) (kd:=[(1,.row)])) λb=>aw [hf 34 (cF (SJ gl j) b)]<|cj f [hc (el s3.1),hc (ac.imm s3.1)] (ρ:=[(0,0),(1,1)]) (kd:=[(1,.row)]))<|aA c1 m [hc (el s3.1),hc (ac.imm s3.1)] (ρ:=[(0,0),(1,1)]) (kd:=[(1,.row)]))<|aA c1 k6 [hc (el s3.1),hc (ac.imm s3.1)] (ρ:=[(0,1)]) (kd:=[(0,.row)])
def LX(g:AB)(commit:Ab):Option Bj:=
 (fC g commit).bind λv1=>bif v1<0 then(some [])else((aS g.L v1).bind λa=>(qo g a).bind λb=>some b)
theorem XN{g commit}:Mu prog gl (LX g commit) 140 [.agg (aI g),.agg (aj commit)] 3 cZ:=
 gc func140 λK=>ak λv1 e2=>aw [hf 8 (dX gl e2)]<|aF 10 (mr c0 K (rZ.imm _))<|ak λa e5=>ak λb e7=>aw [AA 15 (eJ.ixZ e5),AA 16 (eJ.ptZ GN e5),ho 17 [.agg (aI g),.agg (aJ a)] [] (GU gl e7) (lZ b)]<|mr c0 K (rZ.imm _)
def Oh(g:AB)(ids:AH):Option (Ab×Bool):=
 (LW g ids).bind λv1=>bif ah v1≠1 then(some (⟨0,0,0⟩,false))else((zY g ids).bind λe=>(lg e.In).bind λf=>(aS v1 0).bind λh=>(LX g h).bind λa=>(lg a).bind λb=>(Aa3 f b).bind λc=>bif(!c)then(some (⟨0,0,0⟩,false))else((aS v1 0).bind λd=>some (d,true)))
theorem AdO{g ids}:DC prog gl (Oh g ids) 61 [.agg (aI g),aE aj ids] (λr=> .tup [.agg (aj r.1),bG r.2]):=
 cy func61 λK=>ak λv1 e2=>aw [hf 10 (ac.fo (XM gl e2))]<|aF 13 (aP c0 K [])<|ak λk e5=>ak λl e7=>ak λm e=>ak λf b=>ak λh c=>ak λi d=>aw [hf 17 (Jh gl e5),hf 19 (rZ.fo (vH gl e7)),AA 23 (ac.ixZ e),AA 24 (ac.ptZ aW e),hf 25 (rZ.fo (XN gl b)),hf 26 (rZ.fo (vH gl c)),hf 27 (AeQ gl d)]<|aF 28 (aP c0 K [])<|ak λj a=>aw [AA 31 (ac.ixZ a),AA 32 (ac.ptZ aW a)]<|aP c0 K []
def Pw(g:AB)(ids:AH)(device:Int)(commit:Ab)(s1:Int×Int):Option ((Int×Int)⊕(Int)):=
 bif s1.2<ah ids then((aS ids s1.2).bind λc=>(fC g c).bind λb=>bif b<0 then(some (.inl (s1.1,wI (s1.2+1))))else((aS g.L b).bind λa=>(bif a.Kind=6 then(bif a.By=device then(some (decide (a.Epoch=commit)))else(some false))else(some false)).bind λd=>bif d then(some (.inl (wI (s1.1+1),wI (s1.2+1))))else(some (.inl (s1.1,wI (s1.2+1))))))else(some (.inr s1.1))
def Sx(g:AB)(ids:AH)(device:Int)(commit:Ab):JP:=
 (AQ (Pw g ids device commit) (0,0)).bind λa=>some a
theorem Aa4{g ids device commit}:DC prog gl (Sx g ids device commit) 62 [.agg (aI g),aE aj ids,iG device,.agg (aj commit)] iG:=
 cy func62 λK=>rdL 11101 1110122 (λh=>sg [] [(9,iG h)]) (λs1=>so [0,3] [(4,.ref 0 0),(7,.ref 1 0),(9,iG s1.1),(10,iG s1.2)] [ob 0 30 (aI g),ob 1 42 (aj commit)] 2) [] (λh=>aP c0 K []) λs1 k5 i=>aF 16 (ak λj c=>ak λk f=>aw [AA 22 (ac.ixZ c),AA 23 (ac.ptZ aW c),hf 24 (dX gl f)]<|aF 26 (cj k5 [])<|ak λd e=>aw [AA 30 (eJ.ixZ e),AA 31 (eJ.ptZ GN e)]<|cN 11101221021110 (so [] [(12,.ref 2 0)] [ob 2 50 (aJ d)] 3) []<|cC 11101221021110 (λa=>sx [12] [(46,bG a)] [ob 0 30 (aI g),ob 1 42 (aj commit)] 2) (λa=>eH [46] (cj k5 [])<|cj k5 []) λa b=>aF 34 (aF 40 (aw [hV 45 (dU d.Epoch commit rfl)]<|aA c0 b [])<|aA c0 b [])<|aA c0 b [])<|aA c1 i []
def RY(g:AB)(n:Int)(s:List DR×Int):Option ((List DR×Int)⊕(List DR)):=
 (bif s.2<n then(some (decide (s.2<5)))else(some false)).bind λj=>bif j then((aT 32 s.1 [(⟨wU (wI ((wI (1000+(wI (10*(ah g.L)))))+s.2)),[]⟩:DR)]).bind λv=>some (.inl (v,wI (s.2+1))))else(some (.inr s.1))
def LL(g:AB)(o:Bi):Option Bi:=
 (E0 o.Kind).bind λv1=>bif(!v1)then(some {o with Path:=[]})else((jm g {o with Path:=[]}).bind λa=>(AQ (RY g (ah a)) ([],0)).bind λx=>some {o with Path:=x})
theorem Vq{g o}:DC prog gl (LL g o) 10 [.agg (aI g),.agg (bF [9] (aJ {o with Path:=[]}))] (λr=> .agg (aJ r)):=
 cy func10 λK=>BU 10 (oX gl) λv1=>aF 12 (rv K)<|ak λa e4=>aw [hf 16 (UY [.agg (aI g),.agg (bF [9] (aJ {o with Path:=[]}))] (nH.fo (E6 gl e4)))]<|Je 1111101 (λx=>sp [] [(3,.ref 1 0),(4,.ref 2 0)] [ob 1 50 (aJ {o with Path:=x}),ob 2 50 (bF [4,9,14,15,19,22,24] (aJ ip))] 3) (λs=>sp [] [(2,.ref 0 0),(3,.ref 1 0),(4,.ref 2 0),(6,iG (ah a)),(7,iG s.2)] [ob 0 30 (aI g),ob 1 50 [iG o.By,iG o.Seq,iG o.Kind,iG o.At,aE aj o.Past,iG o.Device,iG o.Old,iG o.Member,iG o.Role,.rsl 3 0 s.1.length,iG o.Epoch.By,iG o.Epoch.Seq,uG o.Epoch.Sum,iG o.N,aE cY o.Body,aE cW o.Refs,iG o.Of.By,iG o.Of.Seq,uG o.Of.Sum,aE cZ o.Guards,iG o.Need,iG o.Wait,aE cz o.Boxes,uG o.Pub,aE bp o.Hist,uG o.Sig.R,uG o.Sig.S],ob 2 50 (bF [4,9,14,15,19,22,24] (aJ ip)),ob 3 87 (s.1.flatMap bY)] 4) [hc (bZ.imm [])] (λx=>rv K) λs k k'=>OI 11111012200 (sf [] []) (DH bZ s.1) 24 (ak λv e=>aw [AA 36 (C8 (wI ((wI (1000+(wI (10*(ah g.L)))))+s.2))),Tv 39 bZ e [uG (wU (wI ((wI (1000+(wI (10*(ah g.L)))))+s.2))),Iy] rfl]<|cj k [hc (el v),ZV bZ e [uG (wU (wI ((wI (1000+(wI (10*(ah g.L)))))+s.2))),Iy]] (kd:=[(3,.app (s.1.flatMap bY) [uG (wU (wI ((wI (1000+(wI (10*(ah g.L)))))+s.2))),Iy] (bY (⟨wU (wI ((wI (1000+(wI (10*(ah g.L)))))+s.2)),[]⟩:DR)) (v.flatMap bY))])) (aA c1 k' [hc (bZ.al s.1)]) λk2=>aF 20 (aA c0 k2 (DH bZ s.1))<|aA c0 k2 (DH bZ s.1)
def Md(l:Bj)(most:Int)(a:AB×Int):Option ((AB×Int)⊕(AB)):=
 (bif a.2<most then(bif a.2<4 then(some true)else(some (decide (wI (2*a.2)<ah l))))else(some false)).bind λg=>bif g then((bif wI (2*a.2)<ah l then((aS l (wI (2*a.2))).bind λh=>some h)else(some 0)).bind λi=>(bif wI ((wI (2*a.2))+1)<ah l then((aS l (wI ((wI (2*a.2))+1))).bind λj=>some j)else(some 0)).bind λd=>(sd a.1 i d).bind λk=>(LL a.1 ({k with Path:=[]})).bind λb=>(bif b.Kind=6 then((iq d 7).bind λm=>some (decide (0<m)))else(some false)).bind λn=>(bif n then((Ja a.1 b.Past).bind λe=>(Oh a.1 e).bind λc=>(bif c.2 then((Sx a.1 e b.By c.1).bind λo=>some ({b with Epoch:=c.1,N:=o}))else(some b):Option Bi).bind λp=>some p)else(some b):Option Bi).bind λq=>(nR q).bind λr=>(AO a.1 r).bind λf=>bif f.2=0 then(some (.inl (f.1,wI (a.2+1))))else(some (.inl (a.1,wI (a.2+1)))))else(some (.inr a.1))
def Om(l:Bj)(most:Int):Option AB:=
 (r8).bind λv1=>(ql v1).bind λa=>(Jf a).bind λb=>(AQ (Md l most) (b,0)).bind λc=>some c
theorem Vr{l most}:DC prog gl (Om l most) 22 [aE cZ l,iG most] (λr=> .agg (aI r)):=
 cy func22 λK=>ak λv1 e2=>ak λM e4=>ak λN e6=>aw [hf 15 (rZ.fo (E9 gl e2)),hf 16 (bT.fo (GQ gl e4)),hf 17 (M8 gl e6)]<|rdL 11101 1110122 (λA=>sp [] [(4,.ref 0 0),(5,.ref 1 0)] [ob 0 30 (bF [0,1,2,3,4] (aI xm)),ob 1 30 (aI A)] 2) (λh=>so [] [(4,.ref 0 0),(5,.ref 1 0),(6,iG h.2)] [ob 0 30 (bF [0,1,2,3,4] (aI xm)),ob 1 30 (aI h.1)] 2) [] (λA=>aP c0 K []) λh k11 q=>cN 111012200 (sf [] []) []<|cC 111012200 (λa=>sf [] [(31,bG a)]) (λa=>eH [31] (cN 11101221021101 (sf [31] [(7,iG 0),(8,iG 0),(38,bG (decide (wI (2*h.2)<ah l)))]) []<|cC 11101221021101 (λb=>sf [38] [(7,iG b)]) (λb=>cN 111012210211101 (sf [] [(49,bG (decide (wI ((wI (2*h.2))+1)<ah l)))]) []<|cC 111012210211101 (λc=>sf [49] [(8,iG c)]) (λc=>ak λB s=>ak λt u=>aw [hf 60 (Jy gl s),hf 61 (Vq gl u)]<|cN 11101221021111100 (so [7] [(9,.ref 2 0)] [ob 2 50 (aJ t)] 3) []<|cC 11101221021111100 (λd=>sf [8] [(69,bG d)]) (λd=>cC 11101221021111101 (λe=>so [69] [] [ob 2 50 (aJ e)] 3) (λe=>ak λC e32=>ak λD v=>aw [hf 93 (E8 gl e32),hf 94 (M9 gl v)]<|aF 98 (cj k11 [])<|cj k11 []) λe i=>eH [69] (ak λE w=>ak λF x=>cC 111012210211111013111 (λf=>so [69] [] [ob 2 50 (aJ f)] 3) (λf=>aA c0 i []) λf j=>aw [hf 73 (ac.fo (ua gl w)),hf 77 (AdO gl x)]<|aF 79 (ak λH y=>aw [hf 88 (Aa4 gl y)]<|aA c0 j [])<|aA c0 j [])<|aA c0 i []) λd k=>aF 64 (ak λI z=>aw [hf 67 (iL gl z)]<|aA c0 k [])<|aA c0 k []) λc m=>eH [49] (ak λJ n=>aw [AA 54 (rZ.ixZ n),AA 55 (rZ.p1Z tZ n)]<|aA c0 m [])<|aA c0 m []) λb o=>eH [38] (ak λL p=>aw [AA 42 (rZ.ixZ p),AA 43 (rZ.p1Z tZ p)]<|aA c0 o [])<|aA c0 o [])<|aA c1 q []) λa g=>aF 20 (aF 23 (aA c0 g [])<|aA c0 g [])<|aA c0 g []
end
end Go.Proofs.YtlimmeehdfbheaaGreatDoor
