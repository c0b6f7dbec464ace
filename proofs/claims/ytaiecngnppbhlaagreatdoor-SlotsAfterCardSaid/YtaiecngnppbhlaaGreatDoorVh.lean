/- Texts. -/
import Derived.Test.YtaiecngnppbhlaaGreatDoorV6
namespace Go.Proofs.YtaiecngnppbhlaaGreatDoor
set_option linter.unusedSectionVars false
set_option linter.unusedVariables false
set_option linter.unusedSimpArgs false
open Go.RowKit Tryz
attribute [local irreducible] Tr dz Gp
variable (gl:List (Nat×List G))
variable {α:Type}{W ids l r:List DIdent}{o:DOp}{a b x:DIdent}{K c n:Int}{f i j k s v w:Nat}{N:List DGraphNode}{u:List Int}{g:D12G}{m:FM DIdent Int}{gg:DGraphGraph}{P:Program}{st:St}{al:DAuthList}{fi:FuncId}{L:List G}{I:Gi}
theorem SI{l:List α}{f:α->Option Bool}(hn:l.length<=1000000)(h:∀x∈l,f x=some false):bo (λs1:Int=>(bif decide (s1<ah l) then((aS l s1).bind λa=>(f a).bind λb=>bif b then(some (.inr (.inr s1))) else(some (.inl (wI (s1+1))))) else(some (.inr (.inl ()))):Option (Int⊕(Unit⊕Int)))) 0=some (.inl ()):=by
 refine T.eq (T.forI (Q:=λv:Unit⊕Int=>v= .inl ()) l.length (λ_=>True) aa trivial (λk hk _=>?_) λ_=>?_)
 .rw[eA hk,aN,au,fy hk,aL,h _ (List.getElem_mem hk),aL,cG];exact .some ⟨aq aa,trivial⟩
 .rw[eF,cG];exact .some rfl
theorem A3{l:List α}{may:α->Option Bool}(hn:l.length<=1000000)(h:∀x∈l,may x=some true):tz l may=some true:=by unfold tz Az yj;rw[show bo (nO l (λz=>AH z may)) 0=some (.inl ()) from SI hn (by grind [AH])];rfl
structure BareF (o:DOp):Prop where
 dev:o.Device≠0->o.Kind=2\/o.Kind=3\/o.Kind=11\/o.Kind=13
 old:o.Old≠0->o.Kind=13
 mem:o.Member≠0->o.Kind=3\/o.Kind=5
 role:o.Role≠0->o.Kind=2\/o.Kind=5
 path:0<ah o.Path->iE o.Kind=some true
 ep:o.Epoch≠⟨0,0,0⟩->o.Kind=6
 n:o.N≠0->o.Kind=6
 refs:0<ah o.Refs->o.Kind=6
 body:0<ah o.Body->o.Kind=6\/o.Kind=7
 of_:o.Of≠⟨0,0,0⟩->o.Kind=7\/o.Kind=8\/o.Kind=12\/o.Kind=10\/o.Kind=11\/o.Kind=13
 gu:0<ah o.Guards->o.Kind=9
 wait:o.Wait≠0->o.Kind=9
 pub:o.Pub≠0->o.Kind=9
 need:o.Need≠0->o.Kind=9\/o.Kind=1
 box:0<ah o.Boxes->o.Kind=9\/o.Kind=10\/o.Kind=11
 hist:ah o.Hist≠0->o.Kind=2\/o.Kind=13
theorem ZD(h:OO o=true):BareF o:=by
 have h:mz o=some true:=by rw[Cu,h]
 unfold mz at h;obtain⟨r,e1,h⟩:=bS h;obtain⟨s,e3,h⟩:=bS h;rcases bC h with⟨b3,h⟩|⟨b3,h⟩;· cases h
 obtain⟨t,e6,h⟩:=bS h;rcases bC h with⟨e,h⟩|⟨e,h⟩;· cases h
 obtain⟨u,e9,h⟩:=bS h;rcases bC h with⟨f,h⟩|⟨f,h⟩;· cases h
 obtain⟨j12,g,h⟩:=bS h;rcases bC h with⟨a,h⟩|⟨a,h⟩;· cases h
 obtain⟨i,j,h⟩:=bS h;rcases bC h with⟨b,h⟩|⟨b,h⟩;· cases h
 obtain⟨k,l,h⟩:=bS h;rcases bC h with⟨c,h⟩|⟨c,h⟩;· cases h
 obtain⟨m,n,h⟩:=bS h;rcases bC h with⟨d,h⟩|⟨d,h⟩;· cases h
 obtain⟨p,q,h⟩:=bS h;obtain rfl:=cP h;subst b3 e f a b c d;refine⟨λhd=>?_,λhd=>?_,λhd=>?_,λhd=>?_,λhd=>?_,λhd=>?_,λhd=>?_,λhd=>?_,λhd=>?_,λhd=>?_,λhd=>?_,λhd=>?_,λhd=>?_,λhd=>?_,λhd=>?_,λhd=>?_⟩
 .grind
 .grind
 .refine Classical.byContradiction λhc=>?_;try simp only[not_or] at hc
  simp[hd,hc] at e6
 .refine Classical.byContradiction λhc=>?_;try simp only[not_or] at hc
  simp[hd,hc] at e6
 .rw[decide_eq_true hd,aN] at e9;obtain⟨v,ev,e9⟩:=bS e9;grind
 .grind
 .grind
 .grind
 .grind
 .grind
 .grind
 .grind
 .grind
 .grind
 all_goals grind
theorem MU{kk:Nat}:∀{l:List (Nat×Bool)},(∀q∈l,q.2=true->q.1&&&kk=q.1)->La l&&&kk=La l
 |[],_=>by simp[La]
 |q::r,h=>by unfold La;rw[Nat.and_or_distrib_right,MU (l:=r) (by grind)];grind
theorem IY{a b:Nat}(ha:a<1048576)(hb:b<1048576)(h:a&&&b=a):wH (a:Int) (b:Int)=0:=by
 unfold wH;have e:BitVec.ofInt IntKind.i64.bits (a:Int)&&&BitVec.ofInt IntKind.i64.bits (b:Int)=BitVec.ofInt IntKind.i64.bits (a:Int):=by grind
 have e2:BitVec.ofInt IntKind.i64.bits (a:Int)&&& ~~~BitVec.ofInt IntKind.i64.bits (b:Int)=0:=by grind
 rw[e2];rfl
theorem jQ{a b:Int}(h:a<=n/\n<=b):xj n a b=true:=by grind [xj]
theorem kW{i:DIdent}(h:l7 i=true):Rz i=true:=by have h:=of_decide_eq_true h;unfold Rz WV;grind [jQ]
theorem GC{n:Nat}(h:Cr n=true):Z5 n=true:=by have h:=of_decide_eq_true h;grind [Z5]
theorem Vl{a:Bool}{x:Option Bool}:((bif a then x else some false)=some true)↔(a=true/\x=some true):=by cases a<;>simp
structure NumF (o:DOp):Prop where
 by_:1<=o.By/\o.By<=12
 seq:1<=o.Seq/\o.Seq<=2147483647
 at_:0<=o.At/\o.At<=2147483647
 k1:o.Kind=1->0<=o.Need/\o.Need<=20
 k2:o.Kind=2->(1<=o.Device/\o.Device<=12)/\1<=o.Role/\o.Role<=3
 k3:o.Kind=3->((1<=o.Device/\o.Device<=12)/\o.Member=0)\/(o.Device=0/\1<=o.Member/\o.Member<=8)
 k5:o.Kind=5->(1<=o.Member/\o.Member<=8)/\1<=o.Role/\o.Role<=3
 k6:o.Kind=6->l7 o.Epoch=true/\0<=o.N/\o.N<=2147483647
 k9:o.Kind=9->(1<=o.Need/\o.Need<=ah o.Guards)/\(0<=o.Wait/\o.Wait<=2147483647)/\Cr o.Pub=true
 k11:o.Kind=11->l7 o.Of=true/\1<=o.Device/\o.Device<=12
 k13:o.Kind=13->l7 o.Of=true/\(1<=o.Device/\o.Device<=12)/\1<=o.Old/\o.Old<=12
 kr:o.Kind=7\/o.Kind=8\/o.Kind=10\/o.Kind=12->l7 o.Of=true
theorem T1(h:gU o=true):NumF o:=by
 have h:ia o=some true:=by rw[jF,h]
 unfold ia at h;obtain⟨a,e3,h⟩:=bS h;rcases bC h with⟨b3,h⟩|⟨b3,h⟩;· cases h
 subst b3;rw[gT,gT,gT,aL,aL,aL] at e3;simp only[gT,mY,show mg o.Pub=some (Cr o.Pub) from kS o.Pub,aL] at h;have e1:1<=o.By/\o.By<=12:=by grind
 have e2:1<=o.Seq/\o.Seq<=2147483647:=by grind
 have e4:0<=o.At/\o.At<=2147483647:=by grind
 refine⟨e1,e2,e4,λhk=>?_,λhk=>?_,λhk=>?_,λhk=>?_,λhk=>?_,λhk=>?_,λhk=>?_,λhk=>?_,λhk=>?_⟩
 .simpa[hk,Vl] using h
 .simpa[hk,Vl] using h
 .grind
 .simpa[hk,Vl] using h
 .simpa[hk,Vl] using h
 .simpa[hk,Vl] using h
 .simpa[hk,Vl] using h
 .simpa[hk,Vl] using h
 .rcases hk with hk|hk|hk|hk<;>simpa[hk,Vl] using h
def pT(K:Int):Nat:=(nG.getD K.toNat 0).toNat
theorem vj:pT 1=2064:=dL
theorem P2:pT 2=32793:=dL
theorem zS:pT 3=21:=dL
theorem yu:pT 4=16:=dL
theorem zT:pT 5=12:=dL
theorem zU:pT 6=480:=dL
theorem zt:pT 7=640:=dL
theorem zu:pT 8=512:=dL
theorem Aw:pT 9=31744:=dL
theorem ki:pT 10=8704:=dL
theorem kC:pT 11=8705:=dL
theorem km:pT 12=512:=dL
theorem kX:pT 13=33299:=dL
theorem ic(h:1<=K/\K<=13):K=1\/K=2\/K=3\/K=4\/K=5\/K=6\/K=7\/K=8\/K=9\/K=10\/K=11\/K=12\/K=13:=aa
theorem RK(h:iE K=some true):K=1\/K=2\/K=3\/K=4\/K=13:=by grind [iE]
theorem W9(b:BareF o):∀q∈rU o,q.2=true->q.1&&&pT o.Kind=q.1:=by
 intro q hq hb;simp only[rU,List.mem_cons,List.not_mem_nil,or_false] at hq;rcases hq with rfl|rfl|rfl|rfl|rfl|rfl|rfl|rfl|rfl|rfl|rfl|rfl|rfl|rfl|rfl|rfl
 .grind [BareF.dev,P2,zS,kC,kX]
 .grind [BareF.old,kX]
 .grind [BareF.mem,zS,zT]
 .grind [BareF.role,P2,zT]
 .grind [RK,BareF.path,vj,P2,zS,yu,kX]
 .grind [BareF.ep,zU]
 .grind [BareF.n,zU]
 .grind [BareF.body,zU,zt]
 .grind [BareF.refs,zU]
 .grind [BareF.of_,zt,zu,ki,kC,km,kX]
 .grind [BareF.gu,Aw]
 .grind [BareF.need,vj,Aw]
 .grind [BareF.wait,Aw]
 .grind [BareF.box,Aw,ki,kC]
 all_goals grind [BareF.pub,P2,Aw,kX,BareF.hist]
theorem ZE(f:NumF o)(a:1<=o.Kind/\o.Kind<=13):∀q∈OC o,pT o.Kind&&&q.1≠0->q.2=true:=by
 intro q hq hne;simp only[OC,List.mem_cons,List.not_mem_nil,or_false] at hq;rcases hq with rfl|rfl|rfl|rfl|rfl|rfl|rfl|rfl|rfl|rfl
 .rcases ic a with hk|hk|hk|hk|hk|hk|hk|hk|hk|hk|hk|hk|hk
  .simp[hk,vj] at hne
  .grind [GH,jQ,NumF.k2]
  .grind [NumF,GH,jQ]
  .simp[hk,yu] at hne
  .simp[hk,zT] at hne
  .simp[hk,zU] at hne
  .simp[hk,zt] at hne
  .simp[hk,zu] at hne
  .simp[hk,Aw] at hne
  .simp[hk,ki] at hne
  all_goals grind [NumF,GH,jQ,km]
 .rcases ic a with hk|hk|hk|hk|hk|hk|hk|hk|hk|hk|hk|hk|hk
  .simp[hk,vj] at hne
  .simp[hk,P2] at hne
  .simp[hk,zS] at hne
  .simp[hk,yu] at hne
  .simp[hk,zT] at hne
  .simp[hk,zU] at hne
  .simp[hk,zt] at hne
  .simp[hk,zu] at hne
  .simp[hk,Aw] at hne
  .simp[hk,ki] at hne
  all_goals grind [NumF,kC,km,jQ]
 .rcases ic a with hk|hk|hk|hk|hk|hk|hk|hk|hk|hk|hk|hk|hk
  .simp[hk,vj] at hne
  .simp[hk,P2] at hne
  .grind [NumF,GB,jQ]
  .simp[hk,yu] at hne
  .grind [GB,jQ,NumF.k5]
  .simp[hk,zU] at hne
  .simp[hk,zt] at hne
  all_goals grind [zu,Aw,ki,kC,km,kX]
 .rcases ic a with hk|hk|hk|hk|hk|hk|hk|hk|hk|hk|hk|hk|hk
  .simp[hk,vj] at hne
  .exact jQ (f.k2 hk).2
  .simp[hk,zS] at hne
  .simp[hk,yu] at hne
  .exact jQ (f.k5 hk).2
  .simp[hk,zU] at hne
  .simp[hk,zt] at hne
  all_goals grind [zu,Aw,ki,kC,km,kX]
 .rcases ic a with hk|hk|hk|hk|hk|hk|hk|hk|hk|hk|hk|hk|hk
  .simp[hk,vj] at hne
  .simp[hk,P2] at hne
  .simp[hk,zS] at hne
  .simp[hk,yu] at hne
  .simp[hk,zT] at hne
  .exact jQ (f.k6 hk).2
  .simp[hk,zt] at hne
  all_goals grind [zu,Aw,ki,kC,km,kX]
 .rcases ic a with hk|hk|hk|hk|hk|hk|hk|hk|hk|hk|hk|hk|hk
  .simp[hk,vj] at hne
  .simp[hk,P2] at hne
  .simp[hk,zS] at hne
  .simp[hk,yu] at hne
  .simp[hk,zT] at hne
  .simp[hk,zU] at hne
  .simp[hk,zt] at hne
  .simp[hk,zu] at hne
  .exact jQ (f.k9 hk).2.1
  all_goals grind [ki,kC,km,kX]
 .rcases ic a with hk|hk|hk|hk|hk|hk|hk|hk|hk|hk|hk|hk|hk
  .grind [NumF,Sk,Sl,jQ]
  .simp[hk,P2] at hne
  .simp[hk,zS] at hne
  .simp[hk,yu] at hne
  .simp[hk,zT] at hne
  .simp[hk,zU] at hne
  .simp[hk,zt] at hne
  .simp[hk,zu] at hne
  .grind [Sk,Sl,jQ,NumF.k9]
  all_goals grind [ki,kC,km,kX]
 .grind [NumF,vj,P2,zS,yu,zT,kW,zt,zu,Aw,ki,kC,km,kX]
 .grind [vj,P2,zS,yu,zT,zU,kW,NumF.kr,Aw,NumF.k11,NumF.k13]
 grind [NumF,vj,P2,zS,yu,zT,zU,zt,zu,GC,ki,kC,km,kX]
theorem IZ{b:DBox}(h:yZ b=true):wB b=some true:=by unfold yZ at h;simp only[bA] at h;obtain⟨⟨⟨h1,h2⟩,h3⟩,h4⟩:=h;have e3:WV b.Body=true:=decide_eq_true (by have:=of_decide_eq_true h3;omega);have e4:WV b.Tag=true:=decide_eq_true (by have:=of_decide_eq_true h4;omega);grind [wB,rV,GA,GC]
theorem T2(sm:SmOp o)(h:Ct o=false):FX o=some false:=by
 have n2:=sm.nPath;have a:=sm.nHist;unfold Ct at h;simp only[Bool.or_eq_false_iff] at h;obtain⟨h1,h2,h3,h4⟩:=h;have h3:=of_decide_eq_false h3;have a1:tz o.Path (λz=>wE z)=some true:=by grind [A3,wE,ah]
 have a2:tz o.Hist (λz=>wF z)=some true:=by grind [A3,wF,ah]
 grind [SmOp,ah,FX,ib,jQ]
theorem Ax(x y:Int):f8 x y=some (if x<y then-1 else if y<x then 1 else 0):=by grind [f8,g7]
theorem MV(x y:Nat):fQ x y=some (if x<y then-1 else if y<x then 1 else 0):=by grind [fQ,g9]
theorem CZ{l:List Int}{k:Nat}(hl:l.length<=3)(hk:l[k]?=some (-1))(h:∀j,j<k->l[j]?=some 0):iy l=some (-1):=by
 unfold iy;refine T.eq (.bind ((T.search l (λy=>decide (y≠0)) (λ_ y=>y) aa (λk x hx hk=>?_) ?_).mono ?_))
 .grind [fm,eA,au,aq]
 .unfold fm;rw[eF,cG]
 .rintro r (⟨rfl,h0⟩|⟨k',x,hx,hp,rfl,h0⟩)
  .have:=h0 (-1) (bO hk);simp at this
  .refine .some ?_;grind
theorem MW(h:dt a b=true):pE a b=some true:=by
 unfold pE;rw[Ax,Ax,MV];simp only[aL];unfold dt at h;by_cases h1:a.By=b.By
 .rw[if_neg (by simp[h1])] at h;by_cases h2:a.Seq=b.Seq
  .rw[if_neg (by simp[h2])] at h;have h3:=of_decide_eq_true h;rw[CZ (k:=2) aC (by simp[h3]) (by grind)];rfl
  .rw[if_pos h2] at h;have h3:=of_decide_eq_true h;rw[CZ (k:=1) aC (by simp[h3]) (by grind)];rfl
 .rw[if_pos h1] at h;have h3:=of_decide_eq_true h;rw[CZ (k:=0) aC (by simp[h3]) (by grind)];rfl
theorem RL(h:CheckOk o)(sm:SmOp o):ChkOk o (pT o.Kind):=by
 have n1:=sm.nPast;have n2:=sm.nPath;have d:=sm.nRefs;have e:=sm.nGuards;have g:=sm.nHist;have i:=sm.nBoxes;have a:=h.kind;have kb:pT o.Kind<1048576:=by rcases ic a with hk|hk|hk|hk|hk|hk|hk|hk|hk|hk|hk|hk|hk<;>simp[hk,vj,P2,zS,yu,zT,zU,zt,zu,Aw,ki,kC,km,kX]
 have b:=ZD h.bare;have f:=T1 h.numbers;have it:=h.items;unfold yb at it;simp only[bA,List.all_eq_true] at it;obtain⟨j,t2,k,l,m,p⟩:=it;have c:=MU (W9 b);exact{
  lo:=decide_eq_false aa
  hi:=decide_eq_false aa
  kind:=by rcases ic a with hk|hk|hk|hk|hk|hk|hk|hk|hk|hk|hk|hk|hk<;>(rw[hk];decide)
  kb:=kb
  bits:=by grind [IY,Nat.and_le_right]
  rg:={
   by_:=jQ f.by_
   seq:=jQ f.seq
   at_:=jQ f.at_
   ents:=ZE f a
   guards:=by grind [A3,uR,ib,jQ]
   refs:=A3 aa λx hx=>by rw[GA];exact congrArg some (decide_eq_true (by have:=of_decide_eq_true (t2 x hx);omega))
   past:=by grind [A3,pS,kW]
   path:=by grind [A3,SmNode.n,SmOp.path,uP,rV,GC,A3,IZ]
   boxes:=by grind [A3,IZ]
   hist:=by grind [A3,uQ,pS,kW]}
  long:=T2 sm h.long
  nPast:=aa
  nGuards:=aa
  past:=by grind [MW,CheckOk.past]
  guards:=h.guards
  create:=decide_eq_decide.2 (by have:=h.create;unfold ah;simp_all)}
theorem kY{b:Nat}{l:List α}(h:l.length*b<=140737488355328):aT b [] l=some l:=by grind [aT]
theorem I0{l:List α}{x:α}(h:l[k]?=some x):ji l (k:Int) x=some l:=by have hk:=(cr h).1;unfold ji;rw[if_pos ⟨aa,aa⟩,Int.toNat_natCast];congr 1;apply List.ext_getElem?;grind
theorem RM(sm:SmOp o):pG o=some o:=by
 have n1:=sm.nPast;have n2:=sm.nPath;have b:=sm.nRefs;have c:=sm.nGuards;have d:=sm.nHist;have e:=sm.nBoxes;have f:=sm.nBody;unfold pG cU gI dK fF dx gt fu;rw[kY aa,kY aa,kY aa,kY aa,kY aa,kY aa,kY aa];simp only[aL];have l0:bo (jD o.Path) (o.Path,0)=some o.Path:=by
  refine T.eq (T.forA o.Path.length (λ_ a=>a=o.Path) aa rfl (λk a hk ha=>?_) λa ha=>?_)
  .subst ha;unfold jD;dsimp only;have hx:=fy hk;have hb:=(sm.path _ (List.getElem_mem hk)).n;rw[eA hk,aN,au,hx,aL];unfold dx;rw[kY aa,aL,aL,I0 hx];exact .some ⟨aq aa,rfl⟩
  .subst ha;unfold jD;dsimp only;rw[eF,cG];exact .some rfl
 have l1:bo (jC o.Hist) (o.Hist,0)=some o.Hist:=by
  refine T.eq (T.forA o.Hist.length (λ_ a=>a=o.Hist) aa rfl (λk a hk ha=>?_) λa ha=>?_)
  .subst ha;unfold jC;dsimp only;have hx:=fy hk;have hb:=(sm.hist _ (List.getElem_mem hk)).n;rw[eA hk,aN,au,hx,aL];unfold gI;rw[kY aa,aL,aL,I0 hx];exact .some ⟨aq aa,rfl⟩
  .subst ha;unfold jC;dsimp only;rw[eF,cG];exact .some rfl
 rw[l0,l1];rfl
def gW(s:A4W)(j:Nat):Bool:=match j/64 with
 |0=>s.a0.testBit (j%64)
 |1=>s.a1.testBit (j%64)
 |2=>s.a2.testBit (j%64)
 |3=>s.a3.testBit (j%64)
 |_=>false
theorem xg{a b:Nat}(h:i<64):(gM a b).testBit i=(a.testBit i||b.testBit i):=by unfold gM;rw[Nat.testBit_or,show(18446744073709551616:Nat)=2^64 from rfl,Nat.testBit_mod_two_pow,Nat.testBit_mod_two_pow];simp[h]
theorem RN{a b:Nat}(h:i<64):(bD a b).testBit i=(a.testBit i&&b.testBit i):=by unfold bD;rw[Nat.testBit_and,show(18446744073709551616:Nat)=2^64 from rfl,Nat.testBit_mod_two_pow,Nat.testBit_mod_two_pow];simp[h]
theorem Ay(hk:k<64)(h:i<64):(lB 1 k).testBit i=decide (k=i):=by unfold lB;rw[Nat.min_eq_left aa,Nat.one_mul,show(18446744073709551616:Nat)=2^64 from rfl,Nat.testBit_mod_two_pow,Nat.testBit_two_pow];simp[h]
theorem RP(s t:A4W)(j:Nat):gW (yv s t) j=(gW s j||gW t j):=by have h:=Nat.mod_lt j (show 64>0 by decide);unfold gW yv;split<;>first|exact xg h|rfl
theorem T3{s:A4W}{n:Nat}(hn:n<256)(hj:j<256):gW (yt s n) j=(gW s j||decide (j=n)):=by
 have h:=Nat.mod_lt j (show 64>0 by decide);have h':=Nat.mod_lt n (show 64>0 by decide);have e:∀q:Nat,n/64=q->j/64=q->decide (n%64=j%64)=decide (j=n):=by grind
 have e':n/64≠j/64->decide (j=n)=false:=by grind
 have h4:n/64=0\/n/64=1\/n/64=2\/n/64=3:=aa;have h5:j/64=0\/j/64=1\/j/64=2\/j/64=3:=aa;unfold gW yt;rcases h4 with e1|e1|e1|e1
 .rcases h5 with e2|e2|e2|e2
  .grind [xg,Ay]
  .grind
  all_goals grind
 .rcases h5 with e2|e2|e2|e2
  .grind
  .grind [xg,Ay]
  all_goals grind
 .rcases h5 with e2|e2|e2|e2
  .grind
  .grind
  .grind [xg,Ay]
  grind
 .rcases h5 with e2|e2|e2|e2
  .grind
  .grind
  .grind
  grind [xg,Ay]
theorem OK{a:Nat}(ha:a<18446744073709551616)(h:∀i,i<64->a.testBit i=false):a=0:=by
 apply Nat.eq_of_testBit_eq;intro i;rw[Nat.zero_testBit];rcases Nat.lt_or_ge i 64 with hi|hi
 .exact h i hi
 .exact Nat.testBit_lt_two_pow (Nat.lt_of_lt_of_le ha (Nat.le_trans (by grind) (Nat.pow_le_pow_right dL hi)))
theorem T4(a b:Nat):bD a b<18446744073709551616:=by grind [bD,Nat.and_le_left]
theorem RQ{p b:A4W}(h:∀j,j<256->¬(gW p j=true/\gW b j=true)):ZA p b 4=z4:=by
 have w:∀(q:Nat) (x y:Nat),q<4->(∀i,i<64->gW p (64*q+i)=x.testBit i/\gW b (64*q+i)=y.testBit i)->bD x y=0:=by grind [OK,T4,RN]
 have d:∀(q i:Nat),i<64->(64*q+i)/64=q/\(64*q+i)%64=i:=λq i hi=>aa;show(⟨bD p.a0 b.a0,bD p.a1 b.a1,bD p.a2 b.a2,bD p.a3 b.a3⟩:A4W)=⟨0,0,0,0⟩;rw[w 0 p.a0 b.a0 dL λi hi=>by unfold gW;rw[(d 0 i hi).1,(d 0 i hi).2];exact⟨rfl,rfl⟩];rw[w 1 p.a1 b.a1 dL λi hi=>by unfold gW;rw[(d 1 i hi).1,(d 1 i hi).2];exact⟨rfl,rfl⟩];rw[w 2 p.a2 b.a2 dL λi hi=>by unfold gW;rw[(d 2 i hi).1,(d 2 i hi).2];exact⟨rfl,rfl⟩];rw[w 3 p.a3 b.a3 dL λi hi=>by unfold gW;rw[(d 3 i hi).1,(d 3 i hi).2];exact⟨rfl,rfl⟩]
theorem Xa{s:A4W}{n:Nat}(hn:n<256):iX s (n:Int)=some (gW s n):=by
 have hd:wI (Int.tdiv (n:Int) 64)=((n/64:Nat):Int):=by grind [bM]
 have ht:Int.tmod (n:Int) 64=((n%64:Nat):Int):=by rw[Int.tmod_eq_emod_of_nonneg aa];rfl
 have hcn:wJ ((n%64:Nat):Int)=some (n%64):=by grind [wJ]
 have h:=Nat.mod_lt n (show 64>0 by decide);have key:∀y:Nat,decide (((bD (fv y (n%64)) 1:Nat):Int)=((1:Nat):Int))=y.testBit (n%64):=by grind [bD,fv]
 unfold iX;rw[hd,ht,hcn,au];have h4:n/64=0\/n/64=1\/n/64=2\/n/64=3:=aa;unfold gW;grind
def WA(N:List DGraphNode)(j:Int):Int:=((N[j.toNat]?).map (·.level)).getD 0
def WE(N:List DGraphNode)(u:List Int):Int:=u.foldl (λa j=>hE a (WA N j+1)) 1
theorem KX{j:Int}:WE N (u++[j])=hE (WE N u) (WA N j+1):=by unfold WE;rw[List.foldl_append];rfl
theorem OS{y:DGraphNode}(h:∀x∈u,0<=x/\x<(N.length:Int)):WE (N++[y]) u=WE N u:=by
 have key:∀(l:List Int) (a:Int),(∀x∈l,0<=x/\x<(N.length:Int))->l.foldl (λa j=>hE a (WA (N++[y]) j+1)) a=l.foldl (λa j=>hE a (WA N j+1)) a:=by
  intro l;induction l with
  |nil=>exact λa _=>rfl
  |cons x r ih=>
   intro a hh;have e:WA (N++[y]) x=WA N x:=by have:=hh x aC;grind [WA]
   grind
 exact key u 1 h
structure PgOk (g:D12G) (m:FM DIdent Int) (N:List DGraphNode):Prop where
 len:N.length=g.L.length
 nd:∀(k:Nat) (y:DGraphNode),N[k]?=some y->g.L[k]?=some y.o/\g.IDs[k]?=some y.id/\(∀j,j<256->gW y.past j=yH g k j)/\0<=y.level/\y.level<=(k:Int)+1
 get:∀x,m.get x=(bu x g.IDs).map (λn=>(n:Int))
 lv:∀(k:Nat) (y:DGraphNode) (u:List Int),N[k]?=some y->g.Up[k]?=some u->y.level=WE N u
theorem MX{a b:Int}(h1:a<=c)(h2:b<=c):hE a b<=c:=by unfold hE;split<;>omega
theorem T5{a b:Int}(h1:c<=a):c<=hE a b:=by unfold hE;split<;>omega
theorem ZF{up:List Int}(w:WfG g)(pg:PgOk g m N)(a:AddOk g o up)(sm:SmOp o):T (bo (Z6 m N o.Past) (z4,z4,0,1,0)) λr=>(∀j:Nat,j<256->(gW r.1 j=true↔(j:Int)∈up))/\(∀j:Nat,j<256->(gW r.2.1 j=true↔∃n:Nat,(n:Int)∈up/\yH g n j=true))/\r.2.2.1<=o.At/\0<=r.2.2.2/\r.2.2.2<=(N.length:Int)+1/\r.2.2.2=WE N up:=by
 have f:=T1 a.check.numbers;have n1:=sm.nPast;have nL:=w.nL;have nI:=w.nI;have pl:=pg.len;refine T.loop (λs=>∃k:Nat,s.2.2.2.2=(k:Int)/\k<=o.Past.length/\(∀j:Nat,j<256->(gW s.1 j=true↔∃i,i<k/\up[i]?=some (j:Int)))/\(∀j:Nat,j<256->(gW s.2.1 j=true↔∃i n:Nat,i<k/\up[i]?=some (n:Int)/\yH g n j=true))/\s.2.2.1<=o.At/\0<=s.2.2.2.1/\s.2.2.2.1<=(N.length:Int)+1/\s.2.2.2.1=WE N (up.take k)) (λs=>o.Past.length-s.2.2.2.2.toNat) ⟨0,rfl,aa,λj hj=>?_,λj hj=>?_,f.at_.1,dL,by show(1:Int)<=_;omega,rfl⟩ (by show o.Past.length-_<_;omega) ?_
 .grind [gW]
 .grind [gW]
 rintro⟨p,b,z,lev,i⟩ ⟨k,rfl,hk,q1,h,c,d,e,t⟩;dsimp only at q1 h c d e t;unfold Z6;dsimp only;refine .dec (λhlt=>?_) λhge=>?_
 .unfold ah at hlt;have hk2:k<o.Past.length:=aa;have hx:=fy hk2;obtain⟨n,hn,hu⟩:=a.par k _ hx;have eg:m.get o.Past[k]=some (n:Int):=by rw[pg.get,hn];rfl
  have hnl:n<g.IDs.length:=(cr (gb hn).1).1;have hy:N[n]?=some (N[n]'aa):=fy _;obtain⟨l,u,q,v,x⟩:=pg.nd n _ hy;generalize N[n]'aa=y at hy l u q v x;have hmem:(n:Int)∈up:=bO hu;have hat:=a.late n _ hmem l;have ew:wI (y.level+1)=y.level+1:=bM aa aa;rw[au,hx,aL,eg];dsimp only[Option.getD_some];rw[au,hy,aL,ew,aq aa];refine .some ⟨⟨k+1,rfl,aa,λj hj=>?_,λj hj=>?_,MX c hat,T5 d,MX e aa,?_⟩,?_⟩
  .dsimp only;rw[Int.toNat_natCast,T3 aa hj,Bool.or_eq_true,q1 j hj,decide_eq_true_eq];grind
  .dsimp only;rw[RP,Bool.or_eq_true,h j hj,q j hj];grind
  all_goals grind [List.take_add_one,WA,KX]
 .unfold ah at hge;obtain rfl:k=o.Past.length:=aa;have ul:=a.upl;refine .some ⟨λj hj=>?_,λj hj=>?_,c,d,e,by grind⟩;all_goals grind [List.getElem?_of_mem]
def RR(g:D12G)(o:DOp)(r:List Bool):Prop:=(∀(k:Nat) (p:DOp),g.L[k]?=some p->r[k]?=some true->p.By=o.By->p.Seq<o.Seq)/\(o.Seq=1\/∃(k:Nat) (p:DOp),g.L[k]?=some p/\r[k]?=some true/\p.By=o.By/\p.Seq=wI (o.Seq-1))
theorem Xb(w:WfG g){o:DOp}{r:List Bool}(hr:r.length=g.L.length):T (lA g o r) λv=>v=true->RR g o r:=by
 have nL:=w.nL;unfold lA;refine .bind (T.forA g.L.length (λk b=>(∀(j:Nat) (p:DOp),j<k->g.L[j]?=some p->r[j]?=some true->p.By=o.By->p.Seq<o.Seq)/\(b=true->∃(j:Nat) (p:DOp),g.L[j]?=some p/\r[j]?=some true/\p.By=o.By/\p.Seq=wI (o.Seq-1))) aa (by grind) (λk b hk a=>?_) λb a=>?_)
 .have hp:=fy hk;obtain⟨x,hx⟩:∃x,r[k]?=some x:=⟨_,fy aa⟩;generalize g.L[k]=p at hp;have more:∀(c:Prop),(c->p.Seq<o.Seq)->((r[k]?=some true/\p.By=o.By)->c)->∀(j:Nat) (q:DOp),j<k+1->g.L[j]?=some q->r[j]?=some true->q.By=o.By->q.Seq<o.Seq:=by grind
  unfold jK;dsimp only;rw[eA hk,aN,au,au,hx,hp];simp only[aL];cases x with
  |false=>exact .some (by constructor<;>grind [aq])
  |true=>
   simp only[Bool.not_true,cG,aL];by_cases hb:p.By=o.By
   .rw[decide_eq_false (by grind),cG];refine .dec (λhs=> .some (.some λh=>by cases h)) λhs=>?_;have hm:=more True (λ_=>aa) λ_=>trivial;cases b with
    |true=>exact .some ⟨aq aa,hm,a.2⟩
    |false=>exact .some (by constructor<;>grind [aq])
   .rw[decide_eq_true hb,aN];exact .some (by constructor<;>grind [aq])
 .unfold jK;dsimp only;rw[eF,cG];refine .some ?_;show T (ma _ _ _) _;dsimp only[ma];have h1:∀(k:Nat) (p:DOp),g.L[k]?=some p->r[k]?=some true->p.By=o.By->p.Seq<o.Seq:=by grind
  by_cases hs:o.Seq=1
  .rw[decide_eq_true hs];exact .some λ_=>⟨h1,.inl hs⟩
  .rw[decide_eq_false hs];exact .some λhb=>⟨h1,.inr (a.2 hb)⟩
theorem ZG{r:List Bool}{A:A4W}(w:WfG g)(pg:PgOk g m N)(f:NumF o)(hA:∀j:Nat,j<g.L.length->(gW A j=true↔r[j]?=some true))(hR:RR g o r):T (bo (Z7 N o A) (0,false,0)) λv=>v.1<o.Seq/\(1<o.Seq->v.2=true):=by
 have nL:=w.nL;have pl:=pg.len;have fs:=f.seq;refine T.loop (λs=>∃k:Nat,s.2.2=(k:Int)/\k<=N.length/\s.1<o.Seq/\∀(j:Nat) (p:DOp),j<k->g.L[j]?=some p->r[j]?=some true->p.By=o.By->p.Seq=wI (o.Seq-1)->s.2.1=true) (λs=>N.length-s.2.2.toNat) ⟨0,rfl,aa,by show(0:Int)<_;omega,λj p hj=>absurd hj (Nat.not_lt_zero _)⟩ (by show N.length-_<_;omega) ?_;rintro⟨la,b,i⟩ ⟨k,rfl,hk,q1,e⟩;dsimp only at q1 e;unfold Z7;dsimp only;refine .dec (λhlt=>?_) λhge=>?_
 .unfold ah at hlt;have hk2:k<N.length:=aa;have hy:=fy hk2;obtain⟨c,_⟩:=pg.nd k _ hy;generalize N[k]=y at hy c;rw[au,hy,aL,aq aa];have dn:N.length-(((k+1:Nat):Int)).toNat<N.length-((k:Int)).toNat:=aa;have more:∀a:Bool,(b=true->a=true)->(r[k]?=some true->y.o.By=o.By->y.o.Seq=wI (o.Seq-1)->a=true)->∀(j:Nat) (p:DOp),j<k+1->g.L[j]?=some p->r[j]?=some true->p.By=o.By->p.Seq=wI (o.Seq-1)->a=true:=λa h1 h2 j p hj hp h3 h4 h5=>by
   rcases Nat.lt_or_ge j k with hjk|hjk
   .exact h1 (e j p hjk hp h3 h4 h5)
   .obtain rfl:j=k:=aa;rw[c] at hp;cases hp;exact h2 h3 h4 h5
  refine .dec (λhb=>?_) λhb=> .some ⟨⟨k+1,rfl,aa,q1,more b id λ_ h=>absurd h hb⟩,dn⟩;rw[Xa aa,aL];refine .ite (λhh=>?_) λhh=> .some ⟨⟨k+1,rfl,aa,q1,more b id λh=>?_⟩,dn⟩
  .have d:=(hA k aa).1 hh;refine .some ⟨⟨k+1,rfl,aa,?_,more _ (λh=>by rw[h];rfl) λ_ _ h=>by rw[decide_eq_true h];cases b<;>rfl⟩,dn⟩;have:=hR.1 k _ c d hb;grind [hE]
  .rw[(hA k aa).2 h] at hh;cases hh
 .unfold ah at hge;refine .some ⟨q1,λh1=>?_⟩;rcases hR.2 with h|⟨j,p,h2,h3,h4,h5⟩
  all_goals grind
theorem ye:dt a b=true↔a.By<b.By\/(a.By=b.By/\(a.Seq<b.Seq\/(a.Seq=b.Seq/\a.Sum<b.Sum))):=by grind [dt]
def rN(a b:DIdent):Prop:=dt b a=false
theorem KG{c:DIdent}(h1:rN a b)(h2:rN b c):rN a c:=by grind [rN,ye]
theorem F9(h:dt a b=true):rN a b:=by grind [rN,ye]
theorem Cy{x:α}{l:List α}:(l.take k++[x]++l.drop k).Perm (l++[x]):=by grind [List.perm_append_comm,List.take_append_drop]
theorem kg(hl:l.length<=1000000):T (iu l) λr=>r.Perm l/\r.Pairwise rN:=by
 unfold iu;refine .bind (T.forA l.length (λk acc=>acc.Perm (l.take k)/\acc.Pairwise rN) aa (by simp_all) (λk acc hk hj=>?_) λacc hj=>?_)
 .obtain⟨x,hx⟩:∃x,l[k]?=some x:=by simp_all
  have ha:acc.length<=1000000:=by have:=hj.1.length_eq;grind
  unfold oZ;dsimp only;rw[eA hk,aN];refine .bind (T.mono (Q:=λq:Int=>∃n:Nat,q=(n:Int)/\n<=acc.length/\(∀(j:Nat) (y:DIdent),n<=j->acc[j]?=some y->dt x y=true)/\∀(y:DIdent),0<n->acc[n-1]?=some y->dt x y=false) (T.loop (λq=>∃n:Nat,q=(n:Int)/\n<=acc.length/\∀(j:Nat) (y:DIdent),n<=j->acc[j]?=some y->dt x y=true) (λq=>q.toNat) ⟨acc.length,rfl,Nat.le_refl _,(by grind)⟩ (by unfold ah;omega) ?_) ?_)
  .rintro q ⟨n,rfl,hn,b⟩;unfold vB;dsimp only;refine .dec (λh0=>?_) λh0=> .some ⟨n,rfl,hn,b,(by grind)⟩;obtain⟨y,hy⟩:∃y,acc[n-1]?=some y:=by grind
   rw[au,hx,aL,F7 aa aa,au,hy,aL,pJ,aL];refine .ite (λhf=> .some ⟨n,rfl,hn,b,(by grind)⟩) λht=> .some (by constructor<;>grind);all_goals grind
  .rintro q ⟨n,rfl,hn,h1,h2⟩;refine .bind (.pre aa aa (.bind (.app cq ?_)));rw[au,hx,aL];refine .bind (.app cq (.bind (.suf aa aa (.bind (.app cq (.some ⟨aq aa,?_,?_⟩))))))
   .grind [Cy,List.take_add_one]
   .show([]++acc.take (n:Int).toNat++[x]++acc.drop (n:Int).toNat).Pairwise rN;rw[List.nil_append,Int.toNat_natCast];have hp:=hj.2;rw[<-List.take_append_drop n acc,List.pairwise_append] at hp;obtain⟨c,d,e⟩:=hp;have low:∀a∈acc.take n,rN a x:=by grind [rN,List.getElem?_of_mem,List.pairwise_iff_getElem,KG]
    grind [List.getElem?_of_mem,F9]
 .unfold oZ;dsimp only;rw[eF,cG];refine .some (.some ?_);grind
theorem Cz(w:WfG g):T (xt g) λr=>r.Perm g.IDs/\r.Pairwise rN:= .bind (by grind [T.mono,kg,WfG.nI,WfG.nL,T.some])
def uX(g:D12G)(ids:List DIdent)(k:Nat):Prop:=∃x∈ids,∃n,bu x g.IDs=some n/\yH g n k=true
theorem EB(w:WfG g)(hl:ids.length<=1000):T (r9 g ids) λr=>r.Nodup/\(∀x,x∈r↔∃k,g.IDs[k]?=some x/\uX g ids k)/\r.Pairwise rN/\r.length<=g.L.length:=by
 have nL:=w.nL;have nI:=w.nI;unfold r9;refine .bind (T.forA g.L.length (λk acc=>acc.length<=k/\acc.Nodup/\∀x,x∈acc↔∃j,j<k/\g.IDs[j]?=some x/\uX g ids j) aa ⟨aC,aC,λx=>aC⟩ (λk acc hk hj=>?_) λacc hj=>?_)
 .obtain⟨y,hy⟩:∃y,g.IDs[k]?=some y:=⟨_,fy aa⟩;unfold t8;dsimp only;rw[eA hk,aN];refine .bind (T.mono (Q:=λb:Bool=>b=true↔uX g ids k) (T.forA ids.length (λm b=>b=true↔∃(j:Nat) (x:DIdent) (n:Nat),j<m/\ids[j]?=some x/\bu x g.IDs=some n/\yH g n k=true) aa aC (λm b hm hjm=>?_) λb hjm=>?_) λb hb=>?_)
  .obtain⟨x,hx⟩:∃x,ids[m]?=some x:=⟨_,fy hm⟩;unfold t7;dsimp only;rw[eA hm,aN,au,hx,aL,dC aa,aL];refine .bind (T.mono (Q:=λc:Bool=>c=true↔(b=true\/∃n,bu x g.IDs=some n/\yH g n k=true)) ?_ λc hc=> .some ⟨aq aa,?_⟩)
   .refine .ite (λhb=> .some (by simp[hb])) λhb=>?_;unfold gO;cases hkx:bu x g.IDs with
    |none=>grind [T.some]
    |some n=>
     have hn:n<g.L.length:=by have:=(cr (gb hkx).1).1;omega
     grind [WfG,hE,au,T.some,wO]
   grind
  .unfold t7;dsimp only;rw[eF,cG];refine .some ?_;show b=true↔_;rw[hjm];constructor
   .rintro⟨j,x,n,_,h2,h3,h4⟩;exact⟨x,bO h2,n,h3,h4⟩
   .rintro⟨x,hx,n,h3,h4⟩;grind [List.getElem?_of_mem]
  .refine .ite (λhbt=>?_) λhbf=> .some ⟨aq aa,by show acc.length<=k+1;have:=hj.1;omega,hj.2.1,λx=>?_⟩
   .have hin:=hb.1 hbt;rw[au,hy,aL];have hny:y∉acc:=λhm=>by obtain⟨j,h1,h2,_⟩:=(hj.2.2 y).1 hm;have:=(List.getElem?_inj (show j<g.IDs.length by omega) w.nd).1 (h2.trans hy.symm);omega
    refine .bind (.app (by grind) (.some ⟨aq aa,by simp;exact hj.1,?_,λx=>?_⟩));all_goals grind
   .show x∈acc↔_;rw[hj.2.2 x];constructor
    .rintro⟨j,h1,h2⟩;exact⟨j,aa,h2⟩
    .rintro⟨j,h1,h2,h3⟩;rcases Nat.lt_or_ge j k with hlt|hge
     .exact⟨j,hlt,h2,h3⟩
     .obtain rfl:j=k:=aa;rw[hb.2 h3] at hbf;cases hbf
 .unfold t8;dsimp only;rw[eF,cG];refine .some (.bind ((kg (by grind)).mono λr hr=> .some ⟨hr.1.nodup_iff.2 hj.2.1,λx=>?_,hr.2,by rw[hr.1.length_eq];exact hj.1⟩));rw[hr.1.mem_iff,hj.2.2 x];constructor
  .rintro⟨j,_,h2⟩;exact⟨j,h2⟩
  .rintro⟨j,h2,h3⟩;exact⟨j,by have:=(cr h2).1;omega,h2,h3⟩
structure IdsOk (g:D12G) (r:List DIdent):Prop where
 sub:∀x∈r,x∈g.IDs
 len:r.length<=1000
theorem yR(z:Int):c8 (wI z):=by grind [c8,wI,IntKind.wrap_i64]
theorem nD(h:gU o=true):(1<=o.By/\o.By<=12)/\(1<=o.Seq/\o.Seq<=2147483647)/\0<=o.At/\o.At<=2147483647:=by have e:=jF o;rw[h] at e;unfold ia at e;simp only[gT,aL] at e;grind
theorem l8(h:gU o=true)(hk:o.Kind=9):1<=o.Need/\o.Need<=(o.Guards.length:Int):=by obtain⟨h1,h2,h3⟩:=nD h;have e:=jF o;rw[h] at e;unfold ia at e;simp only[gT,aL,hk,decide_eq_true h1,decide_eq_true h2,decide_eq_true h3] at e;grind [ah]
theorem WfG.name{g:D12G}(w:WfG g){x:DIdent}(h:x∈g.IDs):∃i o,g.IDs[i]?=some x/\g.L[i]?=some o/\bu x g.IDs=some i/\i<g.L.length/\SmId x/\x.By=o.By/\x.Seq=o.Seq/\SmOp o/\CheckOk o:=by have nI:=w.nI;obtain⟨i,hi⟩:=List.getElem?_of_mem h;have hlt:=(cr hi).1;obtain⟨o,ho,so,a⟩:=w.op (i:=i) aa;obtain⟨y,e,h1,h2,_,h4⟩:=wN so;grind [ids,y0,List.getElem?_inj,nd]
theorem WfG.place{g:D12G}(w:WfG g){x:DIdent}(h:0<=gO g x):∃i o,gO g x=(i:Nat)/\g.IDs[i]?=some x/\g.L[i]?=some o/\x∈g.IDs/\SmOp o/\CheckOk o:=by
 have nI:=w.nI;unfold gO at h⊢;cases hk:bu x g.IDs with
 |none=>rw[hk] at h;simp at h
 |some i=>have hi:=(gb hk).1;grind [op]
theorem lj:0<=gO g x↔x∈g.IDs:=by grind [gO,jv]
theorem EC{α:Type}[DecidableEq α]:∀{l m:List α},l.Nodup->(∀x∈l,x∈m)->l.length<=m.length
 |[],_,_,_=>aC
 |x::r,m,h,hs=>by have hx:=hs x aC;have h2:=List.nodup_cons.1 h;have:=EC (l:=r) (m:=m.erase x) h2.2 (by grind);grind
theorem yf(w:WfG g){ids:List DIdent}(hl:ids.length<=1000):T (tv g ids) λr=>IdsOk g r/\r.Nodup/\(∀x,x∈r↔(∃k,g.IDs[k]?=some x/\uX g ids k)\/x∈ids/\x∈g.IDs)/\r.Pairwise rN:=by
 have nL:=w.nL;have nI:=w.nI;unfold tv;refine .bind ((EB w aa).mono λa h1=>?_);obtain⟨c,b,d,e⟩:=h1;refine .bind (T.forA ids.length (λk acc=>acc.length<=a.length+k/\acc.Nodup/\∀x,x∈acc↔x∈a\/∃j,j<k/\ids[j]?=some x/\x∈g.IDs) aa (by grind) (λk acc hk hj=>?_) λacc hj=>?_)
 .obtain⟨y,hy⟩:∃y,ids[k]?=some y:=⟨_,fy hk⟩;unfold t9;dsimp only;rw[eA hk,aN,au,hy];simp only[aL];rw[dC aa,aL,kf aa];simp only[aL];rw[cL,aL];refine .ite (λhb=>?_) λhb=> .some ⟨aq aa,by grind,hj.2.1,λx=>?_⟩
  .by_cases hp:0<=gO g y
   .rw[decide_eq_true hp,aN] at hb;have hny:y∉acc:=by grind [nA]
    refine .bind (.app cq (.some ⟨aq aa,by grind,?_,λx=>?_⟩))
    .grind
    grind [lj]
   grind
  grind [lj,nA]
 .unfold t9;dsimp only;rw[eF,cG];refine .some (.bind ((kg aa).mono λr hr=>?_));have key:∀x,x∈r↔(∃k,g.IDs[k]?=some x/\uX g ids k)\/x∈ids/\x∈g.IDs:=λx=>by rw[hr.1.mem_iff,hj.2.2 x,b x];grind [List.getElem?_of_mem]
  have hsub:∀x∈r,x∈g.IDs:=by grind
  have hnd:r.Nodup:=hr.1.nodup_iff.2 hj.2.1;exact .some ⟨⟨hsub,by have:=EC hnd hsub;omega⟩,hnd,key,hr.2⟩
theorem KH(w:WfG g)(hl:ids.length<=1000):T (qL g ids) λr=>IdsOk g r/\r.Nodup/\(∀x,x∈r↔x∈ids/\x∈g.IDs/\¬∃k,g.IDs[k]?=some x/\uX g ids k)/\r.Pairwise rN:=by
 have nL:=w.nL;have nI:=w.nI;unfold qL;refine .bind ((EB w aa).mono λa h1=>?_);obtain⟨d,c,f,i⟩:=h1;refine .bind (T.forA ids.length (λk acc=>acc.length<=k/\acc.Nodup/\∀x,x∈acc↔∃j,j<k/\ids[j]?=some x/\x∈g.IDs/\x∉a) aa ⟨aC,aC,λx=>aC⟩ (λk acc hk hj=>?_) λacc hj=>?_)
 .obtain⟨y,hy⟩:∃y,ids[k]?=some y:=⟨_,fy hk⟩;unfold qK;dsimp only;rw[eA hk,aN,au,hy];simp only[aL];rw[dC aa,aL,kf aa,kf aa];simp only[aL];rw[cL,cL,aL];have m1:nA a y=true↔y∈a:=by
   constructor
   .intro h;obtain⟨z,hz,e⟩:=List.any_eq_true.1 h;rw[of_decide_eq_true e] at hz;exact hz
   .intro h;exact List.any_eq_true.2 ⟨y,h,aC⟩
  have m2:nA acc y=true↔y∈acc:=by
   constructor
   .intro h;obtain⟨z,hz,e⟩:=List.any_eq_true.1 h;rw[of_decide_eq_true e] at hz;exact hz
   .intro h;exact List.any_eq_true.2 ⟨y,h,aC⟩
  have hc:∀b:Bool,(bif decide (0<=gO g y) then bif !nA a y then !nA acc y else false else false)=b->(b=true↔y∈g.IDs/\y∉a/\y∉acc):=λb hb=>by rw[<-hb,<-lj,<-m1,<-m2];by_cases q1:0<=gO g y<;>cases nA a y<;>cases nA acc y<;>simp[q1]
  refine .ite (λhb=>?_) λhb=> .some ⟨aq aa,by show acc.length<=k+1;omega,hj.2.1,λx=>?_⟩
  .obtain⟨q1,l,m⟩:=(hc true hb).1 rfl;refine .bind (.app cq (.some ⟨aq aa,by grind,?_,λx=>?_⟩));all_goals grind
  .have q:=hc false hb;show x∈acc↔_;rw[hj.2.2 x];constructor
   .rintro⟨j,h1,h2⟩;exact⟨j,aa,h2⟩
   .rintro⟨j,h1,h2,h3,h4⟩;rcases Nat.lt_or_ge j k with hlt|hge
    .exact⟨j,hlt,h2,h3,h4⟩
    .obtain rfl:j=k:=aa;rw[hy] at h2;cases h2;by_cases hm:y∈acc
     .exact(hj.2.2 y).1 hm
     .have:=q.2 ⟨h3,h4,hm⟩;cases this
 .unfold qK;dsimp only;rw[eF,cG];refine .some (.bind ((kg aa).mono λr hr=>?_));have key:∀x,x∈r↔x∈ids/\x∈g.IDs/\¬∃k,g.IDs[k]?=some x/\uX g ids k:=λx=>by rw[hr.1.mem_iff,hj.2.2 x,<-c x];grind [List.getElem?_of_mem]
  grind [T.some,IdsOk,List.Perm.length_eq]
theorem QH(w:WfG g)(h:IdsOk g ids)(d:Int):T (Fc g ids d) λn=>1<=n/\n<=2147483648:=by
 have hl:=h.len;unfold Fc;refine .bind (T.forA ids.length (λ_ n=>0<=n/\n<=2147483647) aa ⟨dL,dL⟩ (λk n hk hj=>?_) λn hj=>?_)
 .obtain⟨y,hy⟩:∃y,ids[k]?=some y:=⟨_,fy hk⟩;obtain⟨i,o,_,_,_,_,_,_,e,_,a⟩:=w.name (h.sub y (bO hy));have:=(nD a.numbers).2.1;unfold xu;dsimp only;rw[eA hk,aN,au,hy];simp only[aL];refine .dec (λ_=> .some ⟨aq aa,?_⟩) λ_=> .some ⟨aq aa,hj⟩;grind [hE]
 .unfold xu;dsimp only;rw[eF,cG];refine .some (.some ?_);grind [bM]
theorem N0(w:WfG g)(hl:ids.length<=1000):T (z8 g ids) λn=>0<=n/\n<=2147483647:=by
 have nL:=w.nL;have nI:=w.nI;unfold z8;refine .bind (T.forA ids.length (λ_ n=>0<=n/\n<=2147483647) aa ⟨dL,dL⟩ (λk n hk hj=>?_) λn hj=>?_)
 .obtain⟨y,hy⟩:∃y,ids[k]?=some y:=⟨_,fy hk⟩;unfold ue;dsimp only;rw[eA hk,aN,au,hy,aL,dC aa,aL];refine .dec (λhp=>?_) λ_=> .some ⟨aq aa,hj⟩;obtain⟨i,o,e,_,ho,_,_,a⟩:=w.place hp;have:=(nD a.numbers).2.2;rw[e,au,ho,aL];refine .some ⟨aq aa,?_⟩;grind [hE]
 .unfold ue;dsimp only;rw[eF,cG];exact .some (.some hj)
theorem eX{m:Int}(h:c8 n)(hm:0<m):T (iq n m) λv=>0<=v/\v<m:=by obtain⟨h1,h2⟩:=h;grind [iq,T.rem,bM,Int.tmod_nonneg,Int.tmod_lt_of_pos]
def zId:DIdent:=⟨0,0,0⟩
def Ys:DOp:=⟨0,0,0,0,[],0,0,0,0,[],⟨0,0,0⟩,0,[],[],⟨0,0,0⟩,[],0,0,[],0,[],⟨0,0⟩⟩
theorem dP:c8 0:=by unfold c8;omega
theorem pM:SmId ⟨0,0,0⟩:=⟨dP,dP,by show(0:Nat)<_;omega⟩
theorem Wd:SmOp Ys:=by constructor<;>first|exact pM|(unfold Ys;simp;done)|(intro z hz;simp[Ys] at hz;subst hz;exact dP)|(show fS 0;unfold fS;omega)
theorem zb(w:WfG g)(h:IdsOk g ids)(kd:Int):T (nS g ids kd) λr=>(r.1=zId/\r.2=Ys)\/(r.1∈ids/\SmOp r.2/\CheckOk r.2/\r.2.Kind=kd):=by
 have nL:=w.nL;have nI:=w.nI;have hl:=h.len;have e0:wI (ah g.L-1)=(g.L.length:Int)-1:=by grind [bM,ah]
 unfold nS;rw[e0];refine .bind (T.loop (λs=>s.1=zId/\s.2.1=Ys∧-1<=s.2.2/\s.2.2<g.L.length) (λs=>(s.2.2+1).toNat) ⟨rfl,rfl,by simp only;omega,by simp only;omega⟩ (by simp only;omega) ?_);rintro⟨a,b,i⟩ ⟨rfl,rfl,c,i1⟩;simp only at c i1;unfold vC;dsimp only;refine .dec (λhi=>?_) λhi=> .some (.some (.inl ⟨rfl,rfl⟩));obtain⟨n,rfl⟩:∃n:Nat,i=(n:Int):=⟨i.toNat,aa⟩;obtain⟨o,ho,so,d⟩:=w.op (i:=n) aa;obtain⟨x,hx⟩:∃x,g.IDs[n]?=some x:=⟨_,fy aa⟩;have ew:wI ((n:Int)-1)=(n:Int)-1:=bM aa aa;rw[au,ho,aL,au,hx];simp only[aL];rw[kf aa];simp only[aL];rw[cL,aL];refine .ite (λhb=> .some (.some (.inr ?_))) λhb=> .some ⟨⟨rfl,rfl,?_,?_⟩,?_⟩
 .by_cases hk:o.Kind=kd
  .rw[decide_eq_true hk,aN] at hb;obtain⟨z,hz,e⟩:=List.any_eq_true.1 hb;grind
  grind
 all_goals grind
theorem yg{n:Int}(h1:n<=1000):T (o4 n) λr=>r.length<=1000/\(r.length:Int)=(if n<0 then 0 else n)/\∀x∈r,SmBox x:=by
 unfold o4;refine .bind (T.forA n.toNat (λk acc=>acc.length=k/\∀x∈acc,SmBox x) aa ⟨rfl,aC⟩ (λk acc hk hj=>?_) λacc hj=>?_)
 .unfold uc;dsimp only;rw[decide_eq_true (show(k:Int)<n by omega),aN];refine .bind (.app cq (.some ⟨aq aa,by simp;exact hj.1,λx hx=>?_⟩));grind [SmBox,fS,Mp]
 .unfold uc;dsimp only;rw[decide_eq_false (by grind),cG];refine .some (.some ⟨aa,?_,hj.2⟩);split<;>omega
theorem zc(w:WfG g)(d:Int):T (nT g d) λm=>c8 m:=by grind [WfG.nC,nT,Cw,T.some,dP,mZ,WfG.cards]
theorem ED(w:WfG g)(d:Int)(h:0<=n/\n<=1000000):T (zJ g d n) λr=>IdsOk g r:=by
 have nL:=w.nL;have nI:=w.nI;unfold zJ;refine .bind ((Cz w).mono λb hv1=>?_);have i1:IdsOk g b:=by grind [IdsOk,List.Perm.length_eq]
 refine .bind (T.mono (Q:=λx:Int=> -1<=x/\x<g.L.length) (T.forA g.L.length (λ_ x=> -1<=x/\x<g.L.length) aa ⟨dL,aa⟩ (λk x hk hj=>?_) λx hj=>?_) λa h4=>?_)
 .obtain⟨o,ho,_⟩:=w.op hk;unfold ub;dsimp only;rw[eA hk,aN,au,ho,aL];exact .dec (λ_=> .some (by constructor<;>grind [aq])) λ_=> .some ⟨aq aa,hj⟩
 .unfold ub;dsimp only;rw[eF,cG];exact .some hj
 .rw[cL,aL];refine .ite (λhb=>?_) λhb=>?_
  .have hx:0<a:=by grind
   obtain⟨k,rfl⟩:∃k:Nat,a=(k:Int):=⟨a.toNat,aa⟩;obtain⟨o,ho,so,c⟩:=w.op (i:=k) aa;rw[au,ho,aL];exact .bind (by grind [T.mono,yf,pK,CheckOk.long,T.some])
  .rw[cL,aL];refine .ite (λ_=> .some i1) λhb2=>?_;have hx:0<=a:=by grind
   obtain⟨k,rfl⟩:∃k:Nat,a=(k:Int):=⟨a.toNat,aa⟩;obtain⟨y,hy⟩:∃y,g.IDs[k]?=some y:=⟨_,fy aa⟩;rw[au,hy,aL];have e3:wI (n.tdiv 3)=n.tdiv 3:=by grind [bM]
   rw[e3];refine .bind (.rem (by unfold ah;omega) ?_);have q0:0<=(n.tdiv 3).tmod (ah g.IDs):=Int.tmod_nonneg _ (Int.tdiv_nonneg h.1 dL);have q1:(n.tdiv 3).tmod (ah g.IDs)<ah g.IDs:=Int.tmod_lt_of_pos _ (by unfold ah;omega);refine .bind (.ixl q0 (by unfold ah at q1;exact q1) λz _ _=>?_);exact .bind (by grind [T.mono,yf,T.some])
def il{α:Type}(p:α->Prop)(l:List α):Prop:=l.length<=1000/\∀x∈l,p x
theorem ay{p:α->Prop}:il p []:=⟨aC,aC⟩
theorem jS(h1:c8 o.By)(h2:c8 o.Seq)(h3:c8 o.Kind)(h4:c8 o.At)(h5:il SmId o.Past)(h6:c8 o.Device)(h7:c8 o.Old)(h8:c8 o.Member)(h9:c8 o.Role)(h10:il SmNode o.Path)(h11:SmId o.Epoch)(h12:c8 o.N)(h13:o.Body.length<=1000)(a:il fS o.Refs)(e:SmId o.Of)(b:il c8 o.Guards)(g:c8 o.Need)(h:c8 o.Wait)(c:il SmBox o.Boxes)(f:fS o.Pub)(d:il SmSealed o.Hist):SmOp o:=by refine⟨λz hz=>?_,h5.1,h5.2,h10.1,h10.2,h11,h13,a.1,a.2,e,b.1,b.2,c.1,c.2,f,d.1,d.2⟩;simp only[List.mem_cons,List.not_mem_nil,or_false] at hz;rcases hz with rfl|rfl|rfl|rfl|rfl|rfl|rfl|rfl|rfl|rfl|rfl<;>assumption
theorem SmOp.iBy{o:DOp}(h:SmOp o):c8 o.By:=h.ints _ aC
theorem SmOp.iSeq{o:DOp}(h:SmOp o):c8 o.Seq:=h.ints _ aC
theorem SmOp.iKind{o:DOp}(h:SmOp o):c8 o.Kind:=h.ints _ aC
theorem SmOp.iAt{o:DOp}(h:SmOp o):c8 o.At:=h.ints _ aC
theorem SmOp.iDevice{o:DOp}(h:SmOp o):c8 o.Device:=h.ints _ aC
theorem SmOp.iOld{o:DOp}(h:SmOp o):c8 o.Old:=h.ints _ aC
theorem SmOp.iMember{o:DOp}(h:SmOp o):c8 o.Member:=h.ints _ aC
theorem SmOp.iRole{o:DOp}(h:SmOp o):c8 o.Role:=h.ints _ aC
theorem SmOp.iN{o:DOp}(h:SmOp o):c8 o.N:=h.ints _ aC
theorem SmOp.iNeed{o:DOp}(h:SmOp o):c8 o.Need:=h.ints _ aC
theorem SmOp.iWait{o:DOp}(h:SmOp o):c8 o.Wait:=h.ints _ aC
theorem SmOp.sPast{o:DOp}(h:SmOp o):il SmId o.Past:=⟨h.nPast,h.past⟩
theorem SmOp.sRefs{o:DOp}(h:SmOp o):il fS o.Refs:=⟨h.nRefs,h.refs⟩
theorem SmOp.sGuards{o:DOp}(h:SmOp o):il c8 o.Guards:=⟨h.nGuards,h.guards⟩
theorem SmOp.sBoxes{o:DOp}(h:SmOp o):il SmBox o.Boxes:=⟨h.nBoxes,h.boxes⟩
theorem SmOp.sHist{o:DOp}(h:SmOp o):il SmSealed o.Hist:=⟨h.nHist,h.hist⟩
theorem SmOp.nopath{o:DOp}(h:SmOp o):SmOp {o with Path:=[]}:=by grind [jS,iBy,iSeq,iKind,iAt,sPast,iDevice,iOld,iMember,iRole,ay,epoch,iN,nBody,sRefs,of_,sGuards,iNeed,iWait,sBoxes,pub,sHist]
theorem m7(h: -1000000<=n/\n<=1000000):c8 n:=by unfold c8;omega
theorem IdsOk.smid{g:D12G}(w:WfG g){ids:List DIdent}(h:IdsOk g ids){x:DIdent}(hx:x∈ids):SmId x:=by grind [IdsOk,WfG.name]
theorem Ir(w:WfG g)(h:IdsOk g ids)(so:SmOp o)(hn:0<=n/\n<=1000000):T (sc g ids o n) λr=>SmOp r:=by
 unfold sc;refine .bind ((zb w h 9).mono λc hv=>?_);have s1:SmId c.1:=by
  rcases hv with⟨e,_⟩|⟨e,_⟩
  .rw[e];exact pM
  .exact h.smid w e
 have s2:SmOp c.2:=by grind [Wd]
 rw[cL,aL,cL,aL];have e16:wI (n.tdiv 16)=n.tdiv 16:=by grind [bM]
 have e32:wI (n.tdiv 32)=n.tdiv 32:=by grind [bM]
 refine .dec (λh9=>?_) λh9=>?_
 ·
  refine .bind (T.mono (Q:=λx:List Int=>x.length<=4/\∀z∈x,c8 z) (T.loop (λs=>1<=s.2/\s.2<=5/\(s.1.length:Int)<=s.2-1/\∀z∈s.1,c8 z) (λs=>(5-s.2).toNat) (by grind) dL ?_) λp hx=>?_)
  .rintro⟨acc,i⟩ ⟨i1,q,t,k⟩
   simp only at i1 q t k
   have ei:wI (i+1)=i+1:=bM aa aa
   unfold vF
   dsimp only
   refine .dec (λh4=>?_) λh4=> .some ⟨aa,k⟩
   refine .bind (.quo aa (.dec (λ_=>?_) λ_=> .some ⟨⟨?_,?_,?_,k⟩,?_⟩))
   .refine .bind (.app cq (.some ⟨⟨?_,?_,?_,λz hz=>?_⟩,?_⟩))
    .show 1<=wI (i+1);omega
    all_goals grind [m7]
   all_goals grind
  .rw[cL,aL]
   have hj:∃j:List Int,(bif decide (ah p=0) then([1,2]:List Int) else p)=j/\1<=j.length/\j.length<=4/\∀z∈j,c8 z:=by grind [ah,m7]
   obtain⟨j,ej,E,F,u⟩:=hj
   rw[ej,e16]
   have hm:0<iI 2 (ah j)/\iI 2 (ah j)<=2:=by unfold iI ah;split<;>omega
   refine .bind (.rem aa (.bind ((yg (n:=ah j) (by unfold ah;omega)).mono λbx d=> .some ?_)))
   exact jS so.iBy so.iSeq (by grind [m7]) so.iAt so.sPast so.iDevice so.iOld so.iMember so.iRole ay so.epoch so.iN so.nBody so.sRefs so.of_ ⟨by show j.length<=1000;omega,u⟩ (yR _) (by grind [c8]) ⟨d.1,d.2.2⟩ (by show(5:Nat)<_;omega) so.sHist
 ·
  generalize hj5:(bif bif decide (o.Kind≠9) then decide (c.1=(⟨0,0,0⟩:DIdent)) else false then(9:Int) else o.Kind)=v at h9⊢
  have hk5:v=o.Kind/\c.1≠⟨0,0,0⟩:=by grind
  obtain⟨rfl,l⟩:=hk5
  have hv2:CheckOk c.2/\c.2.Kind=9:=by
   rcases hv with⟨e,_⟩|⟨_,_,e,e'⟩
   .exact absurd e l
   .exact⟨e,e'⟩
  have hg:=l8 hv2.1.numbers hv2.2
  have hgl:0<ah c.2.Guards/\ah c.2.Guards<=1000:=by grind [SmOp.nGuards,ah]
  refine .bind ((zc w _).mono λm y=>?_)
  refine .bind (T.mono (Q:=λx:Int×List DBox=>c8 x.1/\il SmBox x.2) (.ite (λ_=> .bind ((yg hgl.2).mono λb hb=> .some ⟨s1.a,hb.1,hb.2.2⟩)) λ_=> .some ⟨so.iBy,so.sBoxes⟩) λA f=>?_)
  rw[cL,aL]
  refine .bind (T.mono (Q:=λx:Int×Int=>c8 x.1/\c8 x.2) (.ite (λ_=> .bind (.rem aa (.bind (.ixl (Int.tmod_nonneg _ hn.1) (Int.tmod_lt_of_pos _ hgl.1) (by grind [T.some,SmOp.guards,yR]))))) λ_=> .some ⟨f.1,so.iDevice⟩) λB h36=>?_)
  refine .bind (T.mono (Q:=λx:List DBox=>il SmBox x) (.ite (λ_=> .bind ((yg dL).mono λb hb=> .some ⟨hb.1,hb.2.2⟩)) λ_=> .some f.2) λC D=>?_)
  rw[cL,aL]
  have h40:c8 (bif decide (o.Kind=13) then m else o.Old):=by grind [SmOp.iOld]
  grind [T.some,jS,SmOp.iSeq,SmOp.iKind,SmOp.iAt,SmOp.sPast,SmOp.iMember,SmOp.iRole,ay,SmOp.epoch,SmOp.iN,SmOp.nBody,SmOp.sRefs,SmOp.iNeed,SmOp.iWait,SmOp.pub,SmOp.sHist]
theorem EE(h:0<=n):T (z7 n) λk=>c8 k:=by unfold z7;refine .bind (.ixl (Int.tmod_nonneg _ h) (by have:=Int.tmod_lt_of_pos n (show(0:Int)<20 by decide);simp;omega) λx _ hx=> .some ?_);have:x∈([6,4,3,2,5,7,8,3,6,9,11,11,13,12,10,4,3,2,6,13]:List Int):=hx;have key:∀y∈([6,4,3,2,5,7,8,3,6,9,11,11,13,12,10,4,3,2,6,13]:List Int),-1000000<=y/\y<=1000000:=dL;exact m7 (key x this)
theorem Mt:c8 1:=m7 aa
theorem Yt:c8 2:=m7 aa
theorem QJ:fS 0:=by unfold fS;omega
def Nx(g:D12G)(x:DOp×List DIdent):Prop:=SmOp x.1/\IdsOk g x.2
theorem Nx.np{g:D12G}{x:DOp×List DIdent}(h:Nx g x):Nx g ({x.1 with Path:=[]},x.2):=⟨h.1.nopath,h.2⟩
theorem N2(w:WfG g){m:Int}(hn:c8 n)(hm:c8 m):T (sd g n m) λr=>SmOp r:=by
 have nL:=w.nL;have nI:=w.nI;unfold sd;refine .bind ((eX hn dL).mono λf h1=> .bind ((eX hm dL).mono λi h3=> .bind ((EE h3.1).mono λD h5=>?_)));have hq:∀q:Int,0<q->wI (f.tdiv q)=f.tdiv q/\0<=f.tdiv q/\f.tdiv q<=1000000:=λq hq=>by have a:=Int.tdiv_nonneg h1.1 (show(0:Int)<=q by omega);have b:=Int.tdiv_le_self q h1.1;grind [bM]
 have hk:wI (i.tdiv 20)=i.tdiv 20/\0<=i.tdiv 20/\i.tdiv 20<=1000000:=by grind [bM]
 rw[hk.1];generalize hkk:i.tdiv 20=k at hk⊢;obtain⟨_,C,k1⟩:=hk;have tm:∀(z q:Int),0<q->q<=1000000→-1000000<=z.tmod q/\z.tmod q<=1000000:=λz q h h'=>by have h3:=Int.tmod_lt_of_pos z h;have h4: -q<z.tmod q:=Int.lt_tmod_of_pos z h;omega
 refine .dec (λh0=> .some ?_) λh0=>?_
 .grind [jS,ay,pM,m7,QJ]
 have hL:0<g.L.length:=by unfold ah at h0;omega
 rw[cL,aL];generalize hj8:(bif decide (ah g.L<4) then(⟨1,0,2,0,[],wI ((ah g.L)+1),0,0,wI (3-(wI (Int.tdiv (Int.tmod f 5) 4))),[],⟨0,0,0⟩,0,[],[],⟨0,0,0⟩,[],0,0,[],0,[],⟨0,0⟩⟩:DOp) else⟨wI (1+(Int.tmod f 5)),0,D,0,[],0,0,0,0,[],⟨0,0,0⟩,0,[],[],⟨0,0,0⟩,[],0,0,[],0,[],⟨0,0⟩⟩)=o;have s8:SmOp o:=by grind [jS,Mt,dP,Yt,ay,yR,pM,QJ]
 clear hj8;obtain⟨E,p,t⟩:=hq 5 dL;rw[E];refine .bind ((ED w o.By ⟨p,t⟩).mono λF h10=>?_);refine .bind (T.mono (Q:=λx=>IdsOk g x) (.ite (λ_=> .bind ((Cz w).mono (by grind [T.some,IdsOk,List.Perm.length_eq]))) λ_=> .some h10) λj12 h12=>?_);refine .bind ((zb w h12 6).mono λu v=>?_);have s14:SmId u.1:=by
  rcases v with⟨e,_⟩|⟨e,_⟩
  .rw[e];exact pM
  .exact h12.smid w e
 refine .bind (T.mono (Q:=λx:Int×Int×Nat=>SmId ⟨x.1,x.2.1,x.2.2⟩) (.ite (λ_=> .bind (.ixl dL (by rw[nI];omega) λy _ hy=> .some ?_)) λ_=> .some s14) λH I=>?_)
 .obtain⟨_,_,_,_,_,_,s,_⟩:=w.name hy;exact s
 refine .bind (T.mono (Q:=λx:DOp×List DIdent=>Nx g x) ?_ λJ A=>?_)
 .refine .ite (λ_=>?_) λ_=>?_
  .refine .bind (T.mono (Q:=λx:Int×Int=>c8 x.1/\c8 x.2) (by grind [T.some,yR,SmOp.iDevice,SmOp.iRole]) λx hx=> .some ⟨?_,h12⟩);grind [jS,SmOp.iBy,SmOp.iSeq,SmOp.iKind,SmOp.iAt,ay,SmOp.iOld,SmOp.iMember,SmOp.epoch,SmOp.iN,SmOp.of_,SmOp.iNeed,SmOp.iWait,SmOp.pub]
  refine .bind (T.mono (Q:=λx:DOp×List DIdent=>Nx g x) ?_ λx hx=> .some hx.np);refine .ite (λ_=>?_) λ_=>?_
  .refine .bind (T.mono (Q:=λx:Int×Int=>c8 x.1/\c8 x.2) (by grind [T.some,dP,yR,SmOp.iMember]) λx hx=> .some ⟨?_,h12⟩);grind [jS,SmOp.iBy,SmOp.iSeq,SmOp.iKind,SmOp.iAt,ay,SmOp.iOld,SmOp.iRole,SmOp.epoch,SmOp.iN,SmOp.of_,SmOp.iNeed,SmOp.iWait,SmOp.pub]
  refine .bind (T.mono (Q:=λx:DOp×List DIdent=>Nx g x) ?_ λx hx=> .some hx.np);refine .ite (λ_=> .some ⟨?_,h12⟩) λ_=>?_
  .grind [jS,SmOp.iBy,SmOp.iSeq,SmOp.iKind,SmOp.iAt,ay,SmOp.iDevice,SmOp.iOld,yR,SmOp.epoch,SmOp.iN,SmOp.of_,SmOp.iNeed,SmOp.iWait,SmOp.pub]
  refine .bind (T.mono (Q:=λx:DOp×List DIdent=>Nx g x) ?_ λx hx=> .some hx.np);refine .ite (λ_=>?_) λ_=>?_
  .have hm4:0<iI (ah g.IDs) 4/\iI (ah g.IDs) 4<=ah g.IDs:=by unfold iI ah;split<;>omega
   refine .bind (.rem aa (.bind (.ixl (Int.tmod_nonneg _ C) (by have:=Int.tmod_lt_of_pos k hm4.1;grind [ah]) λy _ hy=>?_)));obtain⟨_,_,_,_,_,_,sy,_⟩:=w.name hy;refine .bind (T.mono (Q:=λx:List Nat=>il fS x) (.ite (λ_=> .some ⟨aC,λz hz=>by simp at hz;rcases hz with rfl|rfl<;>exact Mp _⟩) λ_=> .some ay) λx hx=> .some ⟨?_,h12⟩);exact jS s8.iBy s8.iSeq s8.iKind s8.iAt ay s8.iDevice s8.iOld s8.iMember s8.iRole ay sy (by grind [m7]) aC hx s8.of_ ay s8.iNeed s8.iWait ay s8.pub ay
  refine .bind (T.mono (Q:=λx:DOp×List DIdent=>Nx g x) ?_ λx hx=> .some hx.np);refine .ite (λ_=> .some ⟨?_,h12⟩) λ_=>?_
  .grind [jS,SmOp.iBy,SmOp.iSeq,SmOp.iKind,SmOp.iAt,ay,SmOp.iDevice,SmOp.iOld,SmOp.iMember,SmOp.iRole,SmOp.epoch,SmOp.iN,SmOp.iNeed,SmOp.iWait,SmOp.pub]
  refine .bind (T.mono (Q:=λx:DOp×List DIdent=>Nx g x) ?_ λx hx=> .some hx.np);refine .ite (λ_=> .some ⟨?_,h12⟩) λ_=>?_
  .grind [jS,SmOp.iBy,SmOp.iSeq,SmOp.iKind,SmOp.iAt,ay,SmOp.iDevice,SmOp.iOld,SmOp.iMember,SmOp.iRole,SmOp.epoch,SmOp.iN,SmOp.iNeed,SmOp.iWait,SmOp.pub]
  have s8':SmOp {o with Past:=[],Path:=[],Body:=[],Refs:=[],Guards:=[],Boxes:=[],Hist:=[]}:=by grind [jS,SmOp.iBy,SmOp.iSeq,SmOp.iKind,SmOp.iAt,ay,SmOp.iDevice,SmOp.iOld,SmOp.iMember,SmOp.iRole,SmOp.epoch,SmOp.iN,SmOp.of_,SmOp.iNeed,SmOp.iWait,SmOp.pub]
  refine .bindc ?_ λb _=>?_
  .grind [T.some]
  refine .bind (T.mono (Q:=λx:DOp×List DIdent=>Nx g x) (.ite (λ_=>?_) λ_=> .some ⟨s8',h12⟩) λx hx=> .some hx.np);refine .bind ((Ir w h12 s8' ⟨C,k1⟩).mono λK B=>?_);refine .bind (T.mono (Q:=λx=>IdsOk g x) (by grind [ED,T.some]) λx hx=> .some ⟨B.nopath,hx⟩)
 .obtain⟨c,j⟩:=A;have M:=j.len;refine .bindc ?_ λb _=>?_
  .grind [T.some,kf]
  refine .bind (T.mono (Q:=λx=>IdsOk g x) (.ite (λ_=> .bind ((Cz w).mono (by grind [T.some,IdsOk,List.Perm.length_eq]))) λ_=> .some j) λN d=>?_);refine .bind ((KH w d.len).mono λO l=> .bind ((QH w d _).mono λP R=> .bind ((N0 w d.len).mono λS U=> .some ?_)));exact jS c.iBy (by grind [c8]) c.iKind (yR _) ⟨l.1.len,λx hx=>l.1.smid w hx⟩ c.iDevice c.iOld c.iMember c.iRole ay c.epoch c.iN c.nBody c.sRefs c.of_ c.sGuards c.iNeed c.iWait c.sBoxes c.pub c.sHist
theorem dk{l:List α}{k:Nat}(h:k<l.length):∃y,l[k]?=some y/\y∈l:=by simp_all
def EF(g:D12G)(l:List Int):Prop:=∀x∈l,0<=x/\x<(g.L.length:Int)
theorem EF.nat{g:D12G}{l:List Int}(h:EF g l){x:Int}(hx:x∈l):∃i:Nat,x=(i:Int)/\i<g.L.length:=by obtain⟨h1,h2⟩:=h x hx;exact⟨x.toNat,aa,aa⟩
theorem EF.snoc{g:D12G}{l:List Int}(h:EF g l){i:Nat}(hi:i<g.L.length):EF g (l++[(i:Int)]):=λx hx=>by
 rcases List.mem_append.1 hx with h'|h'
 .exact h x h'
 grind
theorem EF.nil{g:D12G}:EF g []:=λx hx=>by cases hx
structure RkS (g:D12G) (n:Nat) (r:D15R):Prop where
 cards:r.Cards=g.Cards
 dev:r.In.length+r.Gone.length<=n
 nL:r.L.length<=n
 nV:r.V.length<=n
 mem:∀m∈r.L,m.Guards.length<=1000
def Nd(r:D15R):Prop:=∀m∈r.L,m.Is=true->1<=m.Need
theorem RkS.up{g:D12G}{n m:Nat}{r:D15R}(h:RkS g n r)(hm:n<=m):RkS g m r:=by grind [RkS]
section
variable {g:D12G} {n:Nat} {r:D15R}
theorem dM(w:WfG g)(h:RkS g n r)(d:Int):T (gE r d) λ_=>True:=by
 have nC:=w.nC;have hc:r.Cards.length<=1000:=by rw[h.cards];exact nC
 unfold gE;refine .bind (T.mono (Q:=λ_=>True) (T.forI r.Cards.length (λ_=>True) aa trivial (λk hk _=>?_) λ_=>?_) λx _=>?_)
 .obtain⟨y,hy,_⟩:=dk hk;unfold AR;simp only[eA hk,aN,au,hy,aL];exact .ite (λ_=> .some trivial) λ_=> .some ⟨aq aa,trivial⟩
 .unfold AR;rw[eF,cG];exact .some trivial
 .cases x<;>exact .some trivial
theorem d9(h:RkS g n r)(hn:n<=100001)(d:Int):T (dS r d) λv=>v<0\/∃k:Nat,v=(k:Int)/\k<r.L.length:=by
 have nL:=h.nL;unfold dS;refine .bind (T.mono (Q:=λx:Unit⊕Int=>∀q,x= .inr q->∃k:Nat,q=(k:Int)/\k<r.L.length) (T.forI r.L.length (λ_=>True) aa trivial (λk hk _=>?_) λ_=>?_) λx hx=>?_)
 .obtain⟨y,hy,_⟩:=dk hk;unfold o5;simp only[eA hk,aN,au,hy,aL];refine .ite (λ_=> .some ?_) λ_=> .some ⟨aq aa,trivial⟩;intro q e;grind
 .unfold o5;rw[eF,cG];refine .some ?_;intro q e;cases e
 .cases x with
  |inl u=>exact .some (.inl dL)
  |inr q=>exact .some (.inr (hx q rfl))
theorem yh(hn:n<=100000)(h:RkS g n r)(d:Int):T (se r d) λ_=>True:=by grind [se,T.bind,T.mono,d9,T.some,au]
theorem QK(hn:n<=100000)(h:RkS g n r)(d:Int):T (Fd r d) λ_=>True:=by grind [RkS,Fd,cX,T.some]
theorem uY(w:WfG g)(hn:n<=100000)(h:RkS g n r)(d:Int):T (nW r d) λ_=>True:=by grind [nW,T.bindc,QK,dM,T.some]
theorem uZ(w:WfG g)(hn:n<=100000)(h:RkS g n r)(d role:Int):T (nX r d role) λr'=>RkS g (n+1) r'/\(Nd r->Nd r'):=by
 have h1:=h.dev;have h2:=h.nL;unfold nX;refine .bindc (uY w hn h d) λv _=> .ite (λ_=> .some ⟨h.up aa,id⟩) λ_=>?_;refine .bind (.app cq (.bind (.app cq ?_)));rw[List.nil_append];have h':RkS g (n+1) {r with In:=r.In++[d]}:=⟨h.cards,by simp;omega,by show r.L.length<=_;omega,by have:=h.nV;show r.V.length<=_;omega,h.mem⟩;refine .bindc (dM w h' d) λa _=> .bind ((d9 h' (show n+1<=100001 by omega) a).mono λb _=> .dec (λ_=>?_) λ_=> .some ⟨h',id⟩);refine .bind (.bind (.app cq (.bind (.app cq (.some ?_)))));rw[List.nil_append];refine .some ⟨⟨h'.cards,h'.dev,by simp;omega,h'.nV,λm hm=>?_⟩,λnd m hm=>?_⟩
 .rcases List.mem_append.1 hm with hm|hm
  .exact h.mem m hm
  .simp at hm;subst hm;simp
 .rcases List.mem_append.1 hm with hm|hm
  .exact nd m hm
  .simp at hm;subst hm;simp
theorem zd(h:RkS g n r)(hn:n<=100001)(i:DIdent):T (jN r i) λv=>v<0\/∃(k:Nat) (m:D15M),v=(k:Int)/\r.L[k]?=some m/\m.Is=true:=by
 have nL:=h.nL;unfold jN;refine .bind (T.mono (Q:=λx:Unit⊕Int=>∀q,x= .inr q->∃(k:Nat) (m:D15M),q=(k:Int)/\r.L[k]?=some m/\m.Is=true) (T.forI r.L.length (λ_=>True) aa trivial (λk hk _=>?_) λ_=>?_) λx hx=>?_)
 .obtain⟨y,hy,_⟩:=dk hk;unfold qQ;simp only[eA hk,aN,au,hy,aL];refine .bind (T.mono (Q:=λb:Bool=>b=true->y.Is=true) (by grind [T.some]) λb hb=> .ite (λe=> .some ?_) λ_=> .some ⟨aq aa,trivial⟩);intro q e';grind
 .unfold qQ;rw[eF,cG];refine .some ?_;intro q e;cases e
 .cases x with
  |inl u=>exact .some (.inl dL)
  |inr q=>exact .some (.inr (hx q rfl))
theorem u4(hn:n<=100000)(h:RkS g n r)(i:DIdent):T (jN r i) λv=>v<0\/∃(k:Nat) (m:D15M),v=(k:Int)/\r.L[k]?=some m/\m.Is=true:=zd h (Nat.le_succ_of_le hn) i
theorem CC(w:WfG g)(h:RkS g n r)(hn:n<=100001)(d:Int):T (sh r d) λr'=>RkS g n r'/\(Nd r->Nd r'):=by
 have h1:=h.dev;have h2:=h.nL;have h3:=h.nV;unfold sh;rw[cX aa,aL];refine .ite (λ_=> .some ⟨h,id⟩) λhh=>?_;have hd:d∈r.In:=by grind [QF]
 have hlt:(r.In.filter λx=>decide (x≠d)).length<r.In.length:=by simp_all
 refine .bindc (dM w h d) λq _=> .bind (T.mono (Q:=λx:List Int×Bool=>x.1=r.In.filter λx=>decide (x≠d)) ?_ λp h7=>?_)
 .refine T.mono (T.loop (Q:=λx:List Int×Bool=>x.1=r.In.filter λx=>decide (x≠d)) (λs=>∃k:Nat,k<=r.In.length/\s.2.2=(k:Int)/\s.1=(r.In.take k).filter λx=>decide (x≠d)) (λs=>r.In.length-s.2.2.toNat) (by grind) cq ?_) λ_ hx=>hx;rintro⟨a,b,i⟩ ⟨k,hk,rfl,ha⟩;simp only at ha;rcases Nat.lt_or_ge k r.In.length with hl|hg
  .obtain⟨y,hy,_⟩:=dk hl;have ht:(r.In.take (k+1)).filter (λx=>decide (x≠d))=a++[y].filter (λx=>decide (x≠d)):=by grind [List.take_add_one]
   have hal:a.length<=k:=by grind
   have hm:wI ((k:Int)+1)=((k+1:Nat):Int):=aq aa;unfold uj;simp only[eA hl,aN,au,hy,aL];refine .dec (λhp=> .bind (.app cq (.bindc (by grind [T.some,T.bindc,dM]) λj _=> .some ⟨⟨k+1,aa,hm,?_⟩,?_⟩))) λhp=> .some ⟨⟨k+1,aa,hm,?_⟩,?_⟩
   .grind
   .grind
   .grind
   .show r.In.length-(wI ((k:Int)+1)).toNat<_;rw[hm];simp;omega
  .obtain rfl:k=r.In.length:=aa;unfold uj;dsimp only;rw[eF,cG];exact .some (by show a=_;rw[ha,List.take_length])
 .obtain⟨t,u⟩:=p;simp only at h7;subst h7;refine .bind (.app cq (.bind (.app cq ?_)));rw[List.nil_append];have hk:∀(L:List D15M) (V:List D15V),L.length<=n->V.length<=n->(∀m∈L,m∈r.L)->RkS g n {r with In:=r.In.filter λx=>decide (x≠d),Gone:=r.Gone++[d],L:=L,V:=V}:=by grind [RkS]
  refine .ite (λ_=> .some ⟨(by grind),id⟩) λ_=>?_;refine .bind (T.mono (Q:=λx:List D15M×List D15V=>x.1.length<=n/\(∀m∈x.1,m∈r.L)/\x.2=[]) ?_ λc e=>?_)
  .refine T.mono (T.loop (Q:=λx:List D15M×List D15V=>x.1.length<=n/\(∀m∈x.1,m∈r.L)/\x.2=[]) (λs=>∃k:Nat,k<=r.L.length/\s.2.2=(k:Int)/\s.1.length<=k/\(∀m∈s.1,m∈r.L)/\s.2.1=[]) (λs=>r.L.length-s.2.2.toNat) (by grind) cq ?_) λ_ hx=>hx;rintro⟨a,b,i⟩ ⟨k,hk,rfl,ha,hs,hb⟩;simp only at ha hs hb;rcases Nat.lt_or_ge k r.L.length with hl|hg
   .obtain⟨y,hy,f⟩:=dk hl;have hm:wI ((k:Int)+1)=((k+1:Nat):Int):=aq aa;unfold ui;simp only[eA hl,aN,au,hy,aL];refine .dec (λhp=> .bind (.app cq (.some ⟨⟨k+1,aa,hm,by simp;omega,λm hmm=>?_,hb⟩,?_⟩))) λhp=> .some ⟨⟨k+1,aa,hm,Nat.le_succ_of_le ha,hs,hb⟩,?_⟩;all_goals grind
   .obtain rfl:k=r.L.length:=aa;unfold ui;dsimp only;rw[eF,cG];exact .some ⟨Nat.le_trans ha h2,hs,hb⟩
  .obtain⟨L,V⟩:=c;obtain⟨hL,hs,hV⟩:=e;simp only at hL hs hV;subst hV;have hx:=hk L r.V hL h3 hs;refine .bind (T.mono (Q:=λv:List D15V=>v.length<=n) (T.forA r.V.length (λk acc=>acc.length<=k) aa aC (λk acc hkl hj=>?_) λacc hj=>?_) λl o=> .some ⟨hk L l hL o hs,λnd m hm=>nd m (hs m hm)⟩)
   .obtain⟨y,hy,f⟩:=dk hkl;unfold uh;simp only[eA hkl,aN,au,hy,aL];refine .bind ((zd hx hn y.Of).mono λv _=> .dec (λ_=> .bind (.app cq (.some ⟨aq aa,by simp;omega⟩))) λ_=> .some ⟨aq aa,Nat.le_succ_of_le hj⟩)
   .unfold uh;dsimp only;rw[eF,cG];exact .some (Nat.le_trans hj h3)
theorem N5(w:WfG g)(hn:n<=100000)(h:RkS g n r)(d:Int):T (sh r d) λr'=>RkS g n r'/\(Nd r->Nd r'):=CC w h (Nat.le_succ_of_le hn) d
end
theorem yi{l:List D15M}(hl:l.length<=1000000){k:Nat}(hk:k<l.length)(m:D15M):T (o6 l (k:Int) m) λr=>r=l.set k m:=by grind [o6,T.bind,T.app,T.set]
theorem Mu{l:List D15M}{m x:D15M}(h:x∈l.set k m):x∈l\/x=m:=by grind
section
variable {g:D12G} {n:Nat} {r:D15R}
theorem RkS.setL(h:RkS g n r){k:Nat}{m:D15M}(hm:m.Guards.length<=1000):RkS g n {r with L:=r.L.set k m}:=by grind [RkS]
theorem Nd.setL(h:Nd r){k:Nat}{m:D15M}(hm:m.Is=true->1<=m.Need):Nd {r with L:=r.L.set k m}:=λx hx=>by
 rcases Mu hx with hx|rfl
 .exact h x hx
 .exact hm
theorem RkS.setV(h:RkS g n r){V:List D15V}(hV:V.length<=n):RkS g n {r with V:=V}:=by grind [RkS]
theorem Ga(w:WfG g)(hn:n<=100000)(h:RkS g n r)(so:SmOp o)(a:DIdent):T (o7 r o a) λr'=>RkS g n r'/\((o.Kind=9->1<=o.Need)->o.Kind=9->Nd r->Nd r'):=by
 have h2:=h.nL;have h3:=h.nV;unfold o7;refine .bindc (dM w h _) λd _=> .bind ((d9 h aa d).mono λl hv=> .dec (by grind [T.some]) λhp=>?_);rcases hv with hv|⟨k,rfl,hk⟩
 .omega
 obtain⟨y,hy,hm⟩:=dk hk;simp only[au,hy,aL];refine .bind ((yi aa hk _).mono λf e=>?_);subst e;have hx:=h.setL (k:=k) (m:=⟨y.N,y.Role,true,a,o.Guards,o.Need,o.Wait,false,0⟩) so.sGuards.1;refine .bind (T.mono (Q:=λv:List D15V=>v.length<=n) (T.forA r.V.length (λk acc=>acc.length<=k) aa aC (λk acc hkl hj=>?_) λacc hj=>?_) λi b=> .some ⟨hx.setV b,λhd c nd=>?_⟩)
 .obtain⟨y,hy,j⟩:=dk hkl;unfold ni;simp only[eA hkl,aN,au,hy,aL];refine .bind ((u4 hn hx y.Of).mono λv _=> .dec (λ_=> .bind (.app cq (.some ⟨aq aa,by simp;omega⟩))) λ_=> .some ⟨aq aa,Nat.le_succ_of_le hj⟩)
 .unfold ni;dsimp only;rw[eF,cG];exact .some (Nat.le_trans hj h3)
 .exact nd.setL (k:=k) λ_=>hd c
theorem ze(w:WfG g)(hn:n<=100000)(h:RkS g n r)(o:DOp):T (nY r o) λv=>v.2≠0\/∃(k:Nat) (m:D15M),v.1=(k:Int)/\r.L[k]?=some m/\m.Is=true:=by unfold nY;refine .bind ((u4 hn h o.Of).mono λv hv=> .dec (by grind [T.some]) λhp=>?_);grind [au,cX,RkS.mem,T.some]
theorem Gb(w:WfG g)(hn:n<=100000)(h:RkS g n r)(o:DOp):T (o8 r o) λr'=>RkS g (n+1) r'/\(Nd r->Nd r'):=by
 have h3:=h.nV;unfold o8;refine .bind ((ze w hn h o).mono λd _=> .dec (by grind [T.some,RkS.up]) λ_=>?_);refine .bind (T.mono (Q:=λx:Int×List D15V=>x.2.length<=n) ?_ λe h5=> .bind (.app cq (.some ⟨(by grind [RkS.setV,RkS.up]),λnd=>nd⟩)));refine T.mono (T.loop (Q:=λx:Int×List D15V=>x.2.length<=n) (λs=>∃k:Nat,k<=r.V.length/\s.2.2=(k:Int)/\s.2.1.length<=k) (λs=>r.V.length-s.2.2.toNat) (by grind) cq ?_) λ_ hx=>hx;rintro⟨a,b,i⟩ ⟨k,hk,rfl,ha⟩;simp only at ha;rcases Nat.lt_or_ge k r.V.length with hl|hg
 .obtain⟨y,hy,c⟩:=dk hl;have hm:wI ((k:Int)+1)=((k+1:Nat):Int):=aq aa;have hμ:r.V.length-(wI ((k:Int)+1)).toNat<r.V.length-((k:Int)).toNat:=by rw[hm];simp;omega
  unfold nj;simp only[eA hl,aN,au,hy,aL];refine .bindc ?_ λj _=> .ite (λ_=> .some (by constructor<;>grind)) λ_=> .bind (.app cq (.some (by constructor<;>grind)));grind [T.some]
 .obtain rfl:k=r.V.length:=aa;unfold nj;dsimp only;rw[eF,cG];exact .some (Nat.le_trans ha h3)
theorem N6(w:WfG g)(hn:n<=100000)(h:RkS g n r){o:DOp}{step:List Int×Int->Option ((List Int×Int)⊕(List Int))}(he:step=λs=>bif decide (s.2<ah r.In) then((aS r.In s.2).bind λa=>(gE r a).bind λb=>bif decide (b=o.Member) then((aS r.In s.2).bind λc=>(aT 8 s.1 ([c]:List Int)).bind λd=>some (.inl (d,wI (s.2+1)))) else(some (.inl (s.1,wI (s.2+1))))) else(some (.inr s.1))):T (bo step ([],0)) λl=>l.length<=n:=by
 have h1:=h.dev;subst he;refine T.forA r.In.length (λk acc=>acc.length<=k) aa aC (λk acc hk hj=>?_) λacc hj=>?_
 .obtain⟨y,hy,e⟩:=dk hk;simp only[eA hk,aN,au,hy,aL];refine .bindc (dM w h y) λv _=> .dec (λ_=> .bind (.app cq (.some ⟨aq aa,by simp;omega⟩))) λ_=> .some ⟨aq aa,Nat.le_succ_of_le hj⟩
 .dsimp only;rw[eF,cG];exact .some (by show acc.length<=n;omega)
theorem Gc(w:WfG g)(hn:n<=100000)(h:RkS g n r)(so:SmOp o)(c:DIdent):T (DM r o c) λr'=>RkS g (n+1) r'/\((o.Kind=9->1<=o.Need)->Nd r->Nd r'):=by
 have h1:=h.dev;have h2:=h.nL;have up:=h.up (Nat.le_succ n);unfold DM;refine .bindc (dM w h _) λd _=> .bind ((d9 h aa d).mono λf hv=> .dec (λ_=>?_) λ_=>?_)
 .refine .bindc (by grind [T.some]) λj _=> .ite (by grind [T.some]) λ_=> .bind ((uZ w hn h _ _).mono λu h9=> .some ⟨(by grind [RkS]),λ_ nd=>h9.2 nd⟩)
 refine .dec (λ_=> .bind (by grind [T.mono,uZ,T.some])) λ_=>?_;refine .dec (λ_=>?_) λ_=>?_
 .refine .bind (T.mono (Q:=λx:List Int⊕D15R=>∃l,x= .inl l/\l.length<=n+1) (.dec (λ_=> .bind ((N6 w hn h (o:=o) rfl).mono (by grind [T.some]))) (by grind [T.some])) λx hx=>?_);obtain⟨l,rfl,hl⟩:=hx;refine .bind (T.mono (Q:=λr':D15R=>RkS g n r'/\(Nd r->Nd r')) (T.forA l.length (λ_ r'=>RkS g n r'/\(Nd r->Nd r')) aa ⟨h,λnd=>nd⟩ (λk acc hk hj=>?_) λacc hj=>?_) (by grind [T.some,RkS.up]))
  .obtain⟨y,hy,i⟩:=dk hk;unfold AT;simp only[eA hk,aN,au,hy,aL];exact .bind ((N5 w hn hj.1 y).mono λv hv=> .some (by constructor<;>grind [aq]))
  .unfold AT;dsimp only;rw[eF,cG];exact .some hj
 refine .dec (λ_=>?_) λ_=>?_
 .refine .bind ((d9 h aa o.Member).mono λv hv=> .dec (λhp=>?_) (by grind [T.some]));rcases hv with hv|⟨k,rfl,hk⟩
  .omega
  obtain⟨y,hy,hm⟩:=dk hk;rw[au,hy,aL];refine .bind ((yi aa hk _).mono λa e=> .some ?_);subst e;exact⟨up.setL (h.mem y hm),λ_ nd=>nd.setL λe=>nd y hm e⟩
 refine .dec (λhk=> .bind (by grind [T.mono,Ga,T.some,RkS.up])) λ_=>?_;refine .dec (λ_=> .bind (by grind [T.mono,Gb,T.some])) λ_=>?_;refine .dec (λ_=>?_) λ_=>?_
 .refine .bind (T.mono (Q:=λb:Bool=>b=true->0<=f) (.dec (λh0=>?_) (by grind [T.some])) λb hb=> .ite (λe=>?_) (by grind [T.some]))
  .grind [hE,au,T.some]
  .have h0:=hb e;rcases hv with hv|⟨k,rfl,hk⟩
   .omega
   obtain⟨y,hy,hm⟩:=dk hk;rw[au,hy,aL];refine .bind ((yi aa hk _).mono λa e=> .some ?_);subst e;exact⟨up.setL (h.mem y hm),λ_ nd=>nd.setL λe=>nd y hm e⟩
 refine .dec (λ_=>?_) (by grind [T.some]);refine .bind ((u4 hn h o.Of).mono λm hv=> .bindc (.dec (λh0=>?_) λ_=> .some trivial) λj _=> .ite (λ_=>?_) (by grind [T.some]))
 .grind [hE,cX,au,T.bindc,dM,T.some]
 .exact .bindc (dM w h _) λp _=> .bindc (yh hn h _) λq _=> .bind ((uZ w hn h _ _).mono λs t=> .bind (by grind [T.mono,CC,T.some]))
end
theorem WfG.inrow{g:D12G}(w:WfG g){i:Nat}(h:i<g.L.length):∃r,g.In[i]?=some r/\r.length=g.L.length:=by obtain⟨r,hr,_⟩:=dk (l:=g.In) (k:=i) (by rw[w.nN];exact h);grind [rows]
theorem WfG.cell{g:D12G}(w:WfG g){i k:Nat}(h:i<g.L.length)(hk:k<g.L.length):∃r b,g.In[i]?=some r/\r[k]?=some b:=by obtain⟨r,hr,hl⟩:=w.inrow h;simp_all
theorem Mv(g:D12G):RkS g 0 ⟨g.Cards,[],[],[],0,[]⟩:=by grind [RkS]
theorem Oc{n:Nat}(h:2<=n)(hn:n<=1000000):T (zZ (n:Int)) λv=>∃k:Nat,v=(k:Int)/\1<=k/\k<n:=by
 unfold zZ;refine .bind (T.mono (Q:=λv:Int=>∃k:Nat,v=(k:Int)/\1<=k/\k<n) (T.loop (λs=>∃k:Nat,s=(k:Int)/\1<=k/\k<n) (λs=>n-s.toNat) ⟨1,rfl,aa,aa⟩ cq ?_) λv hv=> .some hv);rintro s ⟨k,rfl,h1,h2⟩;unfold AE;have e:wI (2*(k:Int))=((2*k:Nat):Int):=by grind [bM]
 rw[e];refine .dec (λhp=> .some ⟨⟨2*k,rfl,aa,aa⟩,?_⟩) λ_=> .some ⟨k,rfl,h1,h2⟩;simp;omega
theorem u6:∀(nn:Nat) (l:List Int),l.length<nn->l.length<=1000000->T (su nn l) λr=>r.length<=2*l.length-1/\∀y∈r,y.length<=l.length
 |0,_,h,_=>absurd h (Nat.not_lt_zero _)
 |nn+1,l,h,hl=>by
  unfold su;refine .dec (λ_=> .some ⟨aC,aC⟩) λh0=> .dec (λh1=>?_) λh1=>?_
  .grind [ah,T.some]
  .unfold ah at h0 h1⊢;refine .bind ((Oc (n:=l.length) aa hl).mono λd hv=>?_);obtain⟨k,rfl,k1,k2⟩:=hv;refine .bind (.pre aa aa ?_);rw[Int.toNat_natCast];refine .bind ((u6 nn (l.take k) cq cq).mono λe h7=> .bind (.app (by simp at h7⊢;omega) (.bind (.suf aa aa ?_))));rw[Int.toNat_natCast];refine .bind ((u6 nn (l.drop k) cq cq).mono λc h13=> .bind (.app (by simp at h7 h13⊢;omega) (.some ?_)));simp only[List.length_take,List.length_drop] at h7 h13;have e1:min k l.length=k:=aa;rw[e1] at h7;refine⟨?_,λy hy=>?_⟩
   .have a:=h7.1;have b:=h13.1;simp only[List.length_append,List.length_singleton];omega
   .simp only[List.mem_append,List.mem_singleton] at hy;rcases hy with(rfl|hy)|hy
    .exact Nat.le_refl _
    .have:=h7.2 y hy;omega
    .have:=h13.2 y hy;omega
theorem Od{l:List Int}(hl:l.length<=100000)(d:Int):T (Dx l d) λr=>r.length<=200000:=by
 unfold Dx z0;refine .bind ((u6 _ l aa aa).mono λb h1=>?_);have e:wI (ah b-1)=ah b-1:=by grind [bM,ah]
 rw[e];refine .bind (T.mono (Q:=λr:List (List Int)=>r.length<=200000) (T.loop (λs=> -1<=s.2/\s.2<(b.length:Int)/\s.1.length+(s.2+1).toNat<=b.length) (λs=>(s.2+1).toNat) (by grind [ah]) (by grind [ah]) ?_) λ_ h=> .some h);rintro⟨a,i⟩ ⟨i1,c,f⟩;simp only at i1 c f;unfold AF;refine .dec (λh0=>?_) λ_=> .some (by show a.length<=_;omega);replace h0:0<=i:=h0;refine .bind (.ixl h0 (by show i<_;omega) λy hy hm=>?_);have hw:wI (i-1)=i-1:=bM aa aa;rw[cX (by have:=h1.2 y hm;omega),aL];refine .ite (λ_=>?_) λ_=> .some ⟨⟨?_,?_,?_⟩,?_⟩
 .rw[show aS b (a,i).2=aS b i from rfl];refine .bind (.ixl h0 aa λz _ _=> .bind (.app (by show(a.length+1)*24<=_;omega) (.some ⟨⟨?_,?_,?_⟩,?_⟩)));all_goals grind
 all_goals grind
theorem zh(k:Int):T (iE k) λ_=>True:=by grind [iE,T.some]
inductive Grown (g0:D12G):D12G->Prop
 |base:Grown g0 g0
 |step {g:D12G} {o:DOp} {id:DIdent} {up:List Int} {row:List Bool}:Grown g0 g->WfG g->SmOp o->fS o.Sig.R->fS o.Sig.S->AddOk g o up->pV o=some id->jA g up=some row->Grown g0 (pL g o id up row)
def u7:List DCard:=(ql [1,2,3,1,2,3]).getD []
theorem Oe:ql [1,2,3,1,2,3]=some u7:=aH
def KK(c:DCard):Bool:=decide (1<=c.Device/\c.Device<=6/\1<=c.Member/\c.Member<=3/\c.Sign<18446744073709551616)
theorem Og:u7.all KK=true:=aH
theorem KL:u7.length=6:=aH
attribute [irreducible] u7
def g0:D12G:=⟨u7,[],[],[],[]⟩
theorem Yu:WfG g0 where
 nL:=by simp[g0]
 nI:=rfl
 nU:=rfl
 nN:=rfl
 nC:=by show u7.length<=1000;rw[KL];decide
 cards:=λc hc=>by have h:KK c=true:=List.all_eq_true.1 Og c hc;grind [KK,c8,fS]
 up:=by grind [g0]
 rows:=by grind [g0]
 inlt:=by grind [yH,g0]
 ops:=by grind [g0]
 ids:=by grind [g0]
 nd:=by simp[g0]
 one:=by grind [g0]
 tr:=by grind [g0]
 la:=by grind [yH,g0]
def We(c:Int):DOp:=⟨1,1,1,0,[],0,0,0,0,[],⟨0,0,0⟩,0,[],[],⟨0,0,0⟩,[],c,0,[],0,[],⟨0,0⟩⟩
theorem Yv{a b:Int}(ha:c8 a)(hb:c8 b):∃c∈([0,1,2,3]:List Int),sd g0 a b=some (We c):=by
 obtain⟨d,e1,h1⟩:=eX ha (show(0:Int)<1000000 by decide);obtain⟨e,e3,h3⟩:=eX hb (show(0:Int)<1000000 by decide);obtain⟨f,e5,_⟩:=EE h3.1;refine⟨d.tmod 4,?_,?_⟩
 .grind
 .unfold sd;rw[e1,aL,e3,aL,e5,aL];rfl
def Mw(c:Int)(b:Bool):Option (D12G×Int):=(jm g0 ({We c with Path:=[]})).bind λa=>(bif b then(some (wI ((ah a)+1))) else(some (ah a))).bind λd=>(iE (We c).Kind).bind λe=>(bo (lw (g0,0) d e) ([],0)).bind λf=>(nR ({We c with Path:=f})).bind λg=>AO g0 g
theorem QO:(([0,1,2,3]:List Int).all λc=>[true,false].all λb=>(Mw c b).map (λr=>(r.2,r.1.L.length))==some (0,1))=true:=aH
theorem Tm(hc:c∈([0,1,2,3]:List Int))(b:Bool):∃r,Mw c b=some r/\r.2=0/\r.1.L.length=1:=by have h:=List.all_eq_true.1 (List.all_eq_true.1 QO c hc) b (by cases b<;>simp);simp_all
theorem KM{l:List Int}(hi:∀x∈l,c8 x){most:Int}(h0:0<most){r:(D12G×Int)⊕D12G}(h:ly l most (g0,((0:Nat):Int))=some r):∃g,r= .inl (g,1)/\g.L.length=1:=by
 have at_:∀(n:Int),0<=n->∃v,c8 v/\(bif decide (n<ah l) then((aS l n).bind λk=>some k) else(some 0))=some v:=by grind [ah,aS,dP]
 have e2:wI (2*((0:Nat):Int))=0:=bM dL dL;have e3:wI ((0:Int)+1)=1:=bM dL dL;have e4:wI (((0:Nat):Int)+1)=1:=bM dL dL;obtain⟨a,ha,ea⟩:=at_ 0 dL;obtain⟨b,hb,eb⟩:=at_ 1 dL;obtain⟨c,hc,p⟩:=Yv ha hb;obtain⟨d,m,_⟩:=eX hb (show(0:Int)<31 by decide);obtain⟨q,hq,q1,s⟩:=Tm hc (decide (d=30));unfold Mw at hq;unfold ly at h;simp only[e2,e3,e4] at h;rw[decide_eq_true (by grind),decide_eq_true (by grind),aN,aN,aL,aN,ea,aL,eb,aL,p,aL] at h;cases hs:jm g0 ({We c with Path:=[]}) with
 |none=>rw[hs] at hq;cases hq
 |some e=>
  rw[hs,aL] at hq;rw[hs,aL,m,aL] at h;cases hj:(bif decide (d=30) then(some (wI ((ah e)+1))) else(some (ah e)):Option Int) with
  |none=>rw[hj] at hq;cases hq
  |some f=>
   rw[hj,aL] at hq h;cases hk:iE (We c).Kind with
   |none=>rw[hk] at hq;cases hq
   |some i=>
    rw[hk,aL] at hq h;cases hx:bo (lw (g0,0) f i) ([],0) with
    |none=>rw[hx] at hq;cases hq
    |some j=>
     rw[hx,aL] at hq;rw[show bo (lw (g0,((0:Nat):Int)) f i) ([],0)=some j from hx,aL] at h;cases hg:nR ({We c with Path:=j}) with
     |none=>rw[hg] at hq;cases hq
     |some o=>grind
theorem T6(m:FM DIdent Int)(i:DIdent)(n:Int)(x:DIdent):(CW m i n).get x=match m.get x with|some v=>some v|none=>if i=x then some n else none:=by grind [CW,FM.get]
theorem EV{k x:DIdent}:∀{l:List DIdent},bu k (l++[x])=match bu k l with|some n=>some n|none=>if x=k then some l.length else none
 |[]=>by grind [bu]
 |y::r=>by
  rw[List.cons_append,bu,bu];by_cases e:k=y
  .rw[if_pos e,if_pos e]
  .rw[if_neg e,if_neg e,EV (l:=r)];grind
theorem T7(hn:g.Cards.length<=1000000){d:Int}{c:DCard}(h:mZ g d=(c,true)):hY ⟨g.Cards,m,N⟩ d=some (c,true):=by
 unfold mZ at h;unfold hY;refine T.eq (.bind (T.forA g.Cards.length (λk acc=>∀(j:Nat) (c:DCard),j<k->g.Cards[j]?=some c->c.Device≠d) aa (by grind) (λk acc hk hj=>?_) λacc hj=>?_))
 .obtain⟨x,hx⟩:∃x,g.Cards[k]?=some x:=⟨_,fy hk⟩;unfold ij;dsimp only;rw[eA hk,aN,au,hx,aL];refine .dec (λe=> .some (.some ?_)) λe=> .some ⟨aq aa,λj c' a b=>?_⟩
  .grind [List.find?_eq_some_iff_getElem]
  grind
 grind [List.getElem?_of_mem]
theorem T8(w:WfG g)(pg:PgOk g m N){id:DIdent}{up:List Int}{row:List Bool}(sm:SmOp o)(hs:fS o.Sig.S)(a:AddOk g o up)(hid:pV o=some id)(hrow:jA g up=some row):
  ∃y:DGraphNode,y.o=o/\y.id=id/\PgOk (pL g o id up row) (CW m id N.length) (N++[y])/\jg prog fI 57 [.ref 0 0,.agg (aJ o)] [(0,oG g.Cards N.length 2),(1,oM m),(2,zQ N)] 3 (iG 0) [(0,oG g.Cards (N++[y]).length 3),(1,oM (CW m id N.length)),(3,zQ (N++[y]))] 4:=by
 have nL:=w.nL
 have nI:=w.nI
 have pl:=pg.len
 have hro:=a.room
 have f:=T1 a.check.numbers
 have ul:up.length<=12:=by rw[a.upl];exact pK a.check.long
 obtain⟨s,d,r,t⟩:=yc w (up:=up) aa a.upb
 rw[hrow] at d
 cases d
 obtain⟨E,e,hfr⟩:=a.id
 rw[hid] at e
 cases e
 obtain⟨c,hc,i⟩:=a.card
 obtain⟨K,hr1,hr2⟩:=a.right
 rw[hrow] at hr1
 cases hr1
 obtain⟨v,hv,l⟩:=Xb w (o:=o) r
 rw[hr2] at hv
 cases hv
 have hR:=l rfl
 obtain⟨⟨p,b,F,lev⟩,h1,e1,e2,e3,e4,e5,e8⟩:=ZF w pg a sm
 dsimp only at e1 e2 e3 e4 e5 e8
 have hbeh:∀j:Nat,j<256->(gW (yv b p) j=true↔kZ g up j):=by grind [RP,kZ]
 obtain⟨⟨last,H⟩,h4,e6,e7⟩:=ZG (A:=yv b p) w pg f (by grind) hR
 dsimp only at e6 e7
 obtain⟨I,q,ho2⟩:=TU sm
 rw[hid] at ho2
 cases ho2
 have ap:AddP g.Cards m N o id c (pT o.Kind):={
  chk:=RL a.check sm
  sm:=sm
  cl:=RM sm
  id:=q
  fresh:=by rw[pg.get,hfr];rfl
  room:=aa
  card:=T7 (by have:=w.nC;omega) hc
  by_:=(yd hc).2.symm
  sig:=TW (by have:=yY sm;omega) i
  create:=by grind [AddOk.create]
  nPast:=by have:=sm.nPast;omega
  par:=λx hx=>by obtain⟨k,hk⟩:=List.getElem?_of_mem hx;obtain⟨n,hn,_⟩:=a.par k x hk;have hnl:n<g.IDs.length:=(cr (gb hn).1).1;grind [PgOk.get]}
 have h2:ZA p b 4=z4:=by grind [RQ,AddOk.apart]
 refine⟨⟨o,id,yv b p,lev⟩,rfl,rfl,⟨?_,?_,?_,?_⟩,(by grind [W7])⟩
 .show(N++[_]).length=(g.L++[o]).length
  simp[pl]
 .intro k y hy
  have inx:=kU w (o:=o) (id:=id) (up:=up) r
  rcases je hy with⟨hk,h⟩|⟨hk,rfl⟩
  .obtain⟨z,B,J,C,D⟩:=pg.nd k y h
   refine⟨Ms z,Ms B,λj hj=>?_,C,D⟩
   grind
  .subst hk
   refine⟨by rw[pl];exact F8,by rw[show N.length=g.IDs.length by omega];exact F8,λj hj=>?_,e4,e5⟩
   have:=inx N.length j
   have hb:=hbeh j hj
   have hrj:row[j]?=some true↔kZ g up j:=by
    rcases Nat.lt_or_ge j g.L.length with h|h
    .exact t j h
    .constructor
     .grind
     .rintro(h2|⟨n,h2,h3⟩)
      .have:=(a.upb _ h2).2;omega
      .have:=w.inlt n j h3;omega
   grind
 .intro x
  rw[T6,pg.get,show(pL g o id up row).IDs=g.IDs++[id] from rfl,EV]
  cases bu x g.IDs<;>grind
 .intro k y u hy hu
  have hUp:(pL g o id up row).Up=g.Up++[up]:=rfl
  have nU:=w.nU
  rw[hUp] at hu
  rcases je hy with⟨hk,h⟩|⟨hk,rfl⟩
  .rw[List.getElem?_append_left aa] at hu
   rw[pg.lv k y u h hu]
   refine(OS λx hx=>?_).symm
   have:=(w.up k u hu).2 x hx
   omega
  .subst hk
   rw[List.getElem?_append_right aa,show N.length-g.Up.length=0 by omega] at hu
   obtain rfl:=cP hu
   show lev=_
   rw[e8]
   refine(OS λx hx=>?_).symm
   have:=a.upb x hx
   omega
theorem OL{b:D12G}(h:Grown b g)(hb:b.L=[])(hi:b.IDs=[])(hs:xf b.Cards):∃(c:Nat->FM DIdent Int) (N:List DGraphNode),g.Cards=b.Cards/\g.L.length<=200/\OfRun g c N/\PgOk g (c g.L.length) N:=by
 induction h with
 |base=>refine⟨λ_=>⟨[],0⟩,[],rfl,by rw[hb];exact Nat.zero_le _,⟨hs,by rw[hb];exact Nat.zero_le _,by rw[hb];rfl,rfl,λk o ho=>by rw[hb] at ho;simp at ho⟩,⟨by rw[hb];rfl,λk y hy=>by simp at hy,(λx=>by rw[hi];rfl),(λk y u hy=>by simp at hy)⟩⟩
 | @step g o id up row gr w sm _ d a hid hrow ih=>
  obtain⟨c,N,hc,hl,hrun,pg⟩:=ih;have pl:=pg.len;have hro:=a.room;obtain⟨y,f,i,e,hm⟩:=T8 w pg sm d a hid hrow;have el:(pL g o id up row).L=g.L++[o]:=rfl;have ell:(pL g o id up row).L.length=g.L.length+1:=by rw[el];simp
  have eC:(pL g o id up row).Cards=g.Cards:=rfl;refine⟨λk=>if k<=g.L.length then c k else CW (c g.L.length) id N.length,N++[y],hc,aa,⟨by rw[eC];exact hrun.srt,aa,by rw[ell];simp[pl],by show(if 0<=g.L.length then c 0 else _)=_;rw[if_pos (Nat.zero_le _)];exact hrun.m0,λk p hp=>?_⟩,?_⟩
  .rw[eC];rcases je (l:=g.L) (x:=o) hp with⟨hk,h⟩|⟨hk,rfl⟩
   .grind [OfRun.step]
   grind
  .rw[ell];dsimp only;rw[if_neg aa];exact e
structure GgOk (gg:DGraphGraph):Prop where
 pos:∀x n,gg.at_.get x=some n->∃(k:Nat) (y:DGraphNode),n=(k:Int)/\gg.nodes[k]?=some y/\k<256
 cl:∀y∈gg.nodes,pG y.o=some y.o
 nc:gg.cards.length<=1000
def r5(gg:DGraphGraph)(x:DIdent):Option DGraphNode:=(gg.at_.get x).bind λn=>aS gg.nodes n
def Vc(gg:DGraphGraph)(x y:DIdent):Bool:=match gg.at_.get x,r5 gg y with
 |some n,some b=>gW b.past n.toNat
 |_,_=>false
def q8(gg:DGraphGraph):Gi:=⟨λx=>(r5 gg x).map (·.o),Vc gg,λx=>match r5 gg x with|some y=>y.level|none=>0,gg.cards,λd=>gg.cards.find? λc=>decide (c.Device=d)⟩
theorem Bx(h:GgOk gg)(e:gg.at_.get x=some n):∃(k:Nat) (y:DGraphNode),n=(k:Int)/\aS gg.nodes n=some y/\r5 gg x=some y/\k<256/\y∈gg.nodes:=by
 obtain⟨k,y,rfl,hy,hk⟩:=h.pos x n e;have hz:aS gg.nodes (k:Int)=some y:=by rw[au];exact hy
 refine⟨k,y,rfl,hz,?_,hk,bO hy⟩;unfold r5;rw[e];exact hz
theorem E7(e:gg.at_.get x=none):r5 gg x=none:=by unfold r5;rw[e];rfl
def GJ(q:DIdent->Bool)(l:List DIdent)(j:Nat):Nat:=((l.take j).filter q).length
def wK(q:DIdent->Bool)(l:List DIdent)(j:Nat):List DIdent:=(l.take j).filter q++l.drop (GJ q l j)
theorem aez{q:DIdent->Bool}{l:List DIdent}{j:Nat}:GJ q l j<=j/\GJ q l j<=l.length:=by grind [GJ]
theorem NP{q:DIdent->Bool}{l:List DIdent}{j:Nat}:(wK q l j).length=l.length:=by grind [wK,GJ]
theorem aeA{q:DIdent->Bool}:(wK q l j)[j]?=l[j]? :=by grind [wK,GJ]
theorem aeB{q:DIdent->Bool}(hx:l[j]?=some x)(hq:q x=false):GJ q l (j+1)=GJ q l j/\wK q l (j+1)=wK q l j:=by grind [List.take_add_one,GJ,wK]
theorem agw{q:DIdent->Bool}(hx:l[j]?=some x)(hq:q x=true):GJ q l (j+1)=GJ q l j+1/\ji (wK q l j) ((GJ q l j:Nat):Int) x=some (wK q l (j+1)):=by
 have e:(l.take (j+1)).filter q=(l.take j).filter q++[x]:=by grind [List.take_add_one]
 have e2:GJ q l (j+1)=GJ q l j+1:=by grind [GJ]
 grind [ji,NP,wK,List.set_append_right,GJ,List.drop_eq_getElem_cons]
theorem aeC{q:DIdent->Bool}{l:List DIdent}(h:l.findIdx? (λx=> !q x)=some i):i<l.length/\GJ q l (i+1)=i/\wK q l (i+1)=l:=by
 obtain⟨hi,h1,h2⟩:=List.findIdx?_eq_some_iff_getElem.1 h;have e:(l.take i).filter q=l.take i:=by grind [List.filter_eq_self,List.getElem_of_mem]
 have hx:l[i]?=some l[i]:=fy hi;grind [GJ,aeB,wK,List.take_append_drop]
theorem aeD{q:DIdent->Bool}(h:l.any (λx=> !q x)=false):l.filter q=l:=by grind [List.filter_eq_self]
theorem NQ{q:DIdent->Bool}{l:List DIdent}:(wK q l l.length).take (l.filter q).length=l.filter q/\GJ q l l.length=(l.filter q).length:=by grind [wK,GJ]
theorem ZX{s:List DIdent}{f:DIdent->Option Bool}{p:DIdent->Bool}(hn:s.length<2305843009213693952)(hf:∀x∈s,f x=some (p x)):(yj s f=some (-1)/\s.any p=false)\/∃j:Nat,yj s f=some (j:Int)/\s.findIdx? p=some j:=by
 obtain⟨r,h1,h2⟩:=acp (s:=s) p hn (step:=nO s f) (λk x hx=>by unfold nO;rw[fp hx,aN,cQ hx,aL,hf x (bO hx),aL];cases p x<;>simp) (by unfold nO;rw[gz];rfl)
 unfold yj;rw[h1];rcases h2 with⟨rfl,h2⟩|⟨j,rfl,h2,h3⟩
 .exact .inl ⟨rfl,h2⟩
 .exact .inr ⟨j,rfl,h3⟩
def dfT(del:DIdent->Bool)(s:Nat×Nat×List DIdent):Option ((Nat×Nat×List DIdent)⊕(Nat×List DIdent)):=
 bif decide (s.2.2.length<=1000/\s.2.1<=s.1) then bif decide ((s.1:Int)<ah s.2.2) then(aS s.2.2 (s.1:Int)).bind λx=>bif del x then some (.inl (s.1+1,s.2.1,s.2.2)) else(ji s.2.2 (s.2.1:Int) x).bind λW=>some (.inl (s.1+1,s.2.1+1,W)) else some (.inr s.2) else none
theorem aeE{del:DIdent->Bool}(hl:l.length<=1000)(h:l.findIdx? del=some i):bo (dfT del) (i+1,i,l)=some ((l.filter λx=> !del x).length,wK (λx=> !del x) l l.length):=by
 have h':l.findIdx? (λx=> !(!del x))=some i:=by simpa using h
 obtain⟨hi,k1,k2⟩:=aeC (q:=λx=> !del x) h';refine T.eq (T.loop (λs=>s.1<=l.length/\s.2.1=GJ (λx=> !del x) l s.1/\s.2.2=wK (λx=> !del x) l s.1) (λs=>l.length-s.1) (by grind) (by show l.length-(i+1)<_;omega) ?_);rintro⟨j,k,W⟩ ⟨hj,hk,a⟩;dsimp only at hj hk a;subst hk;subst a;unfold dfT;dsimp only;have hlen:=NP (q:=λx=> !del x) (l:=l) (j:=j);rw[decide_eq_true (by grind [aez]),aN];refine .dec (λhh=>?_) λhh=> .some ?_
 .unfold ah at hh;have hlt:j<l.length:=aa;have hx:l[j]?=some l[j]:=fy hlt;refine .bind (.ix aa (x:=l[j]) (by rw[Int.toNat_natCast,aeA];exact hx) ?_);refine .ite (λhd=>?_) λhd=>?_
  .obtain⟨a1,a2⟩:=aeB (q:=λx=> !del x) hx (by simpa using hd);exact .some (by constructor<;>grind)
  .obtain⟨a1,a2⟩:=agw (q:=λx=> !del x) hx (by simpa using hd);rw[a2];exact .some (by constructor<;>grind)
 .unfold ah at hh;obtain rfl:j=l.length:=aa;rw[NQ.2];exact rfl
abbrev zR(W:List DIdent)(i:Nat):List G:=(W.flatMap aj).take (0+(i:Int).toNat*3)++(bN zI ((W.length-(i:Int).toNat)*3)).map .lit++(W.flatMap aj).drop (0+(i:Int).toNat*3+(W.length-(i:Int).toNat)*3)
theorem acA(W:List DIdent)(i:Nat):∀g∈zR W i,bB g:=by grind [RowTy.imm,ac,mN]
theorem ZZ(h:i<=W.length):(zR W i).take (i*3)=(W.take i).flatMap aj:=by grind [Int.toNat_natCast,List.take_append_drop,RowTy.len,ac]
section
variable {gl:List (Nat×List G)}
end
abbrev tMI:TypeId:=296
abbrev W6(al:DAuthList)(v f:Nat):Option Ob:=some ⟨298,[.ptr (av al.g) 0,aE aj al.row,.mref v,.mref f],none⟩
abbrev Fa(m:FM DIdent Bool):Option Ob:=some (sn tMI ga bG m)
abbrev Z2(b:Nat):Option Ob:=some ⟨216,[.ref b 0],none⟩
abbrev σL(al:DAuthList):aQ:=[(1,Z2 2),(2,W6 al 3 4),(3,Fa al.void),(4,Fa al.fork)]
abbrev ρL:List (Nat×Nat):=[(0,0),(1,1),(2,2),(3,3),(4,4)]
abbrev kdL:List (Nat×Rk):=[(0,.row),(999999,.clo)]
theorem NR(m:FM DIdent Bool):∀e∈JR ga bG m,bB e.2.1:=by grind [mN]
abbrev Vm(al:DAuthList):List HP:=[hc (NR al.void),hc (NR al.fork)]
theorem Jd{b:Nat}(h1:ag st.σ b=W6 al v f)(h2:ag st.σ v=Fa al.void)(h3:ag st.σ f=Fa al.fork):ve P st (.ref b 0) (.ptr (dF al) 0):=by
 refine Mb h1 (Nat.le_refl _) (sU rfl λp hp=>?_);simp only[dF,List.zip_cons_cons,List.zip_nil_right,List.mem_cons,List.not_mem_nil,or_false] at hp;rcases hp with rfl|rfl|rfl|rfl
 .exact jB (Ah _ _)
 .exact jB (FC _ _)
 .exact tB h2 λe _=>jB (mN _)
 .exact tB h3 λe _=>jB (mN _)
theorem Vn{a b:Nat}(h0:ag st.σ a=Z2 b)(h1:ag st.σ b=W6 al v f)(h2:ag st.σ v=Fa al.void)(h3:ag st.σ f=Fa al.fork):ve P st (.ref a 0) (.ptr [.ptr (dF al) 0] 0):=by refine Mb h0 (Nat.le_refl _) (sU rfl λp hp=>?_);grind [List.zip_cons_cons,List.zip_nil_right,Jd]
section
variable {gl:List (Nat×List G)}
theorem acC{al:DAuthList}{r:Bool}{c:Nat}(a:aK prog fi=true)(hF:ba prog gl fi [.agg (aj x),.ptr [.ptr (dF al) 0] 0] (bG r)):oJ prog gl fi [.agg (aj x),.ref 1 0] (σL al) c (bG r) [] c:=
 vT a hF (lR _) rfl λst h i y z h1 h2=>by
  match i with
  |0=>cases h1;cases h2;exact jB (aG 20 (.agg (aj x)) aH)
  |1=>cases h1;cases h2;exact Vn (h 1 _ rfl) (h 2 _ rfl) (h 3 _ rfl) (h 4 _ rfl)
  |j+2=>cases h1
theorem Vo{f:DIdent->Option Bool}(hv:FnV prog gl fi [] [.ptr [.ptr (dF al) 0] 0] (λx:DIdent=>[.agg (aj x)]) (λb:Bool=>bG b) f){l:List DIdent}{r:Int}(e:yj l f=some r):oJ prog gl 258 [.rsl 0 0 l.length,.clo (.func fi) [] [.ref 1 0]] ((0,dm l)::σL al) 5 (iG r) [] 5:=
 vT aH (gS gl hv e) (lR _) rfl λst h i x y h1 h2=>by
  match i with
  |0=>
   cases h1;cases h2;exact FD (s:=3) (h 0 _ rfl) aH (by show 0+l.length*3<=(l.flatMap aj).length;rw[ac.len];omega) (ac.len l) λj g c a b=>by rw[Nat.zero_add] at a;rw[show(l.flatMap aj)[j]?=some g from a] at b;cases b;exact jB (ac.imm l g (bO a))
  |1=>
   cases h1;cases h2;exact SX rfl rfl (λi g c a b=>by cases a) (λi g c a b=>by
    match i with
    |0=>cases a;cases b;exact Vn (h 1 _ rfl) (h 2 _ rfl) (h 3 _ rfl) (h 4 _ rfl)
    |j+1=>cases a)
  |j+2=>cases h1
theorem agy{al:DAuthList}{i:Nat}(h:i<W.length):rF prog ((0,dm W)::σL al) 26 (.rsl 0 (0+(i:Int).toNat*3) (W.length-(i:Int).toNat))=some (0,⟨36,zR W i,none⟩):=by have e1:dp prog 26=some 36:=aH;have e2:jj prog 36=some zI:=aH;have e3:bw prog 36=some 3:=aH;have e4:ag ((0,dm W)::σL al) 0=some ⟨36,W.flatMap aj,none⟩:=rfl;have e5:(i:Int).toNat=i:=Int.toNat_natCast i;unfold rF;rw[e1];simp only[e2,e3,e4];rw[if_pos ⟨rfl,aa,dL,by rw[ac.len];omega,rfl⟩]
theorem NS{del:DIdent->Bool}(a:aK prog fi=true)(hF:∀x,ba prog gl fi [.agg (aj x),.ptr [.ptr (dF al) 0] 0] (bG (del x)))(hl:l.length<=1000):CO prog gl 220 [.rsl 0 0 l.length,.clo (.func fi) [] [.ref 1 0]] ((0,dm l)::σL al) 5 5 (.rsl 0 0 (l.filter λx=> !del x).length) ((0,dm (l.filter λx=> !del x))::σL al):=by
 have hv:FnV prog gl fi [] [.ptr [.ptr (dF al) 0] 0] (λx:DIdent=>[.agg (aj x)]) (λb:Bool=>bG b) (λx=>some (del x)):=⟨a,bf,eB aH,λx r e=>by cases e;exact hF x⟩;refine JJ func220 ?_;rcases ZX (s:=l) (p:=del) aa (λx _=>rfl) with⟨e,h0⟩|⟨i,e,h0⟩
 .have hi:=Vo hv e;rw[aeD (by simpa using h0)];exact ZT [hz 10 [0,1,2,3,4] hi] (hc (el l)::hc (ac.imm l)::Vm al) ρL kdL
 .have hi:=Vo hv e;have hlt:=(List.findIdx?_eq_some_iff_getElem.1 h0).1;have hkn:(l.filter λx=> !del x).length<l.length:=by have:=aeC (q:=λx=> !del x) (by simpa using h0);have h2:=NQ (q:=λx=> !del x) (l:=l);refine Nat.lt_of_le_of_ne (List.length_filter_le _ _) λhe=>?_;have h3:=List.length_filter_eq_length_iff.1 he _ (List.getElem_mem hlt);have h4:=(List.findIdx?_eq_some_iff_getElem.1 h0).2.1;simp[h4] at h3
  refine pN (λs:Nat×Nat×List DIdent=>(s0 42 gl [(0,.rsl 0 0 s.2.2.length),(1,.clo (.func fi) [] [.ref 1 0]),(5,iG (s.2.1:Int)),(6,iG (s.1:Int))] ((0,dm s.2.2)::σL al) 5 5)) 11110122 (aeE hl h0) [hz 10 [0,1,2,3,4] hi,hr 12 (show decide ((i:Int)= -1)=false from decide_eq_false aa),hbb 15 (Xl (q:=i) aa)] (hc (el l)::hc (ac.imm l)::Vm al) (λB s w hs k5 h=>?_) [] ρL kdL;obtain⟨j,k,W⟩:=s;unfold dfT at hs;dsimp only at hs;cases b0:decide (W.length<=1000/\k<=j) with
  |false=>rw[b0] at hs;cases hs
  |true=>
  rw[b0,aN] at hs;obtain⟨g1,g2⟩:=of_decide_eq_true b0;rcases bC hs with⟨b1,hs⟩|⟨b1,hs⟩
  .have hjl:=of_decide_eq_true b1;unfold ah at hjl;obtain⟨x,d,hs⟩:=bS hs;have hcl:=acC (al:=al) (c:=6) a (hF x);have hjb:j<1000000:=aa;cases hd:del x with
   |true=>rw[hd] at hs hcl;obtain rfl:=cP hs;exact jw [hr 19 b1,bR 24 (ac.ixrZ 0 d),bR 25 (ac.pt0Z aW d),hz 28 [1,2,3,4] hcl,hbb 21 (Xl (q:=j) aa)] (hc (el W)::hc (ac.imm W)::Vm al) (k5 _ rfl) [] ρL kdL
   |false=>rw[hd] at hs hcl;obtain⟨f,e2,hs⟩:=bS hs;obtain rfl:=cP hs;have hkb:k<1000000:=aa;exact jw [hr 19 b1,bR 24 (ac.ixrZ 0 d),bR 25 (ac.pt0Z aW d),hz 28 [1,2,3,4] hcl,bR 33 (ac.ixsZ 0 e2),hw 33 (f.flatMap aj) (ac.putZ e2),hbb 35 (Xl (q:=k) aa),hbb 21 (Xl (q:=j) aa)] (hc (hZ e2)::hc (ac.imm f)::Vm al) (k5 _ rfl) [] ρL kdL
  .obtain rfl:=cP hs;have ek:=h _ rfl;simp only[Prod.mk.injEq] at ek;obtain⟨ek,g⟩:=ek;have hkW:k<W.length:=by rw[g,NP,ek];exact hkn
   have e:(zR W k).take (k*3)=(l.filter λx=> !del x).flatMap aj:=by rw[ZZ (Nat.le_of_lt hkW),g,ek,NQ.1]
   rw[<-ek];generalize (l.filter λx=> !del x)=F at e⊢;refine pO 1111110 (J:=(s0 42 gl [(0,.rsl 0 0 W.length),(5,iG (k:Int))] ((ob 0 36 (zR W k))::σL al) 5 5)) [hr 19 b1,bR 38 (ac.sufZ 0 (l:=W) (i:=(k:Int)) (y:=W.drop k) (by unfold mc;rw[if_pos ⟨aa,by rw[Int.toNat_natCast];omega⟩,Int.toNat_natCast])),Go.Proofs.YtaiecngnppbhlaaGreatDoor.hcl 5 (agy (al:=al) hkW)] (hc (el W)::hc (acA W k)::Vm al) ?_ [] ρL kdL;refine dSh 0 (k*3) ?_;show Gp _ _ _ _ _ _ (s0 42 gl [(0,.rsl 0 0 W.length),(5,iG (k:Int))] ((ob 0 36 ((zR W k).take (k*3)))::(ob 0 36 (zR W k))::σL al) 5 5);rw[e];exact ZT [bR 41 (ac.preZ 0 (l:=W) (i:=(k:Int)) (y:=W.take k) (by unfold tq;rw[if_pos ⟨aa,by rw[Int.toNat_natCast];omega⟩,Int.toNat_natCast]))] (hc (rfl:k=k)::hc (ac.imm F)::Vm al) ρL kdL
end
def lK(k:Int):Bool:=bif decide (k=3) then true else bif decide (k=13) then true else decide (k=12)
def tf(I:Gi)(R:DRollRoll)(x:DIdent):DRollRoll:=Dd R (I.o x) x
def Hk(I:Gi)(cs:List DIdent):DRollRoll:=cs.foldl (tf I) (jR I.cards)
theorem Fe{I:Gi}:∀{l:List DIdent} {R:DRollRoll},RlOk R->(∀x∈l,OpD (I.o x) x)->RlOk (l.foldl (tf I) R)
 |[],R,h,_=>h
 |x::r,R,h,hx=>Fe (l:=r) (yK h (hx x aC)) (by grind)
section
variable {gl:List (Nat×List G)} {gg:DGraphGraph} {I:Gi}
theorem RU(k:Int):ba prog gl 234 [iG k] (bG (lK k)):=FI gl (by unfold DW lK;cases decide (k=3)<;>cases decide (k=13)<;>rfl)
theorem aaa{al:DAuthList}(h:GiOk gl al.g I)(x:DIdent):ba prog gl 233 [.agg (aj x),.ptr [.ptr (dF al) 0] 0] (bG (!lK (I.o x).Kind)):=by have h1:=h.op x;have h2:=RU (gl:=gl) (I.o x).Kind;refine Gh func233 ?_;exact Ar [hf 12 h1,hf 17 h2] []
theorem Je{al:DAuthList}(x:DIdent):ba prog gl 235 [.agg (aj x),.ptr [.ptr (dF al) 0] 0] (bG (bU (al.void.get x))):=vM gl rfl
abbrev ρr0:List (Nat×Nat):=[(0,0),(1,1),(2,2),(3,3),(4,4),(5,5),(6,6),(7,7),(8,8),(9,9),(10,10),(11,11),(12,12),(13,13)]
abbrev ρr2:List (Nat×Nat):=[(0,0),(1,1),(2,2),(3,3),(4,4),(5,16),(6,17),(7,18),(8,19),(9,20),(10,21),(11,22),(12,23),(13,24)]
theorem aab(h:GiOk gl gg I)(hc:CdOk I.cards){cs:List DIdent}(c:ba prog gl 72 [.ptr (av gg) 0,aE aj ids] (aE aj cs))(hl:∀x∈cs,OpD (I.o x) x)(hn:cs.length<=1000):CO prog gl 26 [.ptr (av gg) 0,aE aj ids] [] 0 0 (.ref 0 0) (dT f0 (Hk I cs)):=by
 have hQ:∀k,RlOk ((cs.take k).foldl (tf I) (jR I.cards)):=λk=>Fe (pn hc.r) λx hx=>hl x (List.mem_of_mem_take hx);refine JJ func26 ?_;refine pN (λk:Nat=>(s0 33 gl [(0,.ptr (av gg) 0),(5,.ref 0 0),(15,aE aj cs),(16,iG (ah cs)),(17,iG (k:Int))] (dT f0 ((cs.take k).foldl (tf I) (jR I.cards))) 14 0)) 1110122 (iw (n:=cs.length) aa) [hf 11 h.cards,hrn 12 0 [aE bv I.cards] (pn hc.r) (UH gl hc),hf 15 c] (JP ρr0 (xG 0) (hQ 0)) (λB k v hs k5 d=>?_) [] ρr0 tp;unfold qZ at hs;split at hs
 .rename_i hlt;obtain rfl:=cP hs;obtain⟨x,hx⟩:∃x,cs[k]?=some x:=⟨_,fy hlt⟩;have hz:=cQ hx;have k5:=k5 _ rfl;have hq:=hQ k;have a:=hl x (bO hx);rw[List.take_add_one,hx,Option.toList_some,List.foldl_append,List.foldl_cons,List.foldl_nil] at k5;generalize (cs.take k).foldl (tf I) (jR I.cards)=Q at hq k5⊢;unfold tf at k5;have b:=yK hq a;exact jw [hr 18 (fp hx),bR 19 (ac.ixZ hz),bR 20 (ac.ptZ aW hz),hf 24 (h.op x),It 30 f0 16 [.agg (aJ (I.o x)),.agg (aj x)] hq b (UG gl hq a),hbb 31 (Xl (q:=k) aa)] (JP ρr2 (fW f0 16) b) k5 [] ρr2 tp
 .split at hs
  .rename_i he;subst he;rw[List.take_length];exact ZT [hr 18 (gz (s:=cs))] (JP ρr0 f0 (Fe (pn hc.r) hl)) ρr0 tp
  .cases hs
end
section
variable {g:D12G} {m:FM DIdent Int} {N:List DGraphNode}
theorem LK(w:WfG g)(p:PgOk g m N)(h:bu x g.IDs=some k):∃y,N[k]?=some y/\k<256/\y.id=x:=by have h1:=(gb h).1;have hlt:=(cr h1).1;have n1:=w.nL;have n2:=w.nI;have a:=p.len;have hy:N[k]?=some (N[k]'aa):=fy _;have:=(p.nd k _ hy).2.1;rw[h1] at this;exact⟨_,hy,aa,(cP this).symm⟩
theorem Bz(w:WfG g)(p:PgOk g m N)(x:DIdent):r5 ⟨g.Cards,m,N⟩ x=(bu x g.IDs).bind λk=>N[k]? :=by
 unfold r5;show(m.get x).bind _=_;rw[p.get];cases bu x g.IDs with
 |none=>rfl
 |some k=>exact au
theorem abu(w:WfG g)(p:PgOk g m N)(x:DIdent):(q8 ⟨g.Cards,m,N⟩).op x=(bu x g.IDs).bind λk=>g.L[k]? :=by
 show(r5 _ x).map (·.o)=_;rw[Bz w p];cases hk:bu x g.IDs with
 |none=>rfl
 |some k=>obtain⟨y,h1,_,_⟩:=LK w p hk;show(N[k]?).map _=g.L[k]?;rw[h1,(p.nd k y h1).1];rfl
theorem acD(w:WfG g)(p:PgOk g m N)(x y:DIdent):(q8 ⟨g.Cards,m,N⟩).bef x y=match bu x g.IDs,bu y g.IDs with|some i,some j=>yH g j i|_,_=>false:=by
 show Vc _ x y=_;unfold Vc;show(match m.get x,r5 ⟨g.Cards,m,N⟩ y with|some n,some b=>gW b.past n.toNat|_,_=>false)=_;rw[Bz w p,p.get];cases hx:bu x g.IDs with
 |none=>rfl
 |some i=>
  cases hy:bu y g.IDs with
  |none=>rfl
  |some j=>obtain⟨b,h1,_,_⟩:=LK w p hy;obtain⟨_,_,h2,_⟩:=LK w p hx;show(match some (i:Int),N[j]? with|some n,some b=>gW b.past n.toNat|_,_=>false)=_;rw[h1];exact(p.nd j b h1).2.2.1 i h2
end
def GD(s:List DHoldName×Int):Option ((List DHoldName×Int)⊕(List DHoldName)):=
 bif decide (0<s.2) then(aS s.1 s.2).bind λa=>(aS s.1 (wI (s.2-1))).bind λb=>(wz a b).bind λr=>bif decide (r<0) then(ji s.1 s.2 b).bind λc=>(ji c (wI (s.2-1)) a).bind λd=>some (.inl (d,wI (s.2-1))) else some (.inr s.1) else some (.inr s.1)
def Ln(n:Int)(s:List DHoldName×Int):Option ((List DHoldName×Int)⊕(List DHoldName)):=
 bif decide (s.2<n) then(bo GD (s.1,s.2)).bind λl=>some (.inl (l,wI (s.2+1))) else some (.inr s.1)
def So(l:List DHoldName):Option (List DHoldName):=bo (Ln (ah l)) (l,wI (0+1))
structure FmOk {K V:Type} (m:FM K V):Prop where
 nd:(m.es.map (·.2.2)).Nodup
 lt:∀e∈m.es,e.2.2<m.clk
structure HoldOk (m:FM DHoldName Nat) (srt:List DHoldName):Prop where
 ok:FmOk m
 n:m.es.length<=12
 sr:∀ks:List DHoldName,ks.Perm (m.es.map (·.1))->So ks=some srt
 len:srt.length=m.es.length
theorem Lt{l:List Int}{k:Nat}{v:Int}(hl:l.length<=3)(hv:v≠0)(hk:l[k]?=some v)(h:∀j,j<k->l[j]?=some 0):iy l=some v:=by
 unfold iy;refine T.eq (.bind ((T.search l (λy=>decide (y≠0)) (λ_ y=>y) aa (λk x hx hk=>?_) ?_).mono ?_))
 .grind [fm,eA,au,aq]
 .unfold fm;rw[eF,cG]
 .rintro r (⟨rfl,h0⟩|⟨k',x,hx,hp,rfl,h0⟩)
  .have:=h0 v (bO hk);simp[hv] at this
  .refine .some ?_;grind
theorem Uj:iy [0,0,0]=some 0:=by
 unfold iy;refine T.eq (.bind ((T.search [0,0,0] (λy=>decide (y≠0)) (λ_ y=>y) dL (λk x hx hk=>?_) ?_).mono ?_))
 .grind [fm,eA,au,aq]
 .unfold fm;rw[eF,cG]
 .rintro r (⟨rfl,h0⟩|⟨k',x,hx,hp,rfl,h0⟩)
  .exact .some rfl
  grind
theorem EW(a b:DIdent):pE a b=some (dt a b):=by
 by_cases hl:dt a b=true
 .rw[hl];exact MW hl
 have hl:dt a b=false:=by simpa using hl
 rw[hl];unfold pE;rw[Ax,Ax,MV];simp only[aL];unfold dt at hl;by_cases h1:a.By=b.By
 .rw[if_neg (by simp[h1])] at hl;by_cases h2:a.Seq=b.Seq
  .rw[if_neg (by simp[h2])] at hl;have h3:=of_decide_eq_false hl;by_cases h4:b.Sum<a.Sum
   .rw[Lt (k:=2) (v:=1) aC dL (by simp[h3,h4]) (by grind)];rfl
   grind [Uj]
  .rw[if_pos h2] at hl;have h3:=of_decide_eq_false hl;rw[Lt (k:=1) (v:=1) aC dL (by simp[h3];omega) (by grind)];rfl
 .rw[if_pos h1] at hl;have h3:=of_decide_eq_false hl;rw[Lt (k:=0) (v:=1) aC dL (by simp[h3];omega) (by grind)];rfl
theorem EX(h1:dt a b=false)(h2:dt b a=false):a=b:=by obtain⟨x,y,z⟩:=a;obtain⟨c,d,e⟩:=b;grind [dt]
def LL(x y:Int):Int:=bif decide (x<y) then-1 else bif decide (y<x) then 1 else 0
def jE(a b:DIdent):Int:=bif dt a b then-1 else bif dt b a then 1 else 0
def wc(I:Gi)(a b:DIdent):Int:=bif decide (LL (I.lev a) (I.lev b)≠0) then LL (I.lev a) (I.lev b) else jE a b
theorem PC(x y:Int):f8 x y=some (LL x y):=by unfold f8 LL g7;have h1:decide (x≠x)=false:=decide_eq_false aC;have h2:decide (y≠y)=false:=decide_eq_false aC;simp only[h1,h2,aL,cG];cases decide (x<y)<;>cases decide (y<x)<;>rfl
theorem aac(u v:Int):iy [u,v]=some (bif decide (u≠0) then u else v):=by
 unfold iy;refine T.eq (.bind (T.forI 2 (λk=>0<k->u=0/\(1<k->v=0)) aa (λh=>absurd h (Nat.lt_irrefl _)) (λk hk a=>?_) λa=>?_))
 .unfold fm;rcases(by omega:k=0\/k=1) with rfl|rfl
  .show T ((bif decide (u≠0) then _ else _)) _;refine .ite (λh=> .some (.some ?_)) λh=> .some ⟨rfl,λ_=>⟨by simpa using h,λh=>absurd h (Nat.lt_irrefl _)⟩⟩;rw[h];rfl
  .obtain⟨hu,_⟩:=a aa;show T ((bif decide (v≠0) then _ else _)) _;refine .ite (λh=> .some (.some ?_)) λh=> .some ⟨rfl,λ_=>⟨hu,λ_=>by simpa using h⟩⟩;subst hu;rfl
 .obtain⟨hu,hv⟩:=a aa;have hv:=hv aa;subst hu;subst hv;exact .some (.some rfl)
theorem acE(h:GgOk gg)(x:DIdent):gG gg x=some ((q8 gg).lev x):=by
 unfold gG FR;cases e:gg.at_.get x with
 |none=>show _=some (match r5 gg x with|some y=>y.level|none=>0);rw[E7 e];rfl
 |some n=>obtain⟨k,y,rfl,hz,hn,hk,hm⟩:=Bx h e;show _=some (match r5 gg x with|some y=>y.level|none=>0);rw[hn];simp only[Option.isSome_some,aN,Option.getD_some,hz,aL]
theorem aad(h:GgOk gg)(a b:DIdent):oW ⟨gg⟩ a b=some (wc (q8 gg) a b):=by unfold oW;rw[EW,EW];unfold wc jE;cases h1:dt a b<;>cases h2:dt b a<;>(simp only[aN,cG,aL,acE h,PC,aac])
theorem aae{gl:List (Nat×List G)}(h:GgOk gg)(a b:DIdent):ba prog gl 247 [.agg (sB ⟨gg⟩),.agg (aj a),.agg (aj b)] (iG (wc (q8 gg) a b)):=yL gl (aad h a b)
theorem aah{gl:List (Nat×List G)}{s:List DIdent}(hn:s.length<=1000)(v:DIdent):ba prog gl 65 [aE aj s,.agg (aj v)] (bG (s.any λy=>decide (v=y))):=mj gl (Hh aa v)
abbrev dR(l:List DIdent)(i:Nat):List G:=(l.flatMap aj).take (i*3)++(l.drop (i+1)).flatMap aj++(l.flatMap aj).drop (i*3+(l.length-(i+1))*3)
abbrev zD(L:List G)(n:Nat):List G:=L.take (n*3)++(bN zI (1*3)).map .lit++L.drop (n*3+1*3)
theorem N3(h:i<l.length):(dR l i).length=l.length*3:=by grind [RowTy.len,ac]
theorem acF(l:List DIdent)(i:Nat):∀g∈dR l i,bB g:=by grind [RowTy.imm,ac]
theorem acG(h:∀g∈L,bB g)(n:Nat):∀g∈zD L n,bB g:=by grind [mN]
theorem aaj{l:List DIdent}{i:Nat}(h:i<l.length):(zD (dR l i) (l.length-1)).take ((l.length-1)*3)=(l.eraseIdx i).flatMap aj:=by
 have hl:=N3 h;have e1:(zD (dR l i) (l.length-1)).take ((l.length-1)*3)=(dR l i).take ((l.length-1)*3):=by grind
 have e2:(l.flatMap aj).take (i*3)=(l.take i).flatMap aj:=by grind [List.take_append_drop,RowTy.len,ac,List.length_take]
 grind [RowTy.len,ac]
theorem cI:dp prog 26=some 36/\bw prog 36=some 3/\jj prog 36=some zI:=⟨aH,aH,aH⟩
def hai(d:Nat){P:Program}{σ:aQ}{t:TypeId}{gx gy:G}{i n:Nat}{ob:Ob}(h:yD P σ t gx gy=some (i,ob,n)):HP:=⟨some (.i d i ob n),yD P (CY σ (fR gx++fR gy)) t gx gy=some (i,ob,n),(OR jT).symm.trans h⟩
theorem acH{l:List DIdent}{i:Nat}(h:i<l.length):yD prog [(0,dm l)] 26 (.rsr 0 i) (.rsl 0 (0+((i+1:Nat):Int).toNat*3) (l.length-((i+1:Nat):Int).toNat))=some (0,⟨36,dR l i,none⟩,l.length-1):=by
 have e4:ag [(0,dm l)] 0=some ⟨36,l.flatMap aj,none⟩:=rfl;have hlen:=ac.len l;have e5:fO [(0,dm l)] 3 (.rsl 0 ((i+1)*3) (l.length-(i+1)))=some ((l.drop (i+1)).flatMap aj,l.length-(i+1)):=by
  unfold fO;simp only[e4,aL];rw[if_pos (by rw[hlen];omega)];congr 2;have:(l.flatMap aj).drop ((i+1)*3)=(l.drop (i+1)).flatMap aj:=by
   conv=>lhs;rw[<-List.take_append_drop (i+1) l,List.flatMap_append]
   grind [List.drop_left',RowTy.len,ac]
  grind [RowTy.len,ac]
 rw[Int.toNat_natCast,Nat.zero_add];grind [yD,cI]
theorem acI{l:List DIdent}{i:Nat}(h:i<l.length):sJ prog 26 (.rsl 0 0 l.length) (iG (i:Int)) (iG ((i+1:Nat):Int)) (iG (ah l))=some .junk:=by unfold sJ ah;grind [xL,cI]
theorem acJ{l:List DIdent}{i:Nat}(h:i<l.length):mv prog [] 26 (.rsl 0 0 l.length) none (some (i:Int))=some (.rsr 0 i):=by unfold mv;grind [cI]
theorem acK{l:List DIdent}{i:Nat}(h:i<l.length):mv prog [ob 0 36 (dR l i)] 26 (.rsr 0 (l.length-1)) (some ((l.length-1:Nat):Int)) (some (ah l))=some (.rsl 0 ((l.length-1)*3) 1):=by have e4:ag [ob 0 36 (dR l i)] 0=some (⟨36,dR l i,none⟩:Ob):=rfl;unfold mv ah;simp only[cI.1,cI.2.1,e4];rw[if_pos (by grind [N3]),Int.toNat_natCast,Int.toNat_natCast,show l.length-(l.length-1)=1 by omega]
theorem acL{l:List DIdent}{i:Nat}(h:i<l.length):rF prog [ob 0 36 (dR l i),(1,some BC),(0,dm l)] 26 (.rsl 0 ((l.length-1)*3) 1)=some (0,⟨36,zD (dR l i) (l.length-1),none⟩):=by have e4:ag [ob 0 36 (dR l i),(1,some BC),(0,dm l)] 0=some (⟨36,dR l i,none⟩:Ob):=rfl;unfold rF;simp only[cI.1,cI.2.1,cI.2.2,e4];rw[if_pos ⟨rfl,aa,dL,by rw[N3 h];omega,rfl⟩]
theorem Hl{l:List DIdent}{i:Nat}(hl:l.length<=1000)(h:i<l.length):jg prog gl 237 [.rsl 0 0 l.length,iG (i:Int),iG ((i+1:Nat):Int)] [(0,dm l)] 1 (.rsl 0 0 (l.length-1)) [(0,dm (l.eraseIdx i))] 1:=by have hz:=aaj h;have hi:=acG (acF l i) (l.length-1);refine pP func237 ?_;refine pO 11111110 (J:=(s0 33 gl [(0,.rsl 0 0 (l.length-1))] [ob 0 36 (zD (dR l i) (l.length-1))] 1 1)) [hcv 13 (g:= .junk) (acI h),hr 16 (show decide ((i:Int)=((i+1:Nat):Int))=false from decide_eq_false aa),hcv 22 (g:= .rsr 0 i) (acJ h),bR 25 (ac.sufZ 0 (l:=l) (i:=((i+1:Nat):Int)) (y:=l.drop (i+1)) (by unfold mc;rw[if_pos ⟨aa,by rw[Int.toNat_natCast];omega⟩,Int.toNat_natCast])),hai 26 (acH h),hcv 31 (g:= .rsl 0 ((l.length-1)*3) 1) (acK h),hcl 2 (acL h)] [hc (rfl:l.length-1=l.length-1),hc hi] ?_ [] [(0,0)] [(0,.row)];refine dSh 0 ((l.length-1)*3) ?_;show Gp _ _ _ _ _ _ (s0 33 gl [(0,.rsl 0 0 (l.length-1))] ((ob 0 36 ((zD (dR l i) (l.length-1)).take ((l.length-1)*3)))::[ob 0 36 (zD (dR l i) (l.length-1))]) 1 1);rw[hz];exact mt .ret (s0 33 gl [(6,.rsl 0 0 (l.length-1))] [(0,dm (l.eraseIdx i))] 1 1) [.rsl 0 0 (l.length-1)] [] [hc (rfl:l.length-1=l.length-1),hc (ac.imm (l.eraseIdx i))]
theorem PD{gl:List (Nat×List G)}{fid:FuncId}{gs gs':List G}{σR:aQ}{t:TypeId}{m:Nat}{l:List G}{c:Nat}(hc:aK P fid=true)(hF:iV P gl fid gs' t m l)(hr:∀g∈l,∃v,g= .lit v)(hl:gs'.length=gs.length)(hz:∀st:St,(∀i o,ag σR i=some o->ag st.σ i=some o)->∀(i:Nat) (x y:G),gs[i]?=some x->gs'[i]?=some y->ve P st x y):oJ P gl fid gs σR c (.rsl c 0 m) [(c,some ⟨t,l,none⟩)] (c+1):=λo st y xs ats fst cap ho hd hx hgs hgl b a=>by grind [H4,DZ]
abbrev tSe:TypeId:=119
abbrev oSe(m:FM Int Int):Option Ob:=some (sn tSe mJ iG m)
theorem abv{σ:aQ}(m:FM Int Int)(h:ag σ 4=oSe m)(k v:Int):dZ prog σ tSe (.mref 4) (iG k) (iG v)=some (4,sn tSe mJ iG (ee m k v)):=Uz (P:=prog) (et:=3) vO Pl aH (k:=k) (gk:=iG k) rfl (m:=m) h v
theorem abw(k:DIdent):Instr.sameBits 10000 (ga k) (ga k)=true:=by(unfold ga Pe;simp[Instr.sameBits])
theorem acM{σ:aQ}{i:Nat}(m:FM DIdent Bool)(h:ag σ i=Fa m)(k:DIdent):dZ prog σ tMI (.mref i) (.agg (aj k)) (bG true)=some (i,sn tMI ga bG (ee m k true)):=Uz (P:=prog) (et:=4) jt abw aH (k:=k) (gk:= .agg (aj k)) rfl (m:=m) h true
def Bi(cs:List DCard):FM Int Int:=cs.foldl (λm c=>ee m c.Device 12) ⟨[],0⟩
def Dk(m:FM Int Int)(s:List Int):Nat->FM Int Int
 |0=>m
 |k+1=>match s[k]? with
  |some d=>ee (Dk m s k) d (k:Int)
  |none=>Dk m s k
def uz(cs:List DCard)(s:List Int):FM Int Int:=Dk (Bi cs) s s.length
abbrev wV(al:DAuthList)(v:FM DIdent Bool):DAuthList:={al with void:=v}
def vFu(I:Gi)(row a:List DIdent)(x:DIdent)(v:FM DIdent Bool)(y:DIdent):FM DIdent Bool:=bif mf I x y then ee v y true else bif a.any (λz=>decide (y=z))&&fT I row x y then ee v y true else v
def vAl(I:Gi)(row a:List DIdent)(x:DIdent)(v:FM DIdent Bool):FM DIdent Bool:=row.foldl (vFu I row a x) v
def Vp(I:Gi)(al:DAuthList)(sen:FM Int Int)(s:List DIdent×FM DIdent Bool):Option ((List DIdent×FM DIdent Bool)⊕FM DIdent Bool):=
 bif decide (s.1.length<=1000) then
 (λl1:List DIdent=>bif decide (ah l1=0) then some (.inr s.2) else(bo (U2 I al.row l1 sen) (0,-1)).bind λi=>(aS l1 i).bind λx=>
   bif(mR I (wV al s.2)).any (λz=>decide (x=z)) then some (.inl (l1.eraseIdx i.toNat,vAl I al.row (l1.eraseIdx i.toNat) x s.2)) else some (.inl (l1.eraseIdx i.toNat,ee s.2 x true)))
 (s.1.filter λx=> !bU (s.2.get x))
 else none
def Vq(I:Gi)(al:DAuthList)(sen:FM Int Int):Option (FM DIdent Bool):=bo (Vp I al sen) (al.row.filter (λx=> !!lK (I.o x).Kind),al.void)
abbrev σ3(al:DAuthList):aQ:=[(0,W6 al 1 2),(1,Fa al.void),(2,Fa al.fork)]
abbrev σ5(al:DAuthList)(sen:FM Int Int):aQ:=σ3 al++[(3,Z2 0),(4,oSe sen)]
abbrev σ6(al:DAuthList)(sen:FM Int Int)(l:List DIdent):aQ:=σ5 al sen++[(5,dm l)]
theorem acN(m:FM Int Int):∀e∈JR mJ iG m,bB e.2.1:=by grind [mN]
theorem Vr{κ:Nat->Option Nat}{b b':Nat}(h:κ b=some b'):∀ob,Z2 b'=some ob->∃o,Z2 b=some o/\MB κ o ob:=λob e=>by cases e;refine⟨_,rfl,rfl,.inl ?_⟩;grind [qg]
theorem Jk{κ:Nat->Option Nat}{al:DAuthList}{v v' f f':Nat}(h:κ v=some v')(h2:κ f=some f'):∀ob,W6 al v' f'=some ob->∃o,W6 al v f=some o/\MB κ o ob:=λob e=>by cases e;refine⟨_,rfl,rfl,.inl ?_⟩;grind [qg]
theorem wd{κ:Nat->Option Nat}{m:FM DIdent Bool}:∀ob,Fa m=some ob->∃o,Fa m=some o/\MB κ o ob:=λob e=>by cases e;exact⟨_,rfl,rfl,rfl,rfl,rfl,.inr ⟨rfl,NR m⟩⟩
theorem PE{κ:Nat->Option Nat}:∀ob,dm l=some ob->∃o,dm l=some o/\MB κ o ob:=λob e=>by cases e;exact⟨_,rfl,rfl,.inr ⟨rfl,ac.imm l⟩⟩
theorem aeF(al:DAuthList)(l:List DIdent):InP (vi [5,3,0,1,2]) [5,3,0,1,2] [(5,dm l),(3,Z2 0),(0,W6 al 1 2),(1,Fa al.void),(2,Fa al.fork)] ((0,dm l)::σL al):=λk o0 h=>by
 match k with
 |0=>obtain⟨o,h1,h2⟩:=PE (κ:=vi [5,3,0,1,2]) o0 h;exact⟨5,o,rfl,h1,h2⟩
 |1=>obtain⟨o,h1,h2⟩:=Vr (κ:=vi [5,3,0,1,2]) (b:=0) (b':=2) rfl o0 h;exact⟨3,o,rfl,h1,h2⟩
 |2=>obtain⟨o,h1,h2⟩:=Jk (κ:=vi [5,3,0,1,2]) (al:=al) (v:=1) (v':=3) (f:=2) (f':=4) rfl rfl o0 h;exact⟨0,o,rfl,h1,h2⟩
 |3=>obtain⟨o,h1,h2⟩:=wd (κ:=vi [5,3,0,1,2]) (m:=al.void) o0 h;exact⟨1,o,rfl,h1,h2⟩
 |4=>obtain⟨o,h1,h2⟩:=wd (κ:=vi [5,3,0,1,2]) (m:=al.fork) o0 h;exact⟨2,o,rfl,h1,h2⟩
 |j+5=>cases h
theorem acO(al:DAuthList)(l d:List DIdent)(c:Nat):KS (kO ((0,dm l)::σL al) [5,3,0,1,2] 5 0 c) ((0,dm d)::σL al) [(5,dm d),(3,Z2 0),(0,W6 al 1 2),(1,Fa al.void),(2,Fa al.fork)]:=λi o h0=>by
 generalize hκ:kO ((0,dm l)::σL al) [5,3,0,1,2] 5 0 c=κ;have h0':κ 0=some 5:=by rw[<-hκ];rfl
 have h1':κ 1=some 3:=by rw[<-hκ];rfl
 have h2':κ 2=some 0:=by rw[<-hκ];rfl
 have h3':κ 3=some 1:=by rw[<-hκ];rfl
 have h4':κ 4=some 2:=by rw[<-hκ];rfl
 match i with
 |5=>obtain⟨a,h1,h2⟩:=PE (κ:=κ) o h0;exact⟨0,a,h0',h1,h2⟩
 |3=>obtain⟨a,h1,h2⟩:=Vr (κ:=κ) (b:=2) (b':=0) h2' o h0;exact⟨1,a,h1',h1,h2⟩
 |0=>obtain⟨a,h1,h2⟩:=Jk (κ:=κ) (al:=al) (v:=3) (v':=1) (f:=4) (f':=2) h3' h4' o h0;exact⟨2,a,h2',h1,h2⟩
 |1=>obtain⟨a,h1,h2⟩:=wd (κ:=κ) (m:=al.void) o h0;exact⟨3,a,h3',h1,h2⟩
 |2=>obtain⟨a,h1,h2⟩:=wd (κ:=κ) (m:=al.fork) o h0;exact⟨4,a,h4',h1,h2⟩
 |4=>cases h0
 |j+6=>cases h0
theorem aeG:aK prog 220=true:=aH
abbrev hdl(d c:Nat){fi:FuncId}{al:DAuthList}{del:DIdent->Bool}{gl:List (Nat×List G)}(a:aK prog fi=true)(hF:∀x,ba prog gl fi [.agg (aj x),.ptr [.ptr (dF al) 0] 0] (bG (del x))){l l':List DIdent}(hl:l.length<=1000)(e:(l.filter λx=> !del x)=l')(hlt:[5,3,0,1,2].all (λi=>Nat.blt i c)=true:=by kernel_rfl):HP:=
 hfm d [5,3,0,1,2] 5 0 c [(5,dm l),(3,Z2 0),(0,W6 al 1 2),(1,Fa al.void),(2,Fa al.fork)] [.rsl 5 0 l.length,.clo (.func fi) [] [.ref 3 0]] [(5,dm l'),(3,Z2 0),(0,W6 al 1 2),(1,Fa al.void),(2,Fa al.fork)] (e▸NS a hF hl) (aeF al l) (acO al l l' c) aeG hlt
section
variable {gl:List (Nat×List G)} {P:Program}
theorem Jn(h:ag st.σ i=dm l):ve prog st (.rsl i 0 l.length) (aE aj l):=FD (s:=3) h aH (by grind [RowTy.len,ac]) (ac.len l) (by grind [jB,RowTy.imm,ac])
theorem LO{al:DAuthList}{l:List DIdent}{sen:FM Int Int}{r:Int}{c:Nat}(hF:ba prog gl 236 [.ptr (dF al) 0,aE aj l,FM.g mJ iG sen] (iG r)):oJ prog gl 236 [.ref 0 0,.rsl 5 0 l.length,.mref 4] (σ6 al sen l) c (iG r) [] c:=
 vT aH hF (lR _) rfl λst h i x y h1 h2=>by
  match i with
  |0=>grind [Jd]
  |1=>cases h1;cases h2;exact Jn (h 5 _ rfl)
  |2=>cases h1;cases h2;exact tB (h 4 _ rfl) λe _=>jB (mN _)
  |j+3=>cases h1
theorem Jo{al:DAuthList}{c:Nat}(hF:iV prog gl 142 [.ptr (dF al) 0] 36 (mR I al).length ((mR I al).flatMap aj)):oJ prog gl 142 [.ref 0 0] (σ3 al) c (.rsl c 0 (mR I al).length) [(c,dm (mR I al))] (c+1):=
 PD aH hF (Zy _) rfl (by grind [Jd])
theorem Jq{l:List DIdent}{x:DIdent}{i c:Nat}(hn:l.length<=1000):oJ prog gl 65 [.rsl i 0 l.length,.agg (aj x)] [(i,dm l)] c (bG (l.any λy=>decide (x=y))) [] c:=
 vT aH (aah hn x) (lR _) rfl λst h j y z h1 h2=>by
  match j with
  |0=>grind [Jn]
  |1=>cases h1;cases h2;exact jB (aG 20 (.agg (aj x)) aH)
  |j+2=>cases h1
theorem Vv{al:DAuthList}(h:GiOk gl al.g I)(hn:al.row.length<=1000)(x y:DIdent){c:Nat}:oJ prog gl 239 [.ref 0 0,.agg (aj x),.agg (aj y)] (σ3 al) c (bG (fT I al.row x y)) [] c:=
 vT aH (LF h hn x y) (lR _) rfl λst h i p q h1 h2=>by
  match i with
  |0=>grind [Jd]
  |1=>cases h1;cases h2;exact jB (aG 20 (.agg (aj x)) aH)
  |2=>cases h1;cases h2;exact jB (aG 20 (.agg (aj y)) aH)
  |j+3=>cases h1
end
abbrev oS(al:DAuthList)(sen:FM Int Int):List HP:=Vm al++[hc (acN sen)]
abbrev ρ5:List (Nat×Nat):=[(0,0),(1,1),(2,2),(3,3),(4,4)]
abbrev ρ6:List (Nat×Nat):=ρ5++[(5,5)]
abbrev ρ7:List (Nat×Nat):=ρ6++[(6,6)]
abbrev kd5:List (Nat×Rk):=[(5,.row)]
abbrev stM(al:DAuthList)(sen:FM Int Int)(s:List DIdent×FM DIdent Bool):St:=(s0 115 fI [(1,.ref 3 0),(2,.mref 4),(7,.rsl 5 0 s.1.length)] (σ6 (wV al s.2) sen s.1) 6 3)
abbrev oMn(al:DAuthList)(sen:FM Int Int)(s:List DIdent×FM DIdent Bool)(n:Nat)(h:n=s.1.length):List HP:=hc h::oS (wV al s.2) sen++[hc (ac.imm s.1)]
abbrev stV(al:DAuthList)(sen:FM Int Int)(l:List DIdent)(x:DIdent)(v:FM DIdent Bool)(k:Nat):St:=(s0 115 fI [(1,.ref 3 0),(2,.mref 4),(7,.rsl 5 0 l.length),(9,.ref 6 0),(85,aE aj al.row),(86,iG (ah al.row)),(87,iG (k:Int))] (σ6 (wV al v) sen l++[(6,Fs x)]) 7 3)
theorem RW(h:LsOk fI al I){s:List Int}(hS:ba prog fI 31 [.ptr (av al.g) 0,aE aj al.row] (aE cZ s))(hsn:s.length<=1000){v:FM DIdent Bool}(hv0:Vq I al (uz I.cards s)=some v):CO prog fI 141 [.ref 0 0] (σ3 al) 3 3 (.tup []) (σ3 (wV al v)):=by
 have hn:=h.n;have hcn:=h.c.n;have hcl:cU al.row=some al.row:=by unfold cU aT;rw[if_pos cq];rfl
 unfold Vq at hv0;refine JJ func141 ?_;refine pN (λk:Nat=>(s0 115 fI [(1,.ref 3 0),(2,.mref 4),(17,aE bv I.cards),(18,iG (ah I.cards)),(19,iG (k:Int))] (σ5 al (Bi (I.cards.take k))) 5 3)) 1110122 (iw (n:=I.cards.length) aa) [hf 17 h.g.cards] (oS al (Bi (I.cards.take 0))) (λB k w hs k5 t=>?_) [] ρ5 [];unfold qZ at hs;split at hs
 .rename_i hlt;obtain rfl:=cP hs;obtain⟨x,hx⟩:∃x,I.cards[k]?=some x:=⟨_,fy hlt⟩;have hz:=cQ hx;have k5:=k5 _ rfl;unfold Bi at k5⊢;rw[List.take_add_one,hx,Option.toList_some,List.foldl_append,List.foldl_cons,List.foldl_nil] at k5;generalize (I.cards.take k).foldl (λ(m:FM Int Int) (c:DCard)=>ee m c.Device (12:Int)) ⟨[],0⟩=m at k5⊢;exact jw [hr 20 (fp hx),bR 21 (bT.ixZ hz),bR 22 (bT.ptZ E2 hz),hmp 6 (abv (σ:=(ob 5 106 (bv x))::σ5 al m) m rfl x.Device 12),hbb 26 (Xl (q:=k) aa)] (oS al (ee m x.Device 12)) k5 [] ρ5 []
 split at hs
 .rename_i he;subst he;clear t k5 hs;rw[List.take_length];refine yl (Bs':=[]) [1,1,0,1] (J:=(s0 115 fI [(1,.ref 3 0),(2,.mref 4)] (σ5 al (Bi I.cards)) 5 3)) [hr 20 (gz (s:=I.cards))] (oS al (Bi I.cards)) ?_;refine pN (λk:Nat=>(s0 115 fI [(1,.ref 3 0),(2,.mref 4),(35,aE cZ s),(36,iG (ah s)),(37,iG (k:Int))] (σ5 al (Dk (Bi I.cards) s k)) 5 3)) 11110122 (iw (n:=s.length) aa) [hf 35 hS] (oS al (Bi I.cards)) (λA k C hs k5 t=>?_) [] ρ5 [];unfold qZ at hs;split at hs
  .rename_i hlt;obtain rfl:=cP hs;obtain⟨x,hx⟩:∃x,s[k]?=some x:=⟨_,fy hlt⟩;have hz:=cQ hx;have k5:=k5 _ rfl;have e:Dk (Bi I.cards) s (k+1)=ee (Dk (Bi I.cards) s k) x (k:Int):=by show(match s[k]? with|some d=>_|none=>_)=_;rw[hx]
   rw[e] at k5;generalize Dk (Bi I.cards) s k=m at k5⊢;exact jw [hr 38 (fp hx),bR 40 (rZ.ixZ hz),bR 41 (rZ.p1Z tZ hz),hmp 5 (abv (σ:=σ5 al m) m rfl x (k:Int)),hbb 45 (Xl (q:=k) aa)] (oS al (ee m x (k:Int))) k5 [] ρ5 []
  split at hs
  .rename_i he;subst he;clear t k5 hs;rw[show Dk (Bi I.cards) s s.length=uz I.cards s from rfl];generalize uz I.cards s=sen at hv0⊢;refine yl (Bs':=[]) [1,1,1,0,1] (J:=(s0 115 fI [(1,.ref 3 0),(2,.mref 4)] (σ5 al sen) 5 3)) [hr 38 (gz (s:=s))] (oS al sen) ?_;refine pN (stM al sen) [1,1,1,1,1,2,2] hv0 [ho 50 [aE aj al.row] [] (jY fI hcl) (Zy _),hdl 52 6 (al:=al) (fi:=233) (del:=λx=> !lK (I.o x).Kind) aH (λx=>aaa h.g x) (l:=al.row) hn rfl] (oMn al sen (al.row.filter (λx=> !!lK (I.o x).Kind),al.void) _ rfl) (λD z E hs k5 t=>?_) [] ρ6 kd5;obtain⟨l,vd⟩:=z;unfold Vp at hs;dsimp only at hs;cases b0:decide (l.length<=1000) with
   |false=>rw[b0] at hs;cases hs
   |true=>
   rw[b0,aN] at hs;have hln:=of_decide_eq_true b0;have h':LsOk fI (wV al vd) I:=⟨h.g,h.c,h.o,h.n⟩;have hkl:=λx y=>Hj h.g x y;generalize e1:(l.filter λx=> !bU (vd.get x))=l1 at hs;have hl1:l1.length<=1000:=by rw[<-e1];exact Nat.le_trans (List.length_filter_le _ _) hln
   rcases bC hs with⟨b1,hs⟩|⟨b1,hs⟩
   .obtain rfl:=cP hs;obtain rfl:=t _ rfl;exact ZT [hdl 55 6 (gl:=fI) (al:=wV al vd) (fi:=235) (del:=λx=>bU (vd.get x)) aH (λx=>Je x) (l:=l) hln e1,hr 58 b1] (Vm (wV al vd)) [(0,0),(1,1),(2,2)] []
   .obtain⟨i,ei,hs⟩:=bS hs;obtain⟨x,r,hs⟩:=bS hs;obtain⟨k,rfl⟩:∃k:Nat,i=(k:Int):=by
     unfold aS at r;split at r
     .exact⟨i.toNat,aa⟩
     .cases r
    have hkx:l1[k]?=some x:=by rw[<-au];exact r
    have f:=(cr hkx).1;rw[Int.toNat_natCast] at hs;have hle:l1.length-1=(l1.eraseIdx k).length:=by rw[List.length_eraseIdx,if_pos f]
    have hF:=Vb h'.g h'.n hl1 ei;have hg:=PB h';have hgn:(mR I (wV al vd)).length<=1000:=Nat.le_trans E1.2 (by simpa using hn);cases c2:(mR I (wV al vd)).any (λz=>decide (x=z)) with
    |false=>rw[c2,cG] at hs;obtain rfl:=cP hs;have j:=Jq (gl:=fI) (l:=mR I (wV al vd)) (x:=x) (i:=7) (c:=8) hgn;rw[c2] at j;exact jw [hdl 55 6 (gl:=fI) (al:=wV al vd) (fi:=235) (del:=λx=>bU (vd.get x)) aH (λx=>Je x) (l:=l) hln e1,hr 58 b1,hz 62 [0,1,2,3,4,5] (LO (c:=6) hF),bR 65 (ac.ixrZ 5 r),bR 66 (ac.pt0Z aW r),hbb 70 (Xl (q:=k) aa),tN 71 [5] 7 [(5,dm l1)] [.rsl 5 0 l1.length,iG (k:Int),iG ((k+1:Nat):Int)] [(0,dm (l1.eraseIdx k))] (Hl fI hl1 f) ⟨⟨rfl,.inr ⟨rfl,ac.imm l1⟩⟩,trivial⟩ ⟨⟨rfl,.inr ⟨rfl,ac.imm _⟩⟩,trivial⟩,hz 73 [0,1,2] (Jo (c:=7) hg),hz 75 [7] j,hmr 8 (acM (σ:=[(1,Fa vd)]) (i:=1) vd rfl x)] (oMn al sen (l1.eraseIdx k,ee vd x true) _ hle) (k5 _ rfl) [] ρ6 kd5
    |true=>
     rw[c2,aN] at hs;obtain rfl:=cP hs;have k5:=k5 _ rfl;have j:=Jq (gl:=fI) (l:=mR I (wV al vd)) (x:=x) (i:=7) (c:=8) hgn;rw[c2] at j;refine pN (λq:Nat=>stV al sen (l1.eraseIdx k) x ((al.row.take q).foldl (vFu I al.row (l1.eraseIdx k) x) vd) q) [1,1,1,1,1,2,2,2,1,1,1,1,1,1,1,2,2] (iw (n:=al.row.length) aa) [hdl 55 6 (gl:=fI) (al:=wV al vd) (fi:=235) (del:=λx=>bU (vd.get x)) aH (λx=>Je x) (l:=l) hln e1,hr 58 b1,hz 62 [0,1,2,3,4,5] (LO (c:=6) hF),bR 65 (ac.ixrZ 5 r),bR 66 (ac.pt0Z aW r),hbb 70 (Xl (q:=k) aa),tN 71 [5] 7 [(5,dm l1)] [.rsl 5 0 l1.length,iG (k:Int),iG ((k+1:Nat):Int)] [(0,dm (l1.eraseIdx k))] (Hl fI hl1 f) ⟨⟨rfl,.inr ⟨rfl,ac.imm l1⟩⟩,trivial⟩ ⟨⟨rfl,.inr ⟨rfl,ac.imm _⟩⟩,trivial⟩,hz 73 [0,1,2] (Jo (c:=7) hg),hz 75 [7] j] (oMn al sen (l1.eraseIdx k,vd) _ hle) (λF q H hs b K=>?_) [] ρ7 kd5;have hl2:(l1.eraseIdx k).length<=1000:=aa;generalize l1.eraseIdx k=l2 at k5 b hl2⊢;unfold qZ at hs;split at hs
     .rename_i hlt;obtain rfl:=cP hs;obtain⟨y,hy⟩:∃y,al.row[q]?=some y:=⟨_,fy hlt⟩;have a:=cQ hy;have b:=b _ rfl;rw[List.take_add_one,hy,Option.toList_some,List.foldl_append,List.foldl_cons,List.foldl_nil] at b;generalize (al.row.take q).foldl (vFu I al.row l2 x) vd=u at b⊢;have hk:=hkl x y;unfold vFu at b;cases kk:mf I x y with
      |true=>rw[kk] at hk b;exact jw [hr 88 (fp hy),bR 89 (ac.ixZ a),bR 90 (ac.ptZ aW a),hf 97 hk,hmr 8 (acM (σ:=[(1,Fa u)]) (i:=1) u rfl y),hbb 114 (Xl (q:=q) aa)] (oMn al sen (l2,ee u y true) _ rfl) b [] ρ7 kd5
      |false=>
       rw[kk,cG] at b;rw[kk] at hk;have p:=Jq (gl:=fI) (l:=l2) (x:=y) (i:=5) (c:=8) hl2;cases cc:l2.any (λz=>decide (y=z)) with
       |false=>rw[cc] at p b;exact jw [hr 88 (fp hy),bR 89 (ac.ixZ a),bR 90 (ac.ptZ aW a),hf 97 hk,hz 101 [5] p,hbb 114 (Xl (q:=q) aa)] (oMn al sen (l2,u) _ rfl) b [] ρ7 kd5
       |true=>
        have hw:=Vv (al:=wV al u) (c:=8) h.g h.n x y;rw[show(wV al u).row=al.row from rfl] at hw;rw[cc,Bool.true_and] at b;rw[cc] at p;cases ww:fT I al.row x y with
        |false=>rw[ww] at hw b;exact jw [hr 88 (fp hy),bR 89 (ac.ixZ a),bR 90 (ac.ptZ aW a),hf 97 hk,hz 101 [5] p,hz 106 [0,1,2] hw,hbb 114 (Xl (q:=q) aa)] (oMn al sen (l2,u) _ rfl) b [] ρ7 kd5
        |true=>rw[ww] at hw b;exact jw [hr 88 (fp hy),bR 89 (ac.ixZ a),bR 90 (ac.ptZ aW a),hf 97 hk,hz 101 [5] p,hz 106 [0,1,2] hw,hmr 8 (acM (σ:=[(1,Fa u)]) (i:=1) u rfl y),hbb 114 (Xl (q:=q) aa)] (oMn al sen (l2,ee u y true) _ rfl) b [] ρ7 kd5
     .split at hs
      .rename_i he;subst he;unfold vAl at k5;rw[List.take_length];generalize al.row.foldl (vFu I al.row l2 x) vd=u at k5⊢;exact jw [hr 88 (gz (s:=al.row))] (oMn al sen (l2,u) _ rfl) k5 [] ρ6 kd5
      .cases hs
  .cases hs
 .cases hs
theorem acP{K V:Type}:FxK (⟨[],0⟩:FM K V):=by grind [FxK,FxOk]
def Xc(vs:List DIdent):FM DIdent Bool:=vs.foldl (λm x=>ee m x true) ⟨[],0⟩
theorem acQ{vs:List DIdent}:FxK (Xc vs):=by
 have key:∀(l:List DIdent) (m:FM DIdent Bool),FxK m->FxK (l.foldl (λm x=>ee m x true) m):=by intro l;induction l<;>grind [tC]
 exact key vs _ acP
def Ft(gg:DGraphGraph)(row vs:List DIdent):DAuthList:=⟨gg,row,Xc vs,Xc vs⟩
abbrev hsI(d i c:Nat){m:FM DIdent Bool}(k:DIdent):HP:=JO d [i] c (acq (P:=prog) (σ:=[(i,Fa m)]) (t:=tMI) (t':=tMI) (et:=4) (v0:=false) jt abw aH aH (k:=k) (gk:= .agg (aj k)) rfl yJ)
abbrev aeH(d i c:Nat){m:FM DIdent Bool}(k:DIdent)(h:FxOk m):HP:=hms d [i] c (acr (σ:=[(i,some (sn tMI ga bG (ee m k ((m.get k).getD false))))]) (i:=i) (t':=tMI) (kv:=ga) (vg:=bG) (m:=m) (k:=k) (v0:=(m.get k).getD false) h yJ true)
section
variable {gl:List (Nat×List G)}
theorem aeI{row vs:List DIdent}(hO:ba prog gl 161 [.ptr (av gg) 0,aE aj ids] (aE aj row))(hV:ba prog gl 232 [.ptr (av gg) 0,aE aj ids] (aE aj vs))(hn:vs.length<=1000):CO prog gl 140 [.ptr (av gg) 0,aE aj ids] [] 0 0 (.ref 0 0) (σ3 (Ft gg row vs)):=by
 refine JJ func140 ?_;refine pN (λk:Nat=>(s0 40 gl [(5,.ref 0 0),(18,aE aj vs),(19,iG (ah vs)),(20,iG (k:Int))] (σ3 (Ft gg row (vs.take k))) 3 0)) 1110122 (iw (n:=vs.length) aa) [hf 11 hO,hf 18 hV] (Vm (Ft gg row (vs.take 0))) (λB k w hs k5 a=>?_) [] [(0,2),(1,0),(2,1)] [];unfold qZ at hs;split at hs
 .rename_i hlt;obtain rfl:=cP hs;obtain⟨x,hx⟩:∃x,vs[k]?=some x:=⟨_,fy hlt⟩;have hz:=cQ hx;have k5:=k5 _ rfl;have e:Ft gg row (vs.take (k+1))=⟨gg,row,ee (Xc (vs.take k)) x true,ee (Xc (vs.take k)) x true⟩:=by unfold Ft Xc;rw[List.take_add_one,hx,Option.toList_some,List.foldl_append];rfl
  have hm:=acQ (vs:=vs.take k);rw[e] at k5;unfold Ft;generalize Xc (vs.take k)=m at k5 hm⊢;exact jw [hr 21 (fp hx),bR 22 (ac.ixZ hz),bR 23 (ac.ptZ aW hz),hsI 34 1 4 (m:=m) x,aeH 35 1 4 x hm.1,hsI 36 2 4 (m:=m) x,aeH 37 2 4 x hm.1,hbb 38 (Xl (q:=k) aa)] (Vm ⟨gg,row,ee m x true,ee m x true⟩) k5 [] [(0,0),(1,1),(2,2)] []
 .split at hs
  .rename_i he;subst he;rw[List.take_length];exact ZT [hr 21 (gz (s:=vs))] (Vm (Ft gg row vs)) [(0,0),(1,1),(2,2)] []
  .cases hs
end
def Vx(I:Gi)(al:DAuthList)(s:List Int):Option (List DIdent):=(Vq I al (uz I.cards s)).map λv=>mR I (wV al v)
theorem aeJ{κ:Nat->Option Nat}{al:DAuthList}(h0:κ 0=some 0)(h1:κ 1=some 1)(h2:κ 2=some 2):KS κ (σ3 al) (σ3 al):=λk o h=>by
 match k with
 |0=>obtain⟨a,e⟩:=Jk (v:=1) (f:=2) h1 h2 o h;exact⟨0,a,h0,e⟩
 |1=>obtain⟨a,e⟩:=wd o h;exact⟨1,a,h1,e⟩
 |2=>obtain⟨a,e⟩:=wd o h;exact⟨2,a,h2,e⟩
 |j+3=>cases h
theorem in3{al:DAuthList}:InP (vi [0,1,2]) [0,1,2] (σ3 al) (σ3 al):=λk o h=>by
 match k with
 |0=>obtain⟨a,e⟩:=Jk (κ:=vi [0,1,2]) (v:=1) (f:=2) rfl rfl o h;exact⟨0,a,rfl,e⟩
 |1=>obtain⟨a,e⟩:=wd (κ:=vi [0,1,2]) o h;exact⟨1,a,rfl,e⟩
 |2=>obtain⟨a,e⟩:=wd (κ:=vi [0,1,2]) o h;exact⟨2,a,rfl,e⟩
 |j+3=>cases h
theorem RX{I:Gi}{ids row vs:List DIdent}{s:List Int}{r:List DIdent}(h:LsOk fI (Ft gg row vs) I)(hO:ba prog fI 161 [.ptr (av gg) 0,aE aj ids] (aE aj row))(hV:ba prog fI 232 [.ptr (av gg) 0,aE aj ids] (aE aj vs))(hn:vs.length<=1000)
  (hS:ba prog fI 31 [.ptr (av gg) 0,aE aj row] (aE cZ s)) (hsn:s.length<=1000) (hr:Vx I (Ft gg row vs) s=some r):ba prog fI 72 [.ptr (av gg) 0,aE aj ids] (aE aj r):=by
 unfold Vx at hr
 cases hd:Vq I (Ft gg row vs) (uz I.cards s) with
 |none=>rw[hd] at hr;cases hr
 |some v=>
  rw[hd] at hr
  obtain rfl:=cP hr
  have h':LsOk fI (wV (Ft gg row vs) v) I:=⟨h.g,h.c,h.o,h.n⟩
  have hg:=PB h'
  have hof:=aeI hO hV hn
  have a:=RW h hS hsn hd
  generalize Ft gg row vs=al at*
  refine Gh func72 ?_
  exact Ar [hfm 8 [] 0 3 0 [] [.ptr (av gg) 0,aE aj ids] (σ3 al) hof UT (aeJ rfl rfl rfl),hfm 10 [0,1,2] 3 0 3 (σ3 al) [.ref 0 0] (σ3 (wV al v)) a in3 (aeJ rfl rfl rfl),hz 12 [0,1,2] (Jo (al:=wV al v) (c:=3) hg)] [hc (ac.al (mR I (wV al v)))]
def LP(o:DOp):Option Int:=bif decide (o.Kind=1) then some o.By else bif decide (o.Kind=2) then some o.Device else bif decide (o.Kind=13) then some o.Device else none
def Bj(I:Gi)(acc:List Int)(x:DIdent):List Int:=match LP (I.o x) with
 |none=>acc
 |some d=>bif acc.any (λy=>decide (d=y)) then acc else acc++[d]
def tP(I:Gi)(row:List DIdent):List Int:=row.foldl (Bj I) []
theorem Vz{I:Gi}{acc:List Int}:(Bj I acc x).length<=acc.length+1:=by grind [Bj]
theorem Fi{I:Gi}:∀{l:List DIdent} {acc:List Int},(l.foldl (Bj I) acc).length<=acc.length+l.length
 |[],acc=>Nat.le_refl _
 |x::r,acc=>by have h1:=Fi (I:=I) (l:=r) (acc:=Bj I acc x);grind [Vz]
section
variable {gl:List (Nat×List G)} {gg:DGraphGraph}
abbrev acR(gg:DGraphGraph)(ids:List DIdent):G:= .clo (.func 160) [] [.ptr [.ptr (av gg) 0] 0,.ptr [aE aj ids] 0]
theorem aal(ids:List DIdent):ba prog gl 85 [.ptr (av gg) 0,aE aj ids] (acR gg ids):=by refine Gh func85 ?_;refine pO [1,0] (s0 6 gl [(2,.ptr [.ptr (av gg) 0] 0),(3,.ptr [aE aj ids] 0)] [] 0 0) [] [hc (eB (gs:=[.ptr (av gg) 0]) aH),hc (aY (aG 20 (aE aj ids) aH) bf)] ?_;exact Ar [] []
noncomputable abbrev N4:Code:=bq 111012 (ai Tryz.f31)
noncomputable abbrev Dl(st:LoopState):Option Ob:=some ⟨0,[],some (.loop st none 22 [(5,.ref 0 0)] (Dy N4) (Dz N4) (DA N4))⟩
abbrev aeK(gg:DGraphGraph)(row:List DIdent)(k:Nat):Fr:=[(0,.yld 1),(1,.ptr [.ptr (av gg) 0] 0),(11,aE aj row),(12,iG (ah row)),(13,iG (k:Int))]
noncomputable abbrev σCa(acc:List Int):aQ:=[(0,LA (.rsl 2 0 acc.length)),(1,Dl .ready),(2,oe acc)]
noncomputable abbrev acS(gl:List (Nat×List G))(gg:DGraphGraph)(row:List DIdent)(k:Nat)(acc:List Int):St:=(s0 40 gl (aeK gg row k) (σCa acc) 3 2)
noncomputable abbrev GK(gl:List (Nat×List G))(gg:DGraphGraph)(row:List DIdent)(k:Nat)(acc:List Int)(x:DIdent)(d:Int):St:=(s0 40 gl ((5,.ref 3 0)::(8,iG d)::aeK gg row k) (σCa acc++[(3,Fs x)]) 4 2)
abbrev ρC3:List (Nat×Nat):=[(0,0),(1,1),(2,2)]
abbrev ρC4:List (Nat×Nat):=[(0,0),(1,1),(2,2),(3,3)]
theorem VA{l:List Int}{d:Int}{i c:Nat}(hn:l.length<=1000000):oJ prog gl 35 [.rsl i 0 l.length,iG d] [(i,oe l)] c (bG (l.any λy=>decide (d=y))) [] c:=
 vT aH (fG gl (Hh aa d)) (lR _) rfl λst h j y z h1 h2=>by
  match j with
  |0=>cases h1;cases h2;have ho:ag st.σ i=oe l:=h i _ (by rw[bj,if_pos rfl]);exact FD (s:=1) ho aH (by grind [RowTy.len,rZ]) (rZ.len l) (by grind [jB,RowTy.imm,rZ])
  |1=>grind [jB,mN]
  |j+2=>cases h1
theorem Fj(h:GiOk gl gg I){ids row:List DIdent}(hO:ba prog gl 161 [.ptr (av gg) 0,aE aj ids] (aE aj row))(hn:row.length<=1000):ba prog gl 31 [.ptr (av gg) 0,aE aj ids] (aE cZ (tP I row)):=by
 refine Gh func31 ?_;refine YR [1,1,0,1,2] (s0 22 gl [(5,.ref 0 0),(10,acR gg ids)] [(0,LA (.lit (.slice none 0 0)))] 1 0) [hf 10 (aal (gl:=gl) (gg:=gg) ids)] ?_;refine Xt (fst:=[]) (cap:=[.ptr [.ptr (av gg) 0] 0,.ptr [aE aj ids] 0]) Tryz.f160 func160 ?_;refine pN (λk:Nat=>acS gl gg row k ((row.take k).foldl (Bj I) [])) [1,2,2] (iw (n:=row.length) aa) [hf 11 hO] [hc (rZ.imm [])] (λB k w hs k5 g=>?_) (vs:=[3]) (ρ:=ρC3) (kd:=[(2,.row)]);unfold qZ at hs;split at hs
 .rename_i hlt;obtain rfl:=cP hs;obtain⟨x,hx⟩:∃x,row[k]?=some x:=⟨_,fy hlt⟩;have e:=cQ hx;have k5:=k5 _ rfl;have hal:=Fi (I:=I) (l:=row.take k) (acc:=[]);rw[List.length_take,List.length_nil] at hal;rw[List.take_add_one,hx,Option.toList_some,List.foldl_append,List.foldl_cons,List.foldl_nil] at k5;generalize (row.take k).foldl (Bj I) []=acc at k5 hal⊢;have ho:=h.op x;have hb2:k<1000000:=aa;have fin:∀d,B (acS gl gg row (k+1) (bif acc.any (λy=>decide (d=y)) then acc else acc++[d]))->Gp prog Tryz.f160 (sI prog (s0 22 gl [(5,.ref 0 0),(10,acR gg ids)] [(0,LA (.lit (.slice none 0 0)))] 1 0) (dz prog (bE [1,1,0,1,2] (ai Tryz.f31) [] []) (tH prog Tryz.f31 (aE cZ (tP I row))))) [B] false [1,2,2,1,1,0,2,1,1,1,1,0] (GK gl gg row k acc x d):=λd hB=>by
   have f:=VA (gl:=gl) (l:=acc) (d:=d) (i:=2) (c:=4) aa;cases cc:acc.any (λy=>decide (d=y)) with
   |true=>
    rw[cc] at hB f;refine Xw (i:=1) (j:=3) (n:=22) (t:=0) (t2:=0) (pe:=none) (fr:=[(5,.ref 0 0)]) (ps:=Dy N4) (a:=Dz N4) (b:=DA N4) (s1:=(s0 40 gl ([(36,iG d),(35,.agg (aj x)),(34,.yld 1)]++(GK gl gg row k acc x d).fr) ((GK gl gg row k acc x d).σ) 4 2))
     (s3:=(s0 40 gl ([(38,bG false),(37,bG true),(36,iG d),(35,.agg (aj x)),(34,.yld 1)]++(GK gl gg row k acc x d).fr) ((1,Dl .ready)::[(0,LA (.rsl 2 0 acc.length)),(1,Dl .busy),(2,oe acc)]) 4 2))
     [(0,LA (.rsl 2 0 acc.length)),(1,Dl .busy),(2,oe acc)] 4 (.loop .ready none 22 [(5,.ref 0 0)] (Dy N4) (Dz N4) (DA N4)) [] [] ?_ ?_
    .refine C9 .normal ⟨22,gl,[(5,.ref 0 0),(7,iG d)],[(0,LA (.rsl 2 0 acc.length)),(1,Dl .ready),(2,oe acc)],4,4,true⟩ [] [hc (rfl:acc.length=acc.length),hc (rZ.imm acc)] (Xv Tryz.f31 ?_ rfl) (ρ:=ρC4) (kd:=[(2,.row)]);exact C9 .normal ⟨22,gl,[],[(0,LA (.rsl 2 0 acc.length)),(1,Dl .busy),(2,oe acc)],4,4,true⟩ [hz 15 [2] f] [hc (rfl:acc.length=acc.length),hc (rZ.imm acc)] (by grind [jy]) (ρ:=ρC4) (kd:=[(2,.row)])
    .exact jw [hbb 39 (Xl (q:=k) aa)] [hc (rfl:acc.length=acc.length),hc (rZ.imm acc)] hB [] ρC3 [(2,.row)]
   |false=>
    rw[cc] at hB f;refine Xw (i:=1) (j:=3) (n:=22) (t:=0) (t2:=0) (pe:=none) (fr:=[(5,.ref 0 0)]) (ps:=Dy N4) (a:=Dz N4) (b:=DA N4) (s1:=(s0 40 gl ([(36,iG d),(35,.agg (aj x)),(34,.yld 1)]++(GK gl gg row k acc x d).fr) ((GK gl gg row k acc x d).σ) 4 2))
     (s3:=(s0 40 gl ([(38,bG false),(37,bG true),(36,iG d),(35,.agg (aj x)),(34,.yld 1)]++(GK gl gg row k acc x d).fr) ((1,Dl .ready)::[(0,LA (.rsl 4 0 (acc++[d]).length)),(1,Dl .busy),(4,oe (acc++[d]))]) 5 2))
     [(0,LA (.rsl 4 0 (acc++[d]).length)),(1,Dl .busy),(4,oe (acc++[d]))] 5 (.loop .ready none 22 [(5,.ref 0 0)] (Dy N4) (Dz N4) (DA N4)) [] [] ?_ ?_
    .refine C9 .normal ⟨22,gl,[(5,.ref 0 0),(7,iG d)],[(0,LA (.rsl 2 0 acc.length)),(1,Dl .ready),(2,oe acc)],4,4,true⟩ [] [hc (rfl:acc.length=acc.length),hc (rZ.imm acc)] (Xv Tryz.f31 ?_ rfl) (ρ:=ρC4) (kd:=[(2,.row)]);exact C9 .normal ⟨22,gl,[],[(0,LA (.rsl 4 0 (acc++[d]).length)),(1,Dl .busy),(4,oe (acc++[d]))],5,4,true⟩ [hz 15 [2] f,Tn 20 rZ 8 acc d aa] [hc (el (acc++[d])),hc (rZ.imm (acc++[d]))] (by grind [jy]) (ρ:=rI 4++[(4,5)]) (kd:=[(4,.row)])
    .exact jw [hbb 39 (Xl (q:=k) aa)] [hc (el (acc++[d])),hc (rZ.imm (acc++[d]))] hB [] [(0,0),(1,1),(2,4)] [(2,.row)]
  unfold Bj at k5;generalize I.o x=o at ho k5;unfold LP at k5;cases b1:decide (o.Kind=1) with
  |true=>rw[b1] at k5;exact pO 1122110211110 (GK gl gg row k acc x o.By) [hr 14 (fp hx),bR 15 (ac.ixZ e),bR 16 (ac.ptZ aW e),hf 20 ho,hr 26 b1] [hc (rfl:acc.length=acc.length),hc (rZ.imm acc)] (fin _ k5) [] ρC4 [(2,.row)]
  |false=>
   rw[b1,cG] at k5;cases b2:decide (o.Kind=2) with
   |true=>rw[b2] at k5;exact pO 1122110211110 (GK gl gg row k acc x o.Device) [hr 14 (fp hx),bR 15 (ac.ixZ e),bR 16 (ac.ptZ aW e),hf 20 ho,hr 26 b1,hr 30 b2] [hc (rfl:acc.length=acc.length),hc (rZ.imm acc)] (fin _ k5) [] ρC4 [(2,.row)]
   |false=>
    rw[b2,cG] at k5;cases b3:decide (o.Kind=13) with
    |true=>rw[b3] at k5;exact pO 1122110211110 (GK gl gg row k acc x o.Device) [hr 14 (fp hx),bR 15 (ac.ixZ e),bR 16 (ac.ptZ aW e),hf 20 ho,hr 26 b1,hr 30 b2,hr 31 b3] [hc (rfl:acc.length=acc.length),hc (rZ.imm acc)] (fin _ k5) [] ρC4 [(2,.row)]
    |false=>rw[b3] at k5;exact jw [hr 14 (fp hx),bR 15 (ac.ixZ e),bR 16 (ac.ptZ aW e),hf 20 ho,hr 26 b1,hr 30 b2,hr 31 b3,hbb 39 (Xl (q:=k) aa)] [hc (rfl:acc.length=acc.length),hc (rZ.imm acc)] k5 [] ρC3 [(2,.row)]
 .split at hs
  .rename_i he;subst he;rw[List.take_length];show Gp _ _ _ _ _ _ (acS gl gg row row.length (tP I row));generalize tP I row=acc;refine C9 .normal (s0 40 gl [] [(0,LA (.rsl 2 0 acc.length)),(1,Dl .ready),(2,oe acc)] 3 2) [hr 14 (gz (s:=row))] [hc (rfl:acc.length=acc.length),hc (rZ.imm acc)] (Xu ?_ rfl) (ρ:=ρC3) (kd:=[(2,.row)]);exact Ar [] [hc (rZ.al acc)]
  .cases hs
end
abbrev CmV(gl:List (Nat×List G))(fi:FuncId)(fa fc:List G)(cmp:DIdent->DIdent->Int):Prop:=FnV prog gl fi fa fc (λp:DIdent×DIdent=>[.agg (aj p.1),.agg (aj p.2)]) (λz:Int=>iG z) (λp=>some (cmp p.1 p.2))
abbrev zz(fi:FuncId)(fa fc:List G):G:= .clo (.func fi) fa fc
theorem imP(p:DIdent×DIdent):∀g∈([.agg (aj p.1),.agg (aj p.2)]:List G),bB g:=aY (aG 20 (.agg (aj p.1)) aH) (aY (aG 20 (.agg (aj p.2)) aH) bf)
abbrev Mi(d c:Nat){gl:List (Nat×List G)}{fi:FuncId}{fa fc:List G}{cmp:DIdent->DIdent->Int}(hv:CmV gl fi fa fc cmp)(x y:DIdent):HP:=hz d [] (hv.cs (c:=c) (x:=(x,y)) rfl (imP (x,y)))
def Jt{α:Type}(cmp:α->α->Int)(a:Int)(s:List α×Int):Option ((List α×Int)⊕List α):=
 bif decide (a<s.2) then(aS s.1 s.2).bind λx=>(aS s.1 (wI (s.2-1))).bind λy=>bif decide (cmp x y<0) then(ji s.1 s.2 y).bind λb=>(ji b (wI (s.2-1)) x).bind λc=>some (.inl (c,wI (s.2-1))) else some (.inr s.1) else some (.inr s.1)
def Ju{α:Type}(cmp:α->α->Int)(a b:Int)(s:List α×Int):Option ((List α×Int)⊕List α):=
 bif decide (s.2<b) then(bo (Jt cmp a) (s.1,s.2)).bind λl=>some (.inl (l,wI (s.2+1))) else some (.inr s.1)
def N7{α:Type}(cmp:α->α->Int)(a b:Int)(l:List α):Option (List α):=bo (Ju cmp a b) (l,wI (a+1))
theorem abA{c d:List DIdent}{i j:Int}(h1:ji l i b=some c)(h2:ji c j a=some d):fh prog 26 (.rsl 0 0 l.length) j=some (.ref 0 (0+j.toNat*3)):=by rw[hZ h1];exact ac.ixsZ 0 h2
section
variable {gl:List (Nat×List G)} {fi:FuncId} {fa fc:List G} {cmp:DIdent->DIdent->Int} (hv:CmV gl fi fa fc cmp)
include hv
theorem PG{a b:Int}(h:N7 cmp a b l=some r):jg prog gl 321 [.rsl 0 0 l.length,iG a,iG b,zz fi fa fc] [(0,dm l)] 1 (.tup []) [(0,dm r)] 1:=by
 unfold N7 at h;refine pP func321 ?_;refine pN (λs:List DIdent×Int=>(s0 53 gl [(0,.rsl 0 0 s.1.length),(1,iG a),(2,iG b),(3,zz fi fa fc),(8,iG s.2)] [(0,dm s.1)] 1 1)) 1122 h [] [hc (el l),hc hv.im,hc (ac.imm l)] (λB s w hs k5 g=>?_) [] [(0,0)] [(0,.row)];obtain⟨l1,i⟩:=s;unfold Ju at hs;dsimp only at hs;rcases bC hs with⟨b1,hs⟩|⟨b1,hs⟩
 .obtain⟨l2,e2,hs⟩:=bS hs;obtain rfl:=cP hs;refine Ix 11221021 (s0 53 gl [(0,.rsl 0 0 l2.length),(1,iG a),(2,iG b),(3,zz fi fa fc),(8,iG i)] [(0,dm l2)] 1 1) ?_ λkk=>?_
  .exact jw [] [hc (el l2),hc hv.im,hc (ac.imm l2)] (k5 _ rfl) [] [(0,0)] [(0,.row)]
  refine pN (λs:List DIdent×Int=>(s0 53 gl [(0,.rsl 0 0 s.1.length),(1,iG a),(2,iG b),(3,zz fi fa fc),(8,iG i),(9,iG s.2)] [(0,dm s.1)] 1 1)) 1122102122 e2 [hr 14 b1] [hc (el l1),hc hv.im,hc (ac.imm l1)] (λn z v hz k e=>?_) [] [(0,0)] [(0,.row)];obtain⟨l3,j⟩:=z;unfold Jt at hz;dsimp only at hz;rcases bC hz with⟨b2,hz⟩|⟨b2,hz⟩
  .obtain⟨x,c,hz⟩:=bS hz;obtain⟨y,d,hz⟩:=bS hz;rcases bC hz with⟨b3,hz⟩|⟨b3,hz⟩
   .obtain⟨m,e1,hz⟩:=bS hz;obtain⟨f,e3,hz⟩:=bS hz;obtain rfl:=cP hz;exact jw [hr 20 b2,bR 25 (ac.ixrZ 0 c),bR 26 (ac.pt0Z aW c),bR 30 (ac.ixrZ 0 d),bR 31 (ac.pt0Z aW d),Mi 32 1 hv x y,hr 33 b3,bR 45 (ac.ixrZ 0 d),bR 46 (ac.pt0Z aW d),bR 49 (ac.ixrZ 0 c),bR 50 (ac.pt0Z aW c),bR 51 (ac.ixsZ 0 e1),hw 51 (m.flatMap aj) (ac.putZ e1),bR 52 (abA e1 e3),hw 52 (f.flatMap aj) (ac.putZ e3)] [hc ((hZ e1).trans (hZ e3)),hc hv.im,hc (ac.imm f)] (k _ rfl) [] [(0,0)] [(0,.row)]
   .obtain rfl:=cP hz;obtain rfl:=e _ rfl;exact yl 11221021 [hr 20 b2,bR 25 (ac.ixrZ 0 c),bR 26 (ac.pt0Z aW c),bR 30 (ac.ixrZ 0 d),bR 31 (ac.pt0Z aW d),Mi 32 1 hv x y,hr 33 b3] [hc (el l3),hc hv.im,hc (ac.imm l3)] kk [] [(0,0)] [(0,.row)]
  .obtain rfl:=cP hz;obtain rfl:=e _ rfl;exact yl 11221021 [hr 20 b2] [hc (el l3),hc hv.im,hc (ac.imm l3)] kk [] [(0,0)] [(0,.row)]
 .obtain rfl:=cP hs;obtain rfl:=g _ rfl;exact mt .normal (s0 53 gl [] [(0,dm l1)] 1 1) [] [hr 14 b1] [hc (ac.imm l1)] (ρ:=[(0,0)]) (kd:=[(0,.row)])
omit hv
def PH{α:Type}(l:List α)(i j:Nat):Option (List α):=(l[i]?).bind λx=>(l[j]?).bind λy=>some ((l.set i y).set j x)
theorem mG{l r:List α}{i j:Nat}(h:PH l i j=some r):∃x y,l[i]?=some x/\l[j]?=some y/\r=(l.set i y).set j x:=by grind [PH]
theorem stZ{l:List α}{i:Nat}{y x:α}(h:l[i]?=some y):ji l (i:Int) x=some (l.set i x):=by grind [ji]
theorem acT{l:List α}{i j:Nat}{y x z w:α}(h:l[j]?=some y):ji (l.set i z) (j:Int) x=some ((l.set i z).set j x):=by grind [ji]
theorem BA{y:DIdent}:l.length=((l.set i y).set j x).length:=by rw[List.length_set,List.length_set]
abbrev hsw(a b c d:Nat){l w:List DIdent}{i j:Nat}{x y:DIdent}(hx:l[i]?=some x)(hy:l[j]?=some y)(e:w=(l.set i y).set j x):List HP:=[bR a (ac.ixrZ 0 (cQ hy)),bR (a+1) (ac.pt0Z aW (cQ hy)),bR b (ac.ixrZ 0 (cQ hx)),bR (b+1) (ac.pt0Z aW (cQ hx)),bR c (ac.ixsZ 0 (stZ (x:=y) hx)),hw c ((l.set i y).flatMap aj) (ac.putZ (stZ (x:=y) hx)),bR d (abA (stZ (x:=y) hx) (acT (w:=x) (x:=x) (z:=y) (i:=i) hy)),hw d (w.flatMap aj) (e▸ac.putZ (acT (w:=x) (x:=x) (z:=y) (i:=i) hy))]
theorem kK{c:Bool}{x:Option α}{v:α}(h:(bif c then x else none)=some v):c=true/\x=some v:=by grind
theorem VB(h:Nat.blt 0 j=true):∃k,j=k+1:=by simp_all
theorem VC{v:Nat⊕α}(h:(bif Nat.blt 0 j then some (.inl (j-1)) else none)=some v):∃k,j=k+1/\v= .inl k:=by
 cases j with
 |zero=>cases h
 |succ k=>grind
def scU(cmp:DIdent->DIdent->Int)(l:List DIdent)(a j i:Nat):Option (Nat⊕Nat):=bif decide ((i:Int)<=(j:Int)) then(l[i]?).bind λx=>(l[a]?).bind λy=>bif decide (cmp x y<0) then some (.inl (i+1)) else some (.inr i) else some (.inr i)
def scD(cmp:DIdent->DIdent->Int)(l:List DIdent)(a i j:Nat):Option (Nat⊕Nat):=bif decide ((i:Int)<=(j:Int)) then(l[j]?).bind λx=>(l[a]?).bind λy=>bif decide (cmp x y<0) then some (.inr j) else bif Nat.blt 0 j then some (.inl (j-1)) else none else some (.inr j)
def paT(cmp:DIdent->DIdent->Int)(a:Nat)(s:List DIdent×Nat×Nat):Option ((List DIdent×Nat×Nat)⊕(List DIdent×Nat)):=
 bif decide (s.1.length<=1000) then(bo (scU cmp s.1 a s.2.2) s.2.1).bind λi=>(bo (scD cmp s.1 a i) s.2.2).bind λj=>bif decide ((j:Int)<(i:Int)) then some (.inr (s.1,j)) else bif Nat.blt 0 j then(PH s.1 i j).bind λl=>some (.inl (l,i+1,j-1)) else none else none
def paS(cmp:DIdent->DIdent->Int)(a b p:Nat)(l:List DIdent):Option (Nat×Bool×List DIdent):=
 (
  PH l a p).bind λl0=>(bo (scU cmp l0 a (b-1)) (a+1)).bind λi=>(bo (scD cmp l0 a i) (b-1)).bind λj=>
  bif decide ((j:Int)<(i:Int)) then(PH l0 j a).bind λr=>some (j,true,r) else bif Nat.blt 0 j then(PH l0 i j).bind λl1=>(bo (paT cmp a) (l1,i+1,j-1)).bind λs=>(PH s.1 s.2 a).bind λr=>some (s.2,false,r) else none
include hv
abbrev JB(gl:List (Nat×List G))(fi:FuncId)(fa fc:List G)(a b:Nat)(l:List DIdent)(i j:Nat):St:=(s0 178 gl [(0,.rsl 0 0 l.length),(1,iG (a:Int)),(2,iG (b:Int)),(4,zz fi fa fc),(12,iG (i:Int)),(13,iG (j:Int))] [(0,dm l)] 1 1)
theorem xH{a b p:Nat}{m:Nat}{f:Bool}(hl:l.length<=1000)(ha:a<1000)(hb1:1<=b)(hb2:b<=1000)(h:paS cmp a b p l=some (m,f,r)):jg prog gl 328 [.rsl 0 0 l.length,iG (a:Int),iG (b:Int),iG (p:Int),zz fi fa fc] [(0,dm l)] 1 (.tup [iG (m:Int),bG f]) [(0,dm r)] 1:=by
 obtain⟨b,rfl⟩:∃q,b=q+1:=⟨b-1,aa⟩;unfold paS at h;rw[Nat.add_sub_cancel] at h;obtain⟨l0,e0,h⟩:=bS h;obtain⟨i,ei,h⟩:=bS h;obtain⟨j,ej,h⟩:=bS h;obtain⟨D,E,h1,h2,e0⟩:=mG e0;have hl0:l.length=l0.length:=by rw[e0];exact BA
 refine pP func328 ?_;refine Ix 11110 (JB gl fi fa fc a (b+1) l0 i b) ?_ λkk=>?_;rotate_left
 .have hl2:l0.length<=1000:=aa;refine pN (λq:Nat=>JB gl fi fa fc a (b+1) l0 q b) [1,1,1,0,2,2] ei (hsw 20 24 26 27 h1 h2 e0++[hbb 29 (Xl (q:=a) aa),hbb 31 (dec (q:=b) aa)]) [hc hl0,hc hv.im,hc (ac.imm l0)] (λu q v hz n g=>?_) [] [(0,0)] [(0,.row)];unfold scU at hz;rcases bC hz with⟨b2,hz⟩|⟨b2,hz⟩
  .obtain⟨x,c,hz⟩:=bS hz;obtain⟨y,d,hz⟩:=bS hz;have hq:=(cr c).1;rcases bC hz with⟨b3,hz⟩|⟨b3,hz⟩
   .obtain rfl:=cP hz;exact jw [hr 34 b2,bR 39 (ac.ixrZ 0 (cQ c)),bR 40 (ac.pt0Z aW (cQ c)),bR 43 (ac.ixrZ 0 (cQ d)),bR 44 (ac.pt0Z aW (cQ d)),Mi 45 1 hv x y,hr 46 b3,hbb 49 (Xl (q:=q) aa)] [hc (rfl:l0.length=l0.length),hc hv.im,hc (ac.imm l0)] (n _ rfl) [] [(0,0)] [(0,.row)]
   .obtain rfl:=cP hz;obtain rfl:=g _ rfl;exact yl 11110 [hr 34 b2,bR 39 (ac.ixrZ 0 (cQ c)),bR 40 (ac.pt0Z aW (cQ c)),bR 43 (ac.ixrZ 0 (cQ d)),bR 44 (ac.pt0Z aW (cQ d)),Mi 45 1 hv x y,hr 46 b3] [hc (rfl:l0.length=l0.length),hc hv.im,hc (ac.imm l0)] kk [] [(0,0)] [(0,.row)]
  .obtain rfl:=cP hz;obtain rfl:=g _ rfl;exact yl 11110 [hr 34 b2] [hc (rfl:l0.length=l0.length),hc hv.im,hc (ac.imm l0)] kk [] [(0,0)] [(0,.row)]
 have hl0:l0.length<=1000:=aa;clear e0 h1 h2 hl ei;refine Ix 111110 (JB gl fi fa fc a (b+1) l0 i j) ?_ λkk=>?_;rotate_left
 .skip;refine pN (λq:Nat=>JB gl fi fa fc a (b+1) l0 i q) [1,1,1,1,0,2,2] ej [] [hc (rfl:l0.length=l0.length),hc hv.im,hc (ac.imm l0)] (λu q v hz n g=>?_) [] [(0,0)] [(0,.row)];unfold scD at hz;rcases bC hz with⟨b2,hz⟩|⟨b2,hz⟩
  .obtain⟨x,c,hz⟩:=bS hz;obtain⟨y,d,hz⟩:=bS hz;have hq:=(cr c).1;rcases bC hz with⟨b3,hz⟩|⟨b3,hz⟩
   .obtain rfl:=cP hz;obtain rfl:=g _ rfl;exact yl 111110 [hr 52 b2,bR 57 (ac.ixrZ 0 (cQ c)),bR 58 (ac.pt0Z aW (cQ c)),bR 61 (ac.ixrZ 0 (cQ d)),bR 62 (ac.pt0Z aW (cQ d)),Mi 63 1 hv x y,hr 64 b3] [hc (rfl:l0.length=l0.length),hc hv.im,hc (ac.imm l0)] kk [] [(0,0)] [(0,.row)]
   .obtain⟨k,rfl,rfl⟩:=VC hz;exact jw [hr 52 b2,bR 57 (ac.ixrZ 0 (cQ c)),bR 58 (ac.pt0Z aW (cQ c)),bR 61 (ac.ixrZ 0 (cQ d)),bR 62 (ac.pt0Z aW (cQ d)),Mi 63 1 hv x y,hr 64 b3,hbb 68 (dec (q:=k) aa)] [hc (rfl:l0.length=l0.length),hc hv.im,hc (ac.imm l0)] (n _ rfl) [] [(0,0)] [(0,.row)]
  .obtain rfl:=cP hz;obtain rfl:=g _ rfl;exact yl 111110 [hr 52 b2] [hc (rfl:l0.length=l0.length),hc hv.im,hc (ac.imm l0)] kk [] [(0,0)] [(0,.row)]
 clear ej;rcases bC h with⟨b1,h⟩|⟨b1,h⟩
 .obtain⟨r',A,h⟩:=bS h;simp only[gL,Prod.mk.injEq] at h;obtain⟨rfl,rfl,rfl⟩:=h;obtain⟨x,y,hx,hy,e⟩:=mG A;exact mt .ret (s0 178 gl [(10,iG (j:Int)),(11,bG true)] [(0,dm r')] 1 1) [iG (j:Int),bG true] (hr 71 b1::hsw 78 82 84 85 hx hy e) [hc (ac.imm r')] (ρ:=[(0,0)]) (kd:=[(0,.row)])
 obtain⟨hj,h⟩:=kK h;obtain⟨j,rfl⟩:=VB hj;rw[Nat.add_sub_cancel] at h;obtain⟨l1,e1,h⟩:=bS h;obtain⟨s,es,h⟩:=bS h;obtain⟨r',A,h⟩:=bS h;simp only[gL,Prod.mk.injEq] at h;obtain⟨rfl,rfl,rfl⟩:=h;obtain⟨x,y,hx,hy,e1⟩:=mG e1;have hli:=(cr hx).1;have o:=(cr hy).1;have hl1:l0.length=l1.length:=by rw[e1];exact BA
 refine pN (λz:List DIdent×Nat×Nat=>JB gl fi fa fc a (b+1) z.1 z.2.1 z.2.2) [1,1,1,1,1,1,1,1,1,0,2,2] es (hr 71 b1::hsw 93 97 99 100 hx hy e1++[hbb 102 (Xl (q:=i) aa),hbb 104 (dec (q:=j) aa)]) [hc hl1,hc hv.im,hc (ac.imm l1)] (λB z w hs k5 C=>?_) [] [(0,0)] [(0,.row)];clear hx hy e1 hli o hl1 b1 hl0;obtain⟨l1,i,j⟩:=z;unfold paT at hs;dsimp only at hs;cases b0:decide (l1.length<=1000) with
 |false=>rw[b0] at hs;cases hs
 |true=>
 rw[b0,aN] at hs;have hl1:=of_decide_eq_true b0;obtain⟨i1,ei,hs⟩:=bS hs;obtain⟨t,ej,hs⟩:=bS hs;refine Ix 111111111102220 (JB gl fi fa fc a (b+1) l1 i1 j) ?_ λkk=>?_;rotate_left
 .skip;refine pN (λq:Nat=>JB gl fi fa fc a (b+1) l1 q j) [1,1,1,1,1,1,1,1,1,0,2,2,2,0,2,2] ei [] [hc (rfl:l1.length=l1.length),hc hv.im,hc (ac.imm l1)] (λu q v hz n g=>?_) [] [(0,0)] [(0,.row)];unfold scU at hz;rcases bC hz with⟨b2,hz⟩|⟨b2,hz⟩
  .obtain⟨x,c,hz⟩:=bS hz;obtain⟨y,d,hz⟩:=bS hz;have hq:=(cr c).1;rcases bC hz with⟨b3,hz⟩|⟨b3,hz⟩
   .obtain rfl:=cP hz;exact jw [hr 107 b2,bR 112 (ac.ixrZ 0 (cQ c)),bR 113 (ac.pt0Z aW (cQ c)),bR 116 (ac.ixrZ 0 (cQ d)),bR 117 (ac.pt0Z aW (cQ d)),Mi 118 1 hv x y,hr 119 b3,hbb 122 (Xl (q:=q) aa)] [hc (rfl:l1.length=l1.length),hc hv.im,hc (ac.imm l1)] (n _ rfl) [] [(0,0)] [(0,.row)]
   .obtain rfl:=cP hz;obtain rfl:=g _ rfl;exact yl 111111111102220 [hr 107 b2,bR 112 (ac.ixrZ 0 (cQ c)),bR 113 (ac.pt0Z aW (cQ c)),bR 116 (ac.ixrZ 0 (cQ d)),bR 117 (ac.pt0Z aW (cQ d)),Mi 118 1 hv x y,hr 119 b3] [hc (rfl:l1.length=l1.length),hc hv.im,hc (ac.imm l1)] kk [] [(0,0)] [(0,.row)]
  .obtain rfl:=cP hz;obtain rfl:=g _ rfl;exact yl 111111111102220 [hr 107 b2] [hc (rfl:l1.length=l1.length),hc hv.im,hc (ac.imm l1)] kk [] [(0,0)] [(0,.row)]
 clear ei;refine Ix 1111111111022210 (JB gl fi fa fc a (b+1) l1 i1 t) ?_ λkk=>?_;rotate_left
 .skip;refine pN (λq:Nat=>JB gl fi fa fc a (b+1) l1 i1 q) [1,1,1,1,1,1,1,1,1,0,2,2,2,1,0,2,2] ej [] [hc (rfl:l1.length=l1.length),hc hv.im,hc (ac.imm l1)] (λu q v hz n g=>?_) [] [(0,0)] [(0,.row)];unfold scD at hz;rcases bC hz with⟨b2,hz⟩|⟨b2,hz⟩
  .obtain⟨x,c,hz⟩:=bS hz;obtain⟨y,d,hz⟩:=bS hz;have hq:=(cr c).1;rcases bC hz with⟨b3,hz⟩|⟨b3,hz⟩
   .obtain rfl:=cP hz;obtain rfl:=g _ rfl;exact yl 1111111111022210 [hr 125 b2,bR 130 (ac.ixrZ 0 (cQ c)),bR 131 (ac.pt0Z aW (cQ c)),bR 134 (ac.ixrZ 0 (cQ d)),bR 135 (ac.pt0Z aW (cQ d)),Mi 136 1 hv x y,hr 137 b3] [hc (rfl:l1.length=l1.length),hc hv.im,hc (ac.imm l1)] kk [] [(0,0)] [(0,.row)]
   .obtain⟨k,rfl,rfl⟩:=VC hz;exact jw [hr 125 b2,bR 130 (ac.ixrZ 0 (cQ c)),bR 131 (ac.pt0Z aW (cQ c)),bR 134 (ac.ixrZ 0 (cQ d)),bR 135 (ac.pt0Z aW (cQ d)),Mi 136 1 hv x y,hr 137 b3,hbb 141 (dec (q:=k) aa)] [hc (rfl:l1.length=l1.length),hc hv.im,hc (ac.imm l1)] (n _ rfl) [] [(0,0)] [(0,.row)]
  .obtain rfl:=cP hz;obtain rfl:=g _ rfl;exact yl 1111111111022210 [hr 125 b2] [hc (rfl:l1.length=l1.length),hc hv.im,hc (ac.imm l1)] kk [] [(0,0)] [(0,.row)]
 clear ej;rcases bC hs with⟨b1,hs⟩|⟨b1,hs⟩
 .obtain rfl:=cP hs;obtain rfl:=C _ rfl;obtain⟨x,y,hx,hy,e⟩:=mG A;exact mt .ret (s0 178 gl [(10,iG (t:Int)),(11,bG false)] [(0,dm r')] 1 1) [iG (t:Int),bG false] (hr 144 b1::hsw 169 173 175 176 hx hy e) [hc (ac.imm r')] (ρ:=[(0,0)]) (kd:=[(0,.row)])
 .obtain⟨hj,hs⟩:=kK hs;obtain⟨t,rfl⟩:=VB hj;rw[Nat.add_sub_cancel] at hs;obtain⟨l2,e2,hs⟩:=bS hs;obtain rfl:=cP hs;obtain⟨x,y,hx,hy,e2⟩:=mG e2;have hli:=(cr hx).1;have o:=(cr hy).1;have hl2:l1.length=l2.length:=by rw[e2];exact BA
  exact jw (hr 144 b1::hsw 151 155 157 158 hx hy e2++[hbb 160 (Xl (q:=i1) aa),hbb 162 (dec (q:=t) aa)]) [hc hl2,hc hv.im,hc (ac.imm l2)] (k5 _ rfl) [] [(0,0)] [(0,.row)]
end
def RnF(l:List G):Prop:=∀κ,l.map (qg κ 19)=l
abbrev VG(s:Nat):Option Ob:=some ⟨3,[iG (s:Int)],none⟩
def Xd(cmp:DIdent->DIdent->Int)(l:List DIdent)(a b s:Nat):Option (Nat×Nat×Nat):=(l[b]?).bind λy=>(l[a]?).bind λx=>bif decide (cmp y x<0) then some (b,a,s+1) else some (a,b,s)
def meS(cmp:DIdent->DIdent->Int)(l:List DIdent)(a b c s:Nat):Option (Nat×Nat):=(Xd cmp l a b s).bind λd=>(Xd cmp l d.2.1 c d.2.2).bind λe=>(Xd cmp l d.1 e.1 e.2.2).bind λf=>some (f.2.1,f.2.2)
def chS(cmp:DIdent->DIdent->Int)(l:List DIdent)(a:Nat):Option (Nat×Bool):=(meS cmp l (a+3) (a+6) (a+9) 0).bind λr=>bif decide (r.2<=3) then some (r.1,decide ((r.2:Int)=0)) else none
def scS(cmp:DIdent->DIdent->Int)(l:List DIdent)(b k:Nat):Option (Nat⊕Nat):=bif decide (((k+1:Nat):Int)<(b:Int)) then(l[k+1]?).bind λx=>(l[k]?).bind λy=>bif decide (cmp x y<0) then some (.inr k) else some (.inl (k+1)) else some (.inr k)
def piS(cmp:DIdent->DIdent->Int)(l:List DIdent)(a b:Nat):Option Bool:=(bo (scS cmp l b) a).bind λk=>some (decide (((k+1:Nat):Int)=(b:Int)))
section
variable {gl:List (Nat×List G)} {fi:FuncId} {fa fc:List G} {cmp:DIdent->DIdent->Int} (hv:CmV gl fi fa fc cmp)
include hv
theorem aas{a b u:Nat}(hs:s<1000)(h:Xd cmp l a b s=some (u,v,w)):jg prog gl 364 [.rsl 0 0 l.length,iG (a:Int),iG (b:Int),.ref 1 0,zz fi fa fc] [(0,dm l),(1,VG s)] 2 (.tup [iG (u:Int),iG (v:Int)]) [(0,dm l),(1,VG w)] 2:=by
 unfold Xd at h;obtain⟨y,hy,h⟩:=bS h;obtain⟨x,hx,h⟩:=bS h;refine pP func364 ?_;rcases bC h with⟨b1,h⟩|⟨b1,h⟩
 .simp only[gL,Prod.mk.injEq] at h;obtain⟨rfl,rfl,rfl⟩:=h;exact mt .ret (s0 32 gl [(10,iG (b:Int)),(11,iG (a:Int))] [(0,dm l),(1,VG (s+1))] 2 2) [iG (b:Int),iG (a:Int)] [bR 15 (ac.ixrZ 0 (cQ hy)),bR 16 (ac.pt0Z aW (cQ hy)),bR 19 (ac.ixrZ 0 (cQ hx)),bR 20 (ac.pt0Z aW (cQ hx)),Mi 21 2 hv y x,hr 22 b1,hbb 26 (Xl (q:=s) aa)] [hc (ac.imm l)] (ρ:=[(0,0),(1,1)]) (kd:=[(0,.row)])
 .simp only[gL,Prod.mk.injEq] at h;obtain⟨rfl,rfl,rfl⟩:=h;exact mt .ret (s0 32 gl [(10,iG (a:Int)),(11,iG (b:Int))] [(0,dm l),(1,VG s)] 2 2) [iG (a:Int),iG (b:Int)] [bR 15 (ac.ixrZ 0 (cQ hy)),bR 16 (ac.pt0Z aW (cQ hy)),bR 19 (ac.ixrZ 0 (cQ hx)),bR 20 (ac.pt0Z aW (cQ hx)),Mi 21 2 hv y x,hr 22 b1] [hc (ac.imm l)] (ρ:=[(0,0),(1,1)]) (kd:=[(0,.row)])
variable (ra:RnF fa) (rc:RnF fc)
include ra rc
theorem rn5{κ:Nat->Option Nat}{a b c d:G}{e f g h:G}(h1:qg κ 20 a=e)(h2:qg κ 20 b=f)(h3:qg κ 20 c=g)(h4:qg κ 20 d=h):[a,b,c,d,zz fi fa fc].map (qg κ 20)=[e,f,g,h,zz fi fa fc]:=by show[qg κ 20 a,qg κ 20 b,qg κ 20 c,qg κ 20 d,.clo (.func fi) (fa.map (qg κ 19)) (fc.map (qg κ 19))]=_;rw[h1,h2,h3,h4,ra κ,rc κ]
abbrev PJ(d:Nat){l:List DIdent}{a b s u v w:Nat}(hs:s<1000)(h:Xd cmp l a b s=some (u,v,w)):HP:=tN d [0,1] 2 [(0,dm l),(1,VG s)] [.rsl 0 0 l.length,iG (a:Int),iG (b:Int),.ref 1 0,zz fi fa fc] [(0,dm l),(1,VG w)] (aas hv hs h) ⟨⟨rfl,.inr ⟨rfl,ac.imm l⟩⟩,⟨rfl,.inl rfl⟩,trivial⟩ ⟨⟨rfl,.inr ⟨rfl,ac.imm l⟩⟩,⟨rfl,.inl rfl⟩,trivial⟩ (hgs:=rn5 hv ra rc rfl rfl rfl rfl)
theorem aeO{a b u:Nat}(h:Xd cmp l a b s=some (u,v,w)):w<=s+1/\((u=a/\v=b)\/(u=b/\v=a)):=by grind [Xd]
theorem acU{a b c m:Nat}(hs:s<100)(h:meS cmp l a b c s=some (m,w)):jg prog gl 355 [.rsl 0 0 l.length,iG (a:Int),iG (b:Int),iG (c:Int),.ref 1 0,zz fi fa fc] [(0,dm l),(1,VG s)] 2 (iG (m:Int)) [(0,dm l),(1,VG w)] 2:=by unfold meS at h;obtain⟨⟨u1,f,g⟩,e1,h⟩:=bS h;obtain⟨⟨i,j,k⟩,e2,h⟩:=bS h;obtain⟨⟨n,d,e⟩,e3,h⟩:=bS h;simp only[gL,Prod.mk.injEq] at h;obtain⟨rfl,rfl⟩:=h;have k1:=(aeO hv ra rc e1).1;have k2:=(aeO hv ra rc e2).1;dsimp only at e2 e3 k2;refine pP func355 ?_;exact mt .ret (s0 41 gl [(12,iG (d:Int))] [(0,dm l),(1,VG e)] 2 2) [iG (d:Int)] [PJ hv ra rc 19 aa e1,PJ hv ra rc 28 aa e2,PJ hv ra rc 37 aa e3] [hc (ac.imm l)] (ρ:=[(0,0),(1,1)]) (kd:=[(0,.row)])
def Big(a b:Nat):Prop:=(a=0/\b=13)\/(a=0/\b=14)\/(a=1/\b=14)
abbrev aeP(d:Nat){l:List DIdent}{a b c m w:Nat}(h:meS cmp l a b c 0=some (m,w)):HP:=tN d [0,1] 2 [(0,dm l),(1,VG 0)] [.rsl 0 0 l.length,iG (a:Int),iG (b:Int),iG (c:Int),.ref 1 0,zz fi fa fc] [(0,dm l),(1,VG w)] (acU hv ra rc dL h) ⟨⟨rfl,.inr ⟨rfl,ac.imm l⟩⟩,⟨rfl,.inl rfl⟩,trivial⟩ ⟨⟨rfl,.inr ⟨rfl,ac.imm l⟩⟩,⟨rfl,.inl rfl⟩,trivial⟩ (hgs:=congrArg (G.rsl 0 0 l.length::·) (rn5 hv ra rc rfl rfl rfl rfl))
theorem acV{l:List DIdent}{a b m:Nat}{f:Bool}(hB:Big a b)(h:chS cmp l a=some (m,f)):jg prog gl 324 [.rsl 0 0 l.length,iG (a:Int),iG (b:Int),zz fi fa fc] [(0,dm l)] 1 (.tup [iG (m:Int),iG (bif f then 1 else 0)]) [(0,dm l)] 1:=by
 unfold chS at h;obtain⟨⟨c,w⟩,e,h⟩:=bS h;obtain⟨hw,h⟩:=kK h;have hw:=of_decide_eq_true hw;dsimp only at hw;simp only[gL,Prod.mk.injEq] at h;obtain⟨rfl,rfl⟩:=h;have hn:decide ((w:Int)=12)=false:=decide_eq_false aa;refine pP func324 ?_;cases b1:decide ((w:Int)=0) with
 |true=>
  rcases hB with⟨rfl,rfl⟩|⟨rfl,rfl⟩|⟨rfl,rfl⟩
  all_goals exact mt .ret (s0 63 gl [(8,iG (c:Int)),(9,iG 1)] [(0,dm l)] 1 1) [iG (c:Int),iG 1] [aeP hv ra rc 54 e,hr 58 b1] [hc (ac.imm l)] (ρ:=[(0,0)]) (kd:=[(0,.row)])
 |false=>
  rcases hB with⟨rfl,rfl⟩|⟨rfl,rfl⟩|⟨rfl,rfl⟩
  all_goals exact mt .ret (s0 63 gl [(8,iG (c:Int)),(9,iG 0)] [(0,dm l)] 1 1) [iG (c:Int),iG 0] [aeP hv ra rc 54 e,hr 58 b1,hr 61 hn] [hc (ac.imm l)] (ρ:=[(0,0)]) (kd:=[(0,.row)])
omit ra rc
theorem acW{l:List DIdent}{a b:Nat}{f:Bool}(hl:l.length<=1000)(ha:a<1000)(hb:b<=1000)(i:b-a<50)(h:piS cmp l a b=some f):jg prog gl 326 [.rsl 0 0 l.length,iG (a:Int),iG (b:Int),zz fi fa fc] [(0,dm l)] 1 (bG f) [(0,dm l)] 1:=by
 unfold piS at h;obtain⟨k,ek,h⟩:=bS h;obtain rfl:=cP h;refine pP func326 ?_;refine pN (λ_:Unit=>(s0 141 gl [(0,.rsl 0 0 l.length),(1,iG (a:Int)),(2,iG (b:Int)),(3,zz fi fa fc),(9,iG ((a+1:Nat):Int)),(10,iG 0)] [(0,dm l)] 1 1)) 1110122 Lg [hbb 14 (Xl (q:=a) aa)] [hc (el l),hc hv.im,hc (ac.imm l)] (λB z w hz2 g d=>?_) [] [(0,0)] [(0,.row)];clear g d hz2;refine Ix 11101221020 (s0 141 gl [(0,.rsl 0 0 l.length),(1,iG (a:Int)),(2,iG (b:Int)),(3,zz fi fa fc),(9,iG ((k+1:Nat):Int)),(10,iG 0)] [(0,dm l)] 1 1) ?_ λkk=>?_;rotate_left
 .refine pN (λk:Nat=>(s0 141 gl [(0,.rsl 0 0 l.length),(1,iG (a:Int)),(2,iG (b:Int)),(3,zz fi fa fc),(9,iG ((k+1:Nat):Int)),(10,iG 0)] [(0,dm l)] 1 1)) 1110122102022 ek [] [hc (el l),hc hv.im,hc (ac.imm l)] (λj k v hz g d=>?_) [] [(0,0)] [(0,.row)];unfold scS at hz;rcases bC hz with⟨b2,hz⟩|⟨b2,hz⟩
  .obtain⟨x,c,hz⟩:=bS hz;obtain⟨y,e,hz⟩:=bS hz;have hq:=(cr c).1;rcases bC hz with⟨b3,hz⟩|⟨b3,hz⟩
   .obtain rfl:=cP hz;obtain rfl:=d _ rfl;exact yl 11101221020 [hr 21 b2,bR 26 (ac.ixrZ 0 (cQ c)),bR 27 (ac.pt0Z aW (cQ c)),hbb 30 (dec (q:=k) aa),bR 31 (ac.ixrZ 0 (cQ e)),bR 32 (ac.pt0Z aW (cQ e)),Mi 33 1 hv x y,hr 34 b3] [hc (el l),hc hv.im,hc (ac.imm l)] kk [] [(0,0)] [(0,.row)]
   .obtain rfl:=cP hz;exact jw [hr 21 b2,bR 26 (ac.ixrZ 0 (cQ c)),bR 27 (ac.pt0Z aW (cQ c)),hbb 30 (dec (q:=k) aa),bR 31 (ac.ixrZ 0 (cQ e)),bR 32 (ac.pt0Z aW (cQ e)),Mi 33 1 hv x y,hr 34 b3,hbb 38 (Xl (q:=k+1) aa)] [hc (el l),hc hv.im,hc (ac.imm l)] (g _ rfl) [] [(0,0)] [(0,.row)]
  .obtain rfl:=cP hz;obtain rfl:=d _ rfl;exact yl 11101221020 [hr 21 b2] [hc (el l),hc hv.im,hc (ac.imm l)] kk [] [(0,0)] [(0,.row)]
 clear ek;cases b1:decide (((k+1:Nat):Int)=(b:Int)) with
 |true=>exact mt .ret (s0 141 gl [(8,bG true)] [(0,dm l)] 1 1) [bG true] [hr 41 b1] [hc (ac.imm l)] (ρ:=[(0,0)]) (kd:=[(0,.row)])
 |false=>exact mt .ret (s0 141 gl [(8,bG false)] [(0,dm l)] 1 1) [bG false] [hr 41 b1,hbb 44 (sb (a:=(b:Int)) (b:=(a:Int)) (z:=(b:Int)-(a:Int)) rfl aa),hr 45 (show decide ((b:Int)-(a:Int)<50)=true from decide_eq_true aa)] [hc (ac.imm l)] (ρ:=[(0,0)]) (kd:=[(0,.row)])
omit hv
abbrev R4(s:Nat):Option Ob:=some ⟨340,[uG (s:Int)],none⟩
def Xf:Nat->Nat
 |0=>13
 |1=>14069506893
 |2=>14988908846326605643
 |_=>3428281591454193221
theorem JD(j:Nat)(h:j<3):jg prog gl 297 [.ref 0 0] [(0,R4 (Xf j))] 1 (uG (Xf (j+1):Int)) [(0,R4 (Xf (j+1)))] 1:=by
 refine pP func297 ?_;rcases(by omega:j=0\/j=1\/j=2) with rfl|rfl|rfl
 .exact mt .ret (s0 33 gl [(2,uG 14069506893)] [(0,R4 14069506893)] 1 1) [uG 14069506893] [] []
 .exact mt .ret (s0 33 gl [(2,uG 14988908846326605643)] [(0,R4 14988908846326605643)] 1 1) [uG 14988908846326605643] [] []
 .exact mt .ret (s0 33 gl [(2,uG 3428281591454193221)] [(0,R4 3428281591454193221)] 1 1) [uG 3428281591454193221] [] []
theorem acX:ba prog gl 296 [iG 13] (uG 16):=by have h:=RC gl (n:=13) dL;refine Gh func296 ?_;exact Ar [hf 5 h] []
end
theorem dJa{fn:Func}{Q:Exit->St->Prop}{Bs:List (St->Prop)}{m:Bool}{p:List Nat}(q:List Nat)(J:St)(kk:Gp P fn Q Bs false q J)(h:Gp P fn Q Bs false q J->Gp P fn Q Bs m p st):Gp P fn Q Bs m p st:=h kk
def brT(s:Nat×List DIdent):Option ((Nat×List DIdent)⊕List DIdent):=match s.1 with
 |0=>(PH s.2 6 1).bind λl=>some (.inl (1,l))
 |1=>(PH s.2 7 12).bind λl=>some (.inl (2,l))
 |2=>(PH s.2 8 6).bind λl=>some (.inl (3,l))
 |3=>some (.inr s.2)
 |_=>none
def brG(l:List DIdent)(a b c:Nat)(d:Bool):Option (List DIdent×Nat):=bif d then some (l,c) else bif Nat.beq a 1&&Nat.beq b 14 then(bo brT (0,l)).bind λr=>bif Nat.beq l.length r.length then some (r,c-1) else none else none
def agG(cmp:DIdent->DIdent->Int)(l:List DIdent)(a p:Nat):Option Bool:=bif Nat.blt 0 a then(l[a-1]?).bind λy=>(l[p]?).bind λx=>some (decide (cmp y x<0)) else some true
def aat(a b:Nat):Bool:=(Nat.beq a 0&&Nat.beq b 13)||((Nat.beq a 0&&Nat.beq b 14)||(Nat.beq a 1&&Nat.beq b 14))
theorem aaE{a b:Nat}(h:aat a b=true):Big a b:=by
 unfold aat at h;simp only[Bool.or_eq_true,bA] at h;rcases h with⟨h1,h2⟩|⟨h1,h2⟩|⟨h1,h2⟩
 .exact .inl ⟨bc h1,bc h2⟩
 .exact .inr (by grind [bc])
 .exact .inr (by grind [bc])
abbrev PdS:Type:=List DIdent×Nat×Nat×Nat×Bool×Bool
def pdN(cmp:DIdent->DIdent->Int)(a b c:Nat)(m:Nat)(f:Bool)(l:List DIdent):Option (PdS⊕List DIdent):=
 bif decide (a<=m/\m<b) then(bif decide ((m:Int)-(a:Int)<(b:Int)-(m:Int)) then(N7 cmp (a:Int) (m:Int) l).bind λl3=>bif Nat.beq l.length l3.length then some (.inl (l3,m+1,b,c,decide ((1:Int)<=(m:Int)-(a:Int)),f)) else none
  else(N7 cmp ((m+1:Nat):Int) (b:Int) l).bind λl3=>bif Nat.beq l.length l3.length then some (.inl (l3,a,m,c,decide ((1:Int)<=(b:Int)-(m:Int)),f)) else none) else none
def pdT(cmp:DIdent->DIdent->Int)(s:PdS):Option (PdS⊕List DIdent):=
 bif decide (s.1.length<=1000/\s.2.1<=100/\s.2.2.1<=100) then
 bif decide ((s.2.2.1:Int)-(s.2.1:Int)<=12) then(N7 cmp (s.2.1:Int) (s.2.2.1:Int) s.1).bind λr=>some (.inr r)
 else bif aat s.2.1 s.2.2.1&&(Nat.blt 0 s.2.2.2.1&&Nat.ble s.2.2.2.1 100) then
  (brG s.1 s.2.1 s.2.2.1 s.2.2.2.1 s.2.2.2.2.1).bind λq=>bif decide (q.1.length<=1000) then(chS cmp q.1 s.2.1).bind λc=>(bif s.2.2.2.2.1&&s.2.2.2.2.2&&c.2 then piS cmp q.1 s.2.1 s.2.2.1 else some false).bind λd=>bif d then some (.inr q.1) else
  (agG cmp q.1 s.2.1 c.1).bind λok=>bif ok then(paS cmp s.2.1 s.2.2.1 c.1 q.1).bind λr=>bif Nat.beq q.1.length r.2.2.length then pdN cmp s.2.1 s.2.2.1 q.2 r.1 r.2.1 r.2.2 else none else none else none
 else none else none
section
variable {gl:List (Nat×List G)} {fi:FuncId} {fa fc:List G} {cmp:DIdent->DIdent->Int} (hv:CmV gl fi fa fc cmp)
include hv
theorem acZ(h:bo brT (0,l)=some r):jg prog gl 323 [.rsl 0 0 l.length,iG 1,iG 14,zz fi fa fc] [(0,dm l)] 1 (.tup []) [(0,dm r)] 1:=by
 have hn:=acX (gl:=gl);have h0:=JD (gl:=gl) 0 dL;have h1:=JD (gl:=gl) 1 dL;have h2:=JD (gl:=gl) 2 dL;refine pP func323 ?_;refine pN (λs:Nat×List DIdent=>(s0 67 gl [(0,.rsl 0 0 s.2.length),(1,iG 1),(8,iG 13),(9,.ref 1 0),(10,uG 16),(11,iG ((6+s.1:Nat):Int))] [(0,dm s.2),(1,R4 (Xf s.1))] 2 1)) 111311122 h [hf 21 hn] [hc (el l),hc (ac.imm l)] (λB s w hs k5 a=>?_) [] [(0,0),(1,1)] [(0,.row)];obtain⟨j,l⟩:=s;unfold brT at hs;dsimp only at hs;split at hs
 .obtain⟨l1,e1,hs⟩:=bS hs;obtain rfl:=cP hs;obtain⟨x,y,hx,hy,e⟩:=mG e1;have hl:l.length=l1.length:=by rw[e];exact BA
  exact jw (tN 38 [1] 2 [(1,R4 (Xf 0))] [.ref 1 0] [(0,R4 (Xf 1))] h0 ⟨⟨rfl,.inl rfl⟩,trivial⟩ ⟨⟨rfl,.inl rfl⟩,trivial⟩::hsw 59 63 65 66 hx hy e) [hc hl,hc (ac.imm l1)] (k5 _ rfl) [] [(0,0),(1,1)] [(0,.row)]
 .obtain⟨l1,e1,hs⟩:=bS hs;obtain rfl:=cP hs;obtain⟨x,y,hx,hy,e⟩:=mG e1;have hl:l.length=l1.length:=by rw[e];exact BA
  exact jw (tN 38 [1] 2 [(1,R4 (Xf 1))] [.ref 1 0] [(0,R4 (Xf 2))] h1 ⟨⟨rfl,.inl rfl⟩,trivial⟩ ⟨⟨rfl,.inl rfl⟩,trivial⟩::hsw 59 63 65 66 hx hy e) [hc hl,hc (ac.imm l1)] (k5 _ rfl) [] [(0,0),(1,1)] [(0,.row)]
 .obtain⟨l1,e1,hs⟩:=bS hs;obtain rfl:=cP hs;obtain⟨x,y,hx,hy,e⟩:=mG e1;have hl:l.length=l1.length:=by rw[e];exact BA
  exact jw (tN 38 [1] 2 [(1,R4 (Xf 2))] [.ref 1 0] [(0,R4 (Xf 3))] h2 ⟨⟨rfl,.inl rfl⟩,trivial⟩ ⟨⟨rfl,.inl rfl⟩,trivial⟩::hsw 59 63 65 66 hx hy e) [hc hl,hc (ac.imm l1)] (k5 _ rfl) [] [(0,0),(1,1)] [(0,.row)]
 .obtain rfl:=cP hs;obtain rfl:=a _ rfl;exact mt .normal (s0 67 gl [] [(0,dm l)] 1 1) [] [] [hc (ac.imm l)] (ρ:=[(0,0)]) (kd:=[(0,.row)])
 .cases hs
variable (ra:RnF fa) (rc:RnF fc)
include ra rc
theorem rnA{κ:Nat->Option Nat}{x y:G}(h1:qg κ 20 x=y)(h:L.map (qg κ 20)=L):(x::(L++[zz fi fa fc])).map (qg κ 20)=y::(L++[zz fi fa fc]):=by rw[List.map_cons,List.map_append,h1,h];show y::(L++[.clo (.func fi) (fa.map (qg κ 19)) (fc.map (qg κ 19))])=_;rw[ra κ,rc κ]
abbrev hI(d:Nat)(L:List G){f:FuncId}{l r:List DIdent}{res:G}(hM:jg prog gl f (.rsl 0 0 l.length::(L++[zz fi fa fc])) [(0,dm l)] 1 res [(0,dm r)] 1)(hL:L.map (qg (vi [0]) 20)=L):HP:=tN d [0] 1 [(0,dm l)] (.rsl 0 0 l.length::(L++[zz fi fa fc])) [(0,dm r)] hM ⟨⟨rfl,.inr ⟨rfl,ac.imm l⟩⟩,trivial⟩ ⟨⟨rfl,.inr ⟨rfl,ac.imm r⟩⟩,trivial⟩ (hgs:=rnA hv ra rc rfl hL)
omit hv ra rc in
theorem mcL{f:FuncId}{res:G}{n:Nat}(e:n=l.length)(hM:jg prog gl f (.rsl 0 0 l.length::L) [(0,dm l)] 1 res [(0,dm r)] 1):jg prog gl f (.rsl 0 0 n::L) [(0,dm l)] 1 res [(0,dm r)] 1:=e▸hM
abbrev hI2(d:Nat)(L:List G){f:FuncId}{l r:List DIdent}{res:G}{n:Nat}(e:n=l.length)(hM:jg prog gl f (.rsl 0 0 l.length::(L++[zz fi fa fc])) [(0,dm l)] 1 res [(0,dm r)] 1)(hL:L.map (qg (vi [0]) 20)=L):HP:=tN d [0] 1 [(0,dm l)] (.rsl 0 0 n::(L++[zz fi fa fc])) [(0,dm r)] (mcL e hM) ⟨⟨rfl,.inr ⟨rfl,ac.imm l⟩⟩,trivial⟩ ⟨⟨rfl,.inr ⟨rfl,ac.imm r⟩⟩,trivial⟩ (hgs:=rnA hv ra rc rfl hL)
theorem xQ{a b:Nat}(ha:a<=1000)(hb:b<=1000)(c:(b:Int)-(a:Int)<=12)(h:N7 cmp (a:Int) (b:Int) l=some r)(k:Int):jg prog gl 261 [.rsl 0 0 l.length,iG (a:Int),iG (b:Int),iG k,zz fi fa fc] [(0,dm l)] 1 (.tup []) [(0,dm r)] 1:=by have hs:=sb (a:=(b:Int)) (b:=(a:Int)) (z:=(b:Int)-(a:Int)) rfl aa;have hd:=decide_eq_true c;refine pP func261 ?_;refine pN (λ_:Unit=>(s0 148 gl [(0,.rsl 0 0 l.length),(1,iG (a:Int)),(2,iG (b:Int)),(3,iG k),(4,zz fi fa fc)] [(0,dm l)] 1 1)) 11122 Lg [] [hc (el l),hc hv.im,hc (ac.imm l)] (λd z v hz2 e f=>?_) [] [(0,0)] [(0,.row)];exact mt .ret (s0 148 gl [] [(0,dm r)] 1 1) [] [hbb 23 hs,hr 25 hd,hI hv ra rc 30 [iG (a:Int),iG (b:Int)] (PG hv h) rfl] [hc (ac.imm r)] (ρ:=[(0,0)]) (kd:=[(0,.row)])
abbrev agD(gl:List (Nat×List G))(fi:FuncId)(fa fc:List G)(s:PdS):St:=(s0 148 gl [(0,.rsl 0 0 s.1.length),(1,iG (s.2.1:Int)),(2,iG (s.2.2.1:Int)),(3,iG (s.2.2.2.1:Int)),(4,zz fi fa fc),(10,bG s.2.2.2.2.1),(11,bG s.2.2.2.2.2)] [(0,dm s.1)] 1 1)
theorem ac0{s:PdS}(h:bo (pdT cmp) s=some r)(h1:s.2.2.2.2=(true,true)):jg prog gl 261 [.rsl 0 0 s.1.length,iG (s.2.1:Int),iG (s.2.2.1:Int),iG (s.2.2.2.1:Int),zz fi fa fc] [(0,dm s.1)] 1 (.tup []) [(0,dm r)] 1:=by
 refine pP func261 ?_;obtain⟨l,a,b,g,j,par⟩:=s;obtain⟨rfl,rfl⟩:=Prod.mk.inj h1;clear h1;refine pN (agD gl fi fa fc) [1,1,2,2] h [] [hc (el l),hc hv.im,hc (ac.imm l)] (λB s w hs k5 D=>?_) [] [(0,0)] [(0,.row)];clear h l a b g;obtain⟨l,a,b,g,j,par⟩:=s;unfold pdT at hs;dsimp only at hs;obtain⟨hg,hs⟩:=kK hs;obtain⟨hl,ha,hb⟩:=of_decide_eq_true hg;have o:=sb (a:=(b:Int)) (b:=(a:Int)) (z:=(b:Int)-(a:Int)) rfl aa;rcases bC hs with⟨b1,hs⟩|⟨b1,hs⟩
 .obtain⟨r',C,hs⟩:=bS hs;obtain rfl:=cP hs;obtain rfl:=D _ rfl;exact mt .ret (s0 148 gl [] [(0,dm r')] 1 1) [] [hbb 23 o,hr 25 b1,hI hv ra rc 30 [iG (a:Int),iG (b:Int)] (PG hv C) rfl] [hc (ac.imm r')] (ρ:=[(0,0)]) (kd:=[(0,.row)])
 obtain⟨v,hs⟩:=kK hs;simp only[bA] at v;obtain⟨hB,hl1,hl2⟩:=v;have hB:=aaE hB;have hlim:0<g:=gX hl1;have hlim2:g<=100:=gX hl2;clear hl1 hl2;obtain⟨⟨l1,c⟩,k,hs⟩:=bS hs;dsimp only at hs;obtain⟨A,hs⟩:=kK hs;have hll:=of_decide_eq_true A;obtain⟨⟨p,Xl⟩,E,hs⟩:=bS hs;dsimp only at hs;obtain⟨d,u,hs⟩:=bS hs;refine dJa [1,1,2,2,2,1,1,1,1,0] (s0 148 gl [(0,.rsl 0 0 l1.length),(1,iG (a:Int)),(2,iG (b:Int)),(3,iG (c:Int)),(4,zz fi fa fc),(10,bG j),(11,bG par),(12,iG ((b:Int)-(a:Int)))] [(0,dm l1)] 1 1) ?_ λkk=>?_;rotate_left
 .have hn0:decide ((g:Int)=0)=false:=decide_eq_false aa;unfold brG at k;cases j with
  |true=>obtain⟨rfl,rfl⟩:=Prod.mk.inj (cP k);exact pO 11122211110 _ [hbb 23 o,hr 25 b1,hr 32 hn0] [hc (el l),hc hv.im,hc (ac.imm l)] kk [] [(0,0)] [(0,.row)]
  |false=>obtain⟨t,k⟩:=kK k;rw[bA] at t;obtain rfl:=bc t.1;obtain rfl:=bc t.2;obtain⟨r',C,k⟩:=bS k;obtain⟨hle,k⟩:=kK k;have hle:=bc hle;obtain⟨q,rfl⟩:∃q,g=q+1:=⟨g-1,aa⟩;rw[Nat.add_sub_cancel] at k;obtain⟨rfl,rfl⟩:=Prod.mk.inj (cP k);exact pO 11122211110 _ [hbb 23 o,hr 25 b1,hr 32 hn0,hI hv ra rc 44 [iG 1,iG 14] (acZ hv C) rfl,hbb 46 (dec (q:=q) aa)] [hc hle,hc hv.im,hc (ac.imm r')] kk [] [(0,0)] [(0,.row)]
 clear k b1 o hlim hlim2;have i:=acV hv ra rc (b:=b) hB E;have hpi:=λe=>acW hv (l:=l1) (a:=a) (b:=b) (f:=d) hll aa aa (by rcases hB with⟨rfl,rfl⟩|⟨rfl,rfl⟩|⟨rfl,rfl⟩<;>decide) e;cases d with
 |true=>
  obtain rfl:=cP hs;obtain rfl:=D _ rfl;cases j with
  |false=>cases u
  |true=>cases par with
   |false=>cases u
   |true=>cases Xl with
    |false=>cases u
    |true=>
     have hpi:=hpi u
     exact mt .ret (s0 148 gl [] [(0,dm l1)] 1 1) [] [hI hv ra rc 52 [iG (a:Int),iG (b:Int)] i rfl,hI hv ra rc 80 [iG (a:Int),iG (b:Int)] hpi rfl] [hc (ac.imm l1)] (ρ:=[(0,0)]) (kd:=[(0,.row)])
 |false=>
 refine dJa [1,1,2,2,2,1,1,1,1,1,1,1,0,0] (s0 148 gl [(0,.rsl 0 0 l1.length),(1,iG (a:Int)),(2,iG (b:Int)),(3,iG (c:Int)),(4,zz fi fa fc),(12,iG ((b:Int)-(a:Int))),(13,iG (p:Int))] [(0,dm l1)] 1 1) ?_ λkk=>?_;rotate_left
 .cases j with
  |false=>cases par<;>cases Xl<;>exact pO 111222111111100 _ [hI hv ra rc 52 [iG (a:Int),iG (b:Int)] i rfl] [hc (el l1),hc hv.im,hc (ac.imm l1)] kk [] [(0,0)] [(0,.row)]
  |true=>cases par with
   |false=>cases Xl<;>exact pO 111222111111100 _ [hI hv ra rc 52 [iG (a:Int),iG (b:Int)] i rfl] [hc (el l1),hc hv.im,hc (ac.imm l1)] kk [] [(0,0)] [(0,.row)]
   |true=>cases Xl with
    |false=>exact pO 111222111111100 _ [hI hv ra rc 52 [iG (a:Int),iG (b:Int)] i rfl] [hc (el l1),hc hv.im,hc (ac.imm l1)] kk [] [(0,0)] [(0,.row)]
    |true=>
     have hpi:=hpi u
     exact pO 111222111111100 _ [hI hv ra rc 52 [iG (a:Int),iG (b:Int)] i rfl,hI hv ra rc 80 [iG (a:Int),iG (b:Int)] hpi rfl] [hc (el l1),hc hv.im,hc (ac.imm l1)] kk [] [(0,0)] [(0,.row)]
 clear i hpi u E;rw[cG] at hs;obtain⟨ok,n,hs⟩:=bS hs;rcases hB with⟨rfl,rfl⟩|⟨rfl,rfl⟩|⟨rfl,rfl⟩
 .clear n;obtain⟨hok,hs⟩:=kK hs;subst hok;obtain⟨⟨m,f,l2⟩,ep,hs⟩:=bS hs;dsimp only at hs;obtain⟨h2,hs⟩:=kK hs;have h2:=bc h2;unfold pdN at hs;obtain⟨hm,hs⟩:=kK hs;have hm:=of_decide_eq_true hm;rcases bC hs with⟨b2,hs⟩|⟨b2,hs⟩
  .have b3:=of_decide_eq_true b2;obtain⟨l3,e3,hs⟩:=bS hs;obtain⟨h3,hs⟩:=kK hs;have h3:=h2.trans (bc h3);obtain rfl:=cP hs;exact jw [hI hv ra rc 111 [iG ((0:Nat):Int),iG ((13:Nat):Int),iG (p:Int)] (xH hv hll aa aa aa ep) rfl,hbb 117 (sb (a:=(m:Int)) (b:=((0:Nat):Int)) (z:=(m:Int)-((0:Nat):Int)) rfl aa),hbb 120 (sb (a:=((13:Nat):Int)) (b:=(m:Int)) (z:=((13:Nat):Int)-(m:Int)) rfl aa),hr 125 b2,hI2 hv ra rc 134 [iG ((0:Nat):Int),iG (m:Int),iG (c:Int)] h2 (xQ hv ra rc aa aa aa e3 (c:Int)) rfl,hbb 136 (Go.Proofs.YtaiecngnppbhlaaGreatDoor.Xl (q:=m) aa)] [hc h3,hc hv.im,hc (ac.imm l3)] (k5 _ rfl) [] [(0,0)] [(0,.row)]
  .have b3:=of_decide_eq_false b2;obtain⟨l3,e3,hs⟩:=bS hs;obtain⟨h3,hs⟩:=kK hs;have h3:=h2.trans (bc h3);obtain rfl:=cP hs;exact jw [hI hv ra rc 111 [iG ((0:Nat):Int),iG ((13:Nat):Int),iG (p:Int)] (xH hv hll aa aa aa ep) rfl,hbb 117 (sb (a:=(m:Int)) (b:=((0:Nat):Int)) (z:=(m:Int)-((0:Nat):Int)) rfl aa),hbb 120 (sb (a:=((13:Nat):Int)) (b:=(m:Int)) (z:=((13:Nat):Int)-(m:Int)) rfl aa),hr 125 b2,hbb 142 (Go.Proofs.YtaiecngnppbhlaaGreatDoor.Xl (q:=m) aa),hI2 hv ra rc 146 [iG ((m+1:Nat):Int),iG ((13:Nat):Int),iG (c:Int)] h2 (xQ hv ra rc aa aa aa e3 (c:Int)) rfl] [hc h3,hc hv.im,hc (ac.imm l3)] (k5 _ rfl) [] [(0,0)] [(0,.row)]
 .clear n;obtain⟨hok,hs⟩:=kK hs;subst hok;obtain⟨⟨m,f,l2⟩,ep,hs⟩:=bS hs;dsimp only at hs;obtain⟨h2,hs⟩:=kK hs;have h2:=bc h2;unfold pdN at hs;obtain⟨hm,hs⟩:=kK hs;have hm:=of_decide_eq_true hm;rcases bC hs with⟨b2,hs⟩|⟨b2,hs⟩
  .have b3:=of_decide_eq_true b2;obtain⟨l3,e3,hs⟩:=bS hs;obtain⟨h3,hs⟩:=kK hs;have h3:=h2.trans (bc h3);obtain rfl:=cP hs;exact jw [hI hv ra rc 111 [iG ((0:Nat):Int),iG ((14:Nat):Int),iG (p:Int)] (xH hv hll aa aa aa ep) rfl,hbb 117 (sb (a:=(m:Int)) (b:=((0:Nat):Int)) (z:=(m:Int)-((0:Nat):Int)) rfl aa),hbb 120 (sb (a:=((14:Nat):Int)) (b:=(m:Int)) (z:=((14:Nat):Int)-(m:Int)) rfl aa),hr 125 b2,hI2 hv ra rc 134 [iG ((0:Nat):Int),iG (m:Int),iG (c:Int)] h2 (xQ hv ra rc aa aa aa e3 (c:Int)) rfl,hbb 136 (Go.Proofs.YtaiecngnppbhlaaGreatDoor.Xl (q:=m) aa)] [hc h3,hc hv.im,hc (ac.imm l3)] (k5 _ rfl) [] [(0,0)] [(0,.row)]
  .have b3:=of_decide_eq_false b2;obtain⟨l3,e3,hs⟩:=bS hs;obtain⟨h3,hs⟩:=kK hs;have h3:=h2.trans (bc h3);obtain rfl:=cP hs;exact jw [hI hv ra rc 111 [iG ((0:Nat):Int),iG ((14:Nat):Int),iG (p:Int)] (xH hv hll aa aa aa ep) rfl,hbb 117 (sb (a:=(m:Int)) (b:=((0:Nat):Int)) (z:=(m:Int)-((0:Nat):Int)) rfl aa),hbb 120 (sb (a:=((14:Nat):Int)) (b:=(m:Int)) (z:=((14:Nat):Int)-(m:Int)) rfl aa),hr 125 b2,hbb 142 (Go.Proofs.YtaiecngnppbhlaaGreatDoor.Xl (q:=m) aa),hI2 hv ra rc 146 [iG ((m+1:Nat):Int),iG ((14:Nat):Int),iG (c:Int)] h2 (xQ hv ra rc aa aa aa e3 (c:Int)) rfl] [hc h3,hc hv.im,hc (ac.imm l3)] (k5 _ rfl) [] [(0,0)] [(0,.row)]
 .obtain⟨y,hy,n⟩:=bS (show((l1[0]?).bind λy=>(l1[p]?).bind λx=>some (decide (cmp y x<0)))=some ok from n);obtain⟨x,hx,n⟩:=bS n;have n:=cP n;obtain⟨hok,hs⟩:=kK hs;subst hok;obtain⟨⟨m,f,l2⟩,ep,hs⟩:=bS hs;dsimp only at hs;obtain⟨h2,hs⟩:=kK hs;have h2:=bc h2;unfold pdN at hs;obtain⟨hm,hs⟩:=kK hs;have hm:=of_decide_eq_true hm;rcases bC hs with⟨b2,hs⟩|⟨b2,hs⟩
  .have b3:=of_decide_eq_true b2;obtain⟨l3,e3,hs⟩:=bS hs;obtain⟨h3,hs⟩:=kK hs;have h3:=h2.trans (bc h3);obtain rfl:=cP hs;exact jw [bR 88 (ac.ixrZ 0 (cQ hy)),bR 89 (ac.pt0Z aW (cQ hy)),bR 92 (ac.ixrZ 0 (cQ hx)),bR 93 (ac.pt0Z aW (cQ hx)),Mi 94 1 hv y x,hr 95 n,hI hv ra rc 111 [iG ((1:Nat):Int),iG ((14:Nat):Int),iG (p:Int)] (xH hv hll aa aa aa ep) rfl,hbb 117 (sb (a:=(m:Int)) (b:=((1:Nat):Int)) (z:=(m:Int)-((1:Nat):Int)) rfl aa),hbb 120 (sb (a:=((14:Nat):Int)) (b:=(m:Int)) (z:=((14:Nat):Int)-(m:Int)) rfl aa),hr 125 b2,hI2 hv ra rc 134 [iG ((1:Nat):Int),iG (m:Int),iG (c:Int)] h2 (xQ hv ra rc aa aa aa e3 (c:Int)) rfl,hbb 136 (Go.Proofs.YtaiecngnppbhlaaGreatDoor.Xl (q:=m) aa)] [hc h3,hc hv.im,hc (ac.imm l3)] (k5 _ rfl) [] [(0,0)] [(0,.row)]
  .have b3:=of_decide_eq_false b2;obtain⟨l3,e3,hs⟩:=bS hs;obtain⟨h3,hs⟩:=kK hs;have h3:=h2.trans (bc h3);obtain rfl:=cP hs;exact jw [bR 88 (ac.ixrZ 0 (cQ hy)),bR 89 (ac.pt0Z aW (cQ hy)),bR 92 (ac.ixrZ 0 (cQ hx)),bR 93 (ac.pt0Z aW (cQ hx)),Mi 94 1 hv y x,hr 95 n,hI hv ra rc 111 [iG ((1:Nat):Int),iG ((14:Nat):Int),iG (p:Int)] (xH hv hll aa aa aa ep) rfl,hbb 117 (sb (a:=(m:Int)) (b:=((1:Nat):Int)) (z:=(m:Int)-((1:Nat):Int)) rfl aa),hbb 120 (sb (a:=((14:Nat):Int)) (b:=(m:Int)) (z:=((14:Nat):Int)-(m:Int)) rfl aa),hr 125 b2,hbb 142 (Go.Proofs.YtaiecngnppbhlaaGreatDoor.Xl (q:=m) aa),hI2 hv ra rc 146 [iG ((m+1:Nat):Int),iG ((14:Nat):Int),iG (c:Int)] h2 (xQ hv ra rc aa aa aa e3 (c:Int)) rfl] [hc h3,hc hv.im,hc (ac.imm l3)] (k5 _ rfl) [] [(0,0)] [(0,.row)]
end
end Go.Proofs.YtaiecngnppbhlaaGreatDoor
