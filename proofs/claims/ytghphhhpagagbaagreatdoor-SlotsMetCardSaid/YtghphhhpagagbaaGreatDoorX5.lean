/- Texts. -/
import Derived.LaidHandle
import Derived.LaidMore
import Derived.OpenShut
import Derived.ProofKit
import Derived.Test.YtghphhhpagagbaaGreatDoorRows
import Derived.Test.YtghphhhpagagbaaGreatDoorJF
namespace Go.Proofs.YtghphhhpagagbaaGreatDoor
set_option linter.unusedSectionVars false
set_option linter.unusedVariables false
set_option linter.unusedSimpArgs false
open Go.RowKit Go.Proofs.Tryz Go.ChangeShapes Go.WideShapes Go.ChangeAt
variable {base g i:Nat}{P:Program}{W w:World}{t:TypeId}{v:Value}
section
variable {P:Bu} [M:Mix P] {st:St} {Q:Exit->St->Prop} {fn:Func} {Bs:List (St->Prop)} {p:Br}
theorem R2{ops:Array Oper}{K:St->Prop}{cx:Cx}{R:Exit->Act->World->Prop}(l2:HA)(hK:∀st a w,K st->mh P cx st a w->wpListIn cx.F cx.nn P ops R l2 a w):∀(l:HA) (st:St) (a:Act) (w:World),D8 P ops K l st->mh P cx st a w->wpListIn cx.F cx.nn P ops R (l++l2) a w
 |[],st,a,w,h,r=>hK st a w h r
 |o::rest,st,a,w,h,r=>by
  obtain⟨β,rb⟩:=r;rcases h with⟨hg,c,hs,hr⟩|⟨hg,hd,hr⟩
  .refine wpListIn_step λK' b=>?_;rw[Bz (cT rb hg)];exact hs cx a w K' R ⟨β,rb⟩ λa' w' r'=>b _ _ (R2 l2 hK rest c a' w' hr r')
  .refine wpListIn_step λK' b=>?_;rw[BB (by rw[cT rb hg];simp)];exact⟨λf _=>rb.loose.fn f,b _ _ (R2 l2 hK rest _ _ w hr ⟨β,rb.put o.dst hd (.imm _ _ (.lit _))⟩)⟩
def cuR(P:Bu)(hs a:List Hn)(c:Code)(k:Nat)(J b st:St):Option (Prop×Br×JQ×St×Prop×Br×JQ×St):=match c with
 | .region _ ops false=>match qd P ops hs (ops.toList.take k) st with
  |some (C,u,s1)=>match Iw P [] [] [] J s1 with
   |some (L,s2)=>match qd P ops a (ops.toList.drop k) s2 with
    |some (d,e,s3)=>match Iw P [] [] [] b s3 with
     |some (f,g)=>some (C,u,L,s2,d,e,f,g)
     |none=>none
    |none=>none
   |none=>none
  |none=>none
 |_=>none
def ku1(x:Option (Prop×Br×JQ×St×Prop×Br×JQ×St)):Br:=match x with|some (_,u,_)=>u|none=>[0]
def ku2(x:Option (Prop×Br×JQ×St×Prop×Br×JQ×St)):Br:=match x with|some (_,_,_,_,_,u,_)=>u|none=>[0]
theorem dCu(k:Nat)(J b:St)(A c O f:List HP)(kk:Gp P fn Q Bs true p b)(h1:qe A (ku1 (cuR P (bK A) (bK c) (bq p (ai fn)) k J b st))=true:=by kernel_rfl)(h2:qe c (ku2 (cuR P (bK A) (bK c) (bq p (ai fn)) k J b st))=true:=by kernel_rfl)(e:cuR P (bK A) (bK c) (bq p (ai fn)) k J b st=some (psU A (ku1 (cuR P (bK A) (bK c) (bq p (ai fn)) k J b st)),ku1 (cuR P (bK A) (bK c) (bq p (ai fn)) k J b st),pR O,J,psU c (ku2 (cuR P (bK A) (bK c) (bq p (ai fn)) k J b st)),ku2 (cuR P (bK A) (bK c) (bq p (ai fn)) k J b st),pR f,b):=by kernel_rfl):Gp P fn Q Bs false p st:=by
 have c1:=kA h1;have c2:=kA h2;generalize ku1 _=u1 at c1 e;generalize ku2 _=h at c2 e;generalize psU A u1=n at c1 e;generalize psU c h=o at c2 e;show Tr P (bq p (ai fn)) st (dz P (bE p (ai fn) Bs []) Q);unfold cuR at e;split at e;rotate_left
 .cases e
 rename_i id ops hc;split at e;rotate_left
 .cases e
 rename_i s1 i;split at e;rotate_left
 .cases e
 rename_i s2 d;split at e;rotate_left
 .cases e
 rename_i s3 j;split at e;rotate_left
 .cases e
 rename_i t r4;cases e;rw[hc];have q1:=Mz i c1;have l:=Mz j c2;have l1:=sR d (wR O);have l2:=sR r4 (wR f);have ho:ops=(ops.toList.take k++ops.toList.drop k).toArray:=aC;generalize ops.toList.take k=x at*;generalize ops.toList.drop k=y at*;subst ho;exact λcx a w R r m=>wpIn_region_lit (R2 y (λs a' w' hs r'=>xK (λst' a2 g q d=>m .normal b a2 g kk (l2 cx a2 g (by rw[<-q];exact d))) y _ a' w' l (l1 cx a' w' (by rw[<-hs];exact r'))) x st a w q1 r)
end
def nzs:Nat->G->G->G
 |0,g,_=>g
 |n+1,g,t=>match g,t with
  | .lit (.slice none 0 0),.sl _ _=> .sl [] 0
  | .sl l m,.sl l' _=>bif Nat.beq l.length l'.length then .sl (OX (nzs n) l l') m else g
  | .agg l,.agg l'=>bif Nat.beq l.length l'.length then .agg (OX (nzs n) l l') else g
  |_,_=>g
theorem Acg{S:Fu}{w:World}:∀(n:Nat) (g t:G) (v:Value),IV S w g v->IV S w (nzs n g t) v
 |0,g,t,v,h=>h
 |n+1,g,t,v,h=>by
  unfold nzs;split
  .cases h;exact .sl [] 0 none 0 (λ_=>undef) (Dq _) (Nat.zero_le _) aC aC aC
  .rename_i l m d _;cases hb:Nat.beq l.length d.length with
   |false=>exact h
   |true=>
    have hl:=bc hb;cases h with
    |sl _ _ a cap us hn hm ha h1 hr=>refine .sl _ _ a cap us hn hm (by grind [Sx]) (by grind [Sx]) λi e hg=>?_;obtain⟨g,c,b,rfl⟩:=sS _ _ hl i e hg;exact Acg n g c _ (hr i g b)
  .rename_i l d;cases hb:Nat.beq l.length d.length with
   |false=>exact h
   |true=>
    have hl:=bc hb;cases h with
    |agg _ us h2 h1 hr=>refine .agg _ us (by grind [Sx]) h1 λi e u hg hu=>?_;obtain⟨g,c,b,rfl⟩:=sS _ _ hl i e hg;exact Acg n g c u (by grind)
  .exact h
theorem Ajg{P:Bu}{gl:CO}{f:FuncId}{r:G}{ts:Bn}(gs:Bn)(h:ba P gl f ts r)(hl:gs.length=ts.length:=by rfl)(e:OX (nzs 20) gs ts=ts:=by kernel_rfl):ba P gl f gs r:=λw S vs hS hG hsz a=>by refine h w S vs hS hG aa λi g u hg hu=>?_;grind [sS,Acg]
section
attribute [local irreducible] Tr dz Gp
def HD:Md:=(ql [1,2]).getD []
theorem AdP:ql [1,2]=some HD:=aH
theorem YZ:HD.all KK=true:=aH
theorem R3:HD.length=2:=aH
theorem Ach:xf HD:=OM aH
theorem Am2:HD.map (·.Device)=[1,2]:=aH
attribute [irreducible] HD
theorem wf0{cs:Md}(hl:cs.length<=1000)(hc:cs.all KK=true):Fs ⟨cs,[],[],[],[]⟩ where
 nL:=aC
 nI:=rfl
 nU:=rfl
 nN:=rfl
 nC:=hl
 cards:=λc h=>by have h:=Gd.1 hc c h;unfold KK at h;have:=DP h;unfold c8 fS;omega
 up:=λi u h=>by simp at h
 rows:=λi r h=>by simp at h
 inlt:=λi k h=>by simp[QN] at h
 ops:=λi o h=>by simp at h
 ids:=λi o id h=>by simp at h
 nd:=aC
 one:=λi k u h=>by simp at h
 tr:=λi j k u h=>by simp[QN] at h
 la:=λi k h=>by simp[QN] at h
def oL:Bq:=⟨1,1,1,0,[],0,0,0,0,[⟨77,[]⟩],⟨0,0,0⟩,0,[],[],⟨0,0,0⟩,[],0,0,[],0,[],⟨0,0⟩⟩
theorem Aij:Be oL:=by
 constructor<;>simp[oL,c8,fS]
 .exact⟨by unfold fS;decide,aC,aC⟩
 all_goals exact⟨by unfold c8;decide,by unfold c8;decide,by unfold fS;decide⟩
def oX:Bq:=(nR oL).getD oL
theorem Aik:nR oL=some oX:=aH
def rL:Ba×Int:=(AO ⟨HD,[],[],[],[]⟩ oX).getD (⟨[],[],[],[],[]⟩,1)
theorem Ail:AO ⟨HD,[],[],[],[]⟩ oX=some rL:=aH
theorem Ak4:rL.2=0:=aH
theorem Ak5:qo rL.1 oX=some [1]:=aH
attribute [irreducible] rL oX
theorem Ag8:∃(c:Nat->JN) (N:JL) (x:Ab),rL.1.L=[oX]/\rL.1.IDs=[x]/\rL.1.Cards=HD/\pV oX=some x/\Abf rL.1 c N/\Pg rL.1 (c 1) N:=by
 obtain⟨v,e,s,rfl,h1,h2⟩:=Io Aij;have e:=A9 (Aik.symm.trans e);have so:Be oX:=e▸Aij.sig s;have hs:fS oX.Sig.S:=by rw[e];exact h2
 have w0:=wf0 (cs:=HD) (by rw[R3];decide) YZ;obtain⟨v,ev,w,ha⟩:=QG w0 so hs;obtain rfl:=A9 (Ail.symm.trans ev);rcases ha with⟨h,_⟩|⟨x,up,row,_,a,hid,hrow,hg⟩
 .exact absurd Ak4 h
 have gr:LS ⟨HD,[],[],[],[]⟩ rL.1:=hg▸ .step .base w0 so (by rw[e];exact h1) hs a hid hrow;obtain⟨c,N,b,_,h3,h4⟩:=OL gr rfl rfl Ach;have hL:rL.1.L=[oX]:=by rw[hg];rfl
 rw[hL] at h4;exact⟨c,N,x,hL,by rw[hg];rfl,b,hid,h3,Ae9 w h4 gr rfl (by rw[b,R3];decide) (b▸YZ) (by rw[b,Am2];decide)⟩
abbrev oR1:aQ:=[ob 0 3 [iG 1],ob 1 22 [.rsl 0 0 1]]
theorem Ae8:jg prog fI 15 [aE Jc [[1]],.rsl 1 0 1] oR1 2 (bG true) oR1 2:=by
 refine pP func15 ?_;refine pN (λk:Nat=>(s0 27 fI [(0,aE Jc [[1]]),(1,.rsl 1 0 1),(5,iG (k:Int))] oR1 2 2)) 1110122 (DV (n:=1) Cd) [] [hc (rfl:1=1),hc (rfl:1=1)] (λB k w hs k5 a=>?_) [] [(0,0),(1,1)] [(9,.row)];unfold Ja at hs;split at hs
 .rename_i hlt;obtain rfl:k=0:=aa;obtain rfl:=A9 hs;exact jw [hq 25 [aE cZ [1],aE cZ [1]] [hc (rZ.al [1])] (UT (gl:=fI) (l:=[1]) Cd)] [hc (rfl:1=1),hc (rfl:1=1)] (k5 _ rfl) [] [(0,0),(1,1)] [(9,.row)]
 .split at hs
  .rename_i he;subst he;exact Ju .ret (s0 27 fI [(4,bG true)] oR1 2 2) [bG true] [] [hc (rfl:1=1)] (ρ:=[(0,0),(1,1)]) (kd:=[(9,.row)])
  .cases hs
abbrev frL(x:Ab)(g:G)(r:Fr):St:=(s0 97 fI ([(1,.ptr (aI rL.1) 0),(2,.ptr (aJ oX) 0),(4,g),(5,.ptr (aj x) 0)]++r) [] 0 0)
abbrev oG2:aQ:=[ob 0 33 (aI ⟨HD,[],[],[],[]⟩)]
theorem O8:ba prog fI 19 [] (bG true):=by
 obtain⟨a,N,x,hL,d,g,hid,hR,P⟩:=Ag8;have w:=P.w;have hof:=ZC hR;have hnl:=P.p.len;rw[hL] at hof hnl;have hnl:N.length=1:=hnl;obtain⟨y,rfl⟩:∃y,N=[y]:=List.length_eq_one_iff.1 hnl;have hy:=(P.p.nd 0 y rfl).2.1;rw[d] at hy;obtain rfl:x=y.id:=A9 hy;have so:=(w.ops 0 oX (by rw[hL];rfl)).1;have hb:=Nr so hid;have hk:oX.Kind=1:=aH;have hBy:oX.By=1:=aH;have h14:rL.1.L.length<=14:=by rw[hL];decide
 have k1:Kn oX:=λh=>by rw[hk] at h;cases h
 have hkn:∀(k:Nat) (o:Bq),rL.1.L[k]?=some o->Kn o:=λk o h=>by rw[hL] at h;cases List.mem_singleton.1 (bO h);exact k1
 obtain⟨_,_,_,b,e,_⟩:=Ac0 P h14 so k1 (by rw[hk];decide);rw[Ak5] at e;obtain⟨j,f⟩:=P.op (i:=0) (o:=oX) (x:=y.id) (by rw[hL];rfl) (by rw[d];rfl);have es:M4 rL.1 oX=[[1]]:=by unfold M4;rw[<-A9 e,hk,hBy];kernel_rfl
 rw[<-A9 e] at b;obtain⟨al,hA,hp,hi,hd⟩:=AeS P h14;rw[d] at hp;obtain rfl:=List.perm_singleton.1 hp;obtain⟨row,c1,_,c2,_,c3⟩:=Pw P h14 hkn hi hd;obtain rfl:=List.perm_singleton.1 c2;have hcm:TD rL.1 (CA rL.1 (a 1) [y]) y.id=true:=by unfold TD;rw[f,es];kernel_rfl
 have h1:=UR P h14 hkn c3 c1 (set:=[1]) Cd;have h2:=UR P h14 hkn c3 c1 (set:=[2]) Cd;have h3:=Abc P h14 hkn y.id;rw[f,es] at h3;obtain⟨c,c4⟩:∃c,HD[1]?=some c:=⟨_,DQ (by rw[R3];decide)⟩;have hB1:y.id.By=1:=hb.1.trans hBy;have kc:(CA rL.1 (a 1) [y]).card 2=some c:=by show rL.1.Cards.find? _=_;rw[g];exact(show HD.find? (λc=>decide (c.Device=2))=HD[1]? by kernel_rfl).trans c4
 have kp:UB (CA rL.1 (a 1) [y]) y.id 0=77:=by unfold UB;rw[f];kernel_rfl
 rw[List.filter_cons_of_pos hcm,List.filter_nil,show OP (CA rL.1 (a 1) [y]) (λx=>M4 rL.1 ((CA rL.1 (a 1) [y]).o x)) [y.id] [1]=some ⟨[1],77,y.id,0⟩ by simp[OP,SF,LB,hB1,kp]] at h1;rw[List.filter_cons_of_pos hcm,List.filter_nil,show OP (CA rL.1 (a 1) [y]) (λx=>M4 rL.1 ((CA rL.1 (a 1) [y]).o x)) [y.id] [2]=some ⟨[2],c.Lead,⟨0,0,0⟩,0⟩ by simp[OP,SF,LB,hB1,kc]] at h2;simp only[Ag,RJ] at hA b h1 h2 h3;change jg _ _ _ _ _ _ _ [(0,oG rL.1.Cards 1 2),(1,oM (a 1)),(2,zQ [y])] 3 at hof;have c5:Bt rL.1.Cards 1=some c:=by rw[g];exact c4
 generalize a 1=m at*;refine Gh func19 ?_;refine pO [1,0] (s0 97 fI [] [] 0 0) [] [] ?_;refine dCu 1 (s0 97 fI [(11,aE cZ [1,2])] [] 0 0) (s0 97 fI [(1,.ref 0 0)] oG2 1 0) [] [hf 12 (bT.fo (GQ fI AdP)),hf 13 (M8 fI (cards:=HD) rfl)] [hc (rZ.al [1,2])] [] ?_;refine pO 1110 (s0 97 fI [(1,.ref 0 0)] oG2 1 0) [] [] ?_;refine dCu 2 (s0 97 fI [(1,.ref 0 0),(15,.sl [uG 77,Iy] 1)] oG2 1 0) (s0 97 fI [(1,.ref 0 0),(2,.ptr (aJ oX) 0)] oG2 1 0) [] [hf 17 (Ajg [.agg ((bF [4,14,15,19,22,24] (aJ oL)).set 9 (.sl [uG 77,Iy] 1))] (E8 fI Aik))] [hc (p:=[uG 77,Iy].length=1*2/\(∀x∈[uG 77,Iy],bB x)/\1=1) ⟨rfl,eB aH,rfl⟩] [hc (eB (gs:=aJ oX) aH)] ?_;refine pO 11111100 (s0 97 fI [(1,.ptr (aI rL.1) 0),(2,.ptr (aJ oX) 0),(3,iG rL.2),(4,Z8 rL.1.Cards m [y])] [] 0 0) [hf 21 (M9 fI Ail),tN 25 [] 1 [] [.agg (aI rL.1)] [ob 0 111 [aE bv rL.1.Cards,.mref 2,.rsl 3 0 1],(1,oM m),(2,zQ [y])] hof trivial ⟨⟨rfl,.inl rfl⟩,⟨rfl,rfl,rfl,rfl,.inr ⟨rfl,cf _⟩⟩,⟨rfl,.inr ⟨rfl,az.imm _⟩⟩,trivial⟩] [hc (eB (gs:=aI rL.1) aH),hc (cf m),hc (az.al [y]),hc (eB (gs:=[aE bv rL.1.Cards,gMp m,aE d7 [y]]) aH)] ?_;refine pO 111111110 (frL y.id (Z8 rL.1.Cards m [y]) []) [hr 30 (show decide (rL.2≠0)=false by rw[Ak4];rfl),hf 33 (AI fI hid)] [hc (eB (gs:=aj y.id) aH)] ?_;refine dCu 4 (frL y.id (Z8 rL.1.Cards m [y]) [(35,Z8 rL.1.Cards m [y]),(37,aE aj [y.id]),(38,aE cZ [1])]) (frL y.id (Z8 rL.1.Cards m [y]) [(6,.ptr (Hd ⟨[1],77,y.id,0⟩) 0),(7,bG true)]) [hf 37 hA] [hf 39 h1] [hc (rZ.al [1])] [hc (eB (gs:=Hd ⟨[1],77,y.id,0⟩) aH)] ?_;refine pO 1111111110 (frL y.id (Z8 rL.1.Cards m [y]) [(6,.ptr (Hd ⟨[1],77,y.id,0⟩) 0),(7,bG true)]) [] [] ?_;refine dCu 4 (frL y.id (Z8 rL.1.Cards m [y]) [(6,.ptr (Hd ⟨[1],77,y.id,0⟩) 0),(7,bG true),(43,Z8 rL.1.Cards m [y]),(45,aE aj [y.id]),(46,aE cZ [2])]) (frL y.id (Z8 rL.1.Cards m [y]) [(6,.ptr (Hd ⟨[1],77,y.id,0⟩) 0),(7,bG true),(8,.ptr (Hd ⟨[2],c.Lead,⟨0,0,0⟩,0⟩) 0),(9,bG true)]) [hf 45 hA] [hf 47 h2] [hc (rZ.al [2])] [hc (eB (gs:=Hd ⟨[2],c.Lead,⟨0,0,0⟩,0⟩) aH)] ?_;exact Ar [hf 52 h3,hV 66 (dU (r:=true) y.id y.id aC),AA 73 (bT.ixZ c5),AA 75 (bT.fdZ tW 2 c5),hr 76 (show decide ((c.Lead:Int)=(c.Lead:Int))=true by simp),hV 82 (dU (r:=true) ⟨0,0,0⟩ ⟨0,0,0⟩ aC),hmc 88 [0,1] 3 oR1 [aE Jc [[1]],.rsl 1 0 1] [(0,⟨3,[iG 1],none⟩),(1,⟨22,[.rsl 0 0 1],none⟩)] Ae8 ⟨⟨rfl,.inl rfl⟩,⟨rfl,.inl rfl⟩,trivial⟩ ⟨⟨rfl,.inl rfl⟩,⟨rfl,.inl rfl⟩,trivial⟩,hf 93 b,hq 95 [aE cZ [1],aE cZ [1]] [hc (rZ.al [1])] (UT (gl:=fI) (l:=[1]) Cd)] []
end
abbrev JS:List (String×DataW Unit):=[("huddle/roll.asks",Rows.laid_huddle_roll_asks),("huddle/op.kinds",Rows.laid_huddle_op_kinds)]
theorem Y8:Tryz.prog.globalNamed "huddle/roll.asks" =some 0:=aH
theorem WB:Tryz.prog.globalNamed "huddle/op.kinds" =some 1:=aH
theorem Y9:(Tryz.prog.globals[0]?).map (·.type)=some 197:=aH
theorem WC:(Tryz.prog.globals[1]?).map (·.type)=some 253:=aH
theorem AdH{α:Type}{l:List α}{v:α}(h:l[i]?=some v):(l.drop (i*1)).take 1=[v]:=by rw[Nat.mul_one];obtain⟨hi,rfl⟩:=cr h;rw[List.drop_eq_getElem_cons hi];rfl
theorem IL{sp:Nat->Bool}{fuel:Nat}{ps rs:Array TypeId}{va:Bool}{q:List MemPlace}(ht:P.underlying t=some (.func ps rs va))
  (h:DataW.trod (funcToken P) P w base sp true fuel t [v]=some (.nil,q)):v= .nilFunc:=by
 cases fuel with
 |zero=>simp[DataW.trod] at h
 |succ n=>cases v<;>simp[DataW.trod,ht] at h;rfl
theorem zo{H:Type}{enc:TypeId×Value->H}{sp:Nat->Bool}{a:Bool}{fuel n:Nat}{e:TypeId}{cs:Array Value}{ds:List (DataW H)}{p:List MemPlace}{nm:String}(ht:P.underlying t=some (.array n e))(hc:P.cellsOf e=1)(hn:P.cellsOf t=n)
  (hg:P.globalNamed nm=some g) (hv:w.var? P nm=some cs) (h:DataW.trod enc P w base sp a fuel t cs.toList=some (.agg ds,p)):∀i,i<n->∃v d m q,w.cell? ⟨g,i,none⟩=some v/\ds[i]?=some d/\DataW.trod enc P w base sp a m e [v]=some (d,q):=by
 obtain⟨xs,m,_,hx,hl,hlen,b⟩:=DataW.trod_array ht h
 simp only[Ge,DataW.agg.injEq] at hx
 intro i hi
 have hsz:cs.size=n:=by rw[<-hn,<-hl];simp
 have hcell:=World.var?_cell hg hv i
 have hci:cs[i]?=some (cs[i]'aa):=Array.getElem?_eq_getElem aa
 have hli:cs.toList[i]?=some (cs[i]'aa):=by rw[Array.getElem?_toList];exact hci
 have:=b i hi
 rw[hc,AdH hli] at this
 have hxi:xs[i]?=some (xs[i]'aa):=DQ aa
 rw[hxi] at this
 refine⟨_,(xs[i]'aa).1,m,(xs[i]'aa).2,hcell.trans hci,?_,this⟩
 rw[hx.1,LQ,hxi]
 rfl
theorem ML(h:W.cell? ⟨g,i,none⟩=some v):g<W.heap.size:=by
 rcases HR g W.heap.size with h'|h'
 .exact h'
 .unfold World.cell? at h;simp[Array.getElem?_eq_none h'] at h
def IM:G->Value
 | .lit v=>v
 | .clo fn _ _=> .func fn #[] #[]
 |_=> .nilFunc
theorem WD{S:Nat->Prop}{g:G}(h:(∃v,g= .lit v)\/∃n,g= .clo (.func n) [] []):IV S W g (IM g):=by
 rcases h with⟨v,rfl⟩|⟨n,rfl⟩
 .exact .lit v
 .exact .clo _ [] [] #[] #[] rfl rfl aC aC
theorem MM{l:List G}(h0:g<W.heap.size)(hc:∀i x,l[i]?=some x->W.cell? ⟨g,i,none⟩=some (IM x))(hg:∀x∈l,((∃k z,x= .lit (.int k z))\/x= .lit .nilFunc)\/∃n,x= .clo (.func n) [] []):IV (λ_=>False) W (.ptr l 0) (.pointer (some ⟨g,0,none⟩)):=by
 have e:(⟨g,0,none⟩:Addr)=⟨g,0+0,none⟩:=rfl;refine .ptr l 0 g 0 (λi=>IM (l.getD i .junk)) (λh=>h) h0 (λi hi=>?_) (λi hi=>?_) (λi x hx=>?_)
 .rw[Nat.zero_add];refine hc i _ ?_;rw[List.getD_eq_getElem?_getD,DQ hi];rfl
 .have hx:l[i]?=some (l[i]'hi):=DQ hi;rw[List.getD_eq_getElem?_getD,hx];rcases hg _ (bO hx) with(⟨k,z,h⟩|h)|⟨n,h⟩<;>(simp only[Ng];rw[h];rfl)
 .rw[List.getD_eq_getElem?_getD,hx];simp only[Ng];refine WD ?_;rcases hg _ (bO hx) with(⟨k,z,h⟩|h)|⟨n,h⟩
  .exact .inl ⟨_,h⟩
  .exact .inl ⟨_,h⟩
  .exact .inr ⟨n,h⟩
theorem Ov(h:laidMetH Tryz.prog JS W):IV (λ_=>False) W (.ptr (nG.flatMap cZ) 0) (.pointer (some ⟨1,0,none⟩)):=by
 have hm:laidMet Tryz.prog [("huddle/op.kinds",Rows.laid_huddle_op_kinds)] W:=h.1;obtain⟨ps,⟨g1,e,c,f1,f,q1,a,b,hv1,hd1,_,_⟩,_,_⟩:=hm;obtain rfl:=A9 (WB.symm.trans a);obtain rfl:=A9 (WC.symm.trans b);have hcells:=zo (n:=14) Tryz.underlying253 aH aH a hv1 hd1;have key:∀i x,(nG.flatMap cZ)[i]?=some x->W.cell? ⟨1,i,none⟩=some (IM x):=by
  intro i x hx;have hi:i<14:=(cr hx).1;obtain⟨v,d,m,q,hc,hd,hr⟩:=hcells i hi;obtain⟨k,e1,e2,_⟩:=DataW.trod_int Tryz.underlying3 hr;simp only[Ge] at e2;rw[hc];simp only[List.cons.injEq,and_true] at e1;rw[e1];rw[e2.1] at hd;match i,hi with
  |0,_|1,_|2,_|3,_|4,_|5,_|6,_|7,_|8,_|9,_|10,_|11,_|12,_|13,_=>cases hd;cases hx;rfl
 refine MM (ML (key 0 _ rfl)) key λx hx=> .inl (.inl ?_);obtain⟨z,_,hz⟩:=List.mem_flatMap.1 hx;cases List.mem_singleton.1 hz;exact⟨_,_,rfl⟩
noncomputable abbrev fby(l:List UInt8):List Nat:=(List.range Tryz.prog.funcs.size).filter λf=>(Tryz.prog.funcs[f]?).any (·.name.toUTF8.data.toList==l)
theorem aaJ:fby [104,117,100,100,108,101,47,114,111,108,108,46,97,115,107,115,36,49]=[406]:=aH
theorem aaK:fby [104,117,100,100,108,101,47,114,111,108,108,46,97,115,107,115,36,50]=[408]:=aH
theorem aaL:fby [104,117,100,100,108,101,47,114,111,108,108,46,97,115,107,115,36,51]=[409]:=aH
theorem aaM:fby [104,117,100,100,108,101,47,114,111,108,108,46,97,115,107,115,36,52]=[410]:=aH
theorem aaN:fby [104,117,100,100,108,101,47,114,111,108,108,46,97,115,107,115,36,53]=[411]:=aH
theorem aaO:fby [104,117,100,100,108,101,47,114,111,108,108,46,97,115,107,115,36,54]=[412]:=aH
theorem aaP:fby [40,42,104,117,100,100,108,101,47,114,111,108,108,46,82,111,108,108,41,46,111,119,110]=[414]:=aH
theorem aaQ:fby [104,117,100,100,108,101,47,114,111,108,108,46,97,115,107,115,36,55]=[415]:=aH
theorem aaR:fby [104,117,100,100,108,101,47,114,111,108,108,46,97,115,107,115,36,56]=[416]:=aH
theorem Rc(h:laidMetH Tryz.prog JS W):IV (λ_=>False) W (.ptr IU 0) (.pointer (some ⟨0,0,none⟩)):=by
 obtain⟨g,t,cs,fuel,p,hg,ht,hv,a⟩:=h.funcs (List.mem_cons_self ..);obtain rfl:=A9 (Y8.symm.trans hg);obtain rfl:=A9 (Y9.symm.trans ht);have hd1:DataW.trod (funcToken Tryz.prog) Tryz.prog W 0 (λ_=>true) true fuel 197 cs.toList=some (.agg [.nil,.nil,.held [104,117,100,100,108,101,47,114,111,108,108,46,97,115,107,115,36,49],.held [104,117,100,100,108,101,47,114,111,108,108,46,97,115,107,115,36,50],.nil,.held [104,117,100,100,108,101,47,114,111,108,108,46,97,115,107,115,36,51],.held [104,117,100,100,108,101,47,114,111,108,108,46,97,115,107,115,36,52],.nil,.held [104,117,100,100,108,101,47,114,111,108,108,46,97,115,107,115,36,53],.held [104,117,100,100,108,101,47,114,111,108,108,46,97,115,107,115,36,54],.held [40,42,104,117,100,100,108,101,47,114,111,108,108,46,82,111,108,108,41,46,111,119,110],.held [104,117,100,100,108,101,47,114,111,108,108,46,97,115,107,115,36,55],.held [40,42,104,117,100,100,108,101,47,114,111,108,108,46,82,111,108,108,41,46,111,119,110],.held [104,117,100,100,108,101,47,114,111,108,108,46,97,115,107,115,36,56]],p):=a;have hcells:=zo (n:=14) Tryz.underlying197 aH aH hg hv hd1;have key:∀i x,IU[i]?=some x->W.cell? ⟨0,i,none⟩=some (IM x):=by
  intro i x hx;have hi:i<14:=(cr hx).1;obtain⟨v,d,m,q,hc,hd,hr⟩:=hcells i hi;match i,hi with
  |0,_|1,_|2,_|3,_|4,_|5,_|6,_|7,_|8,_|9,_|10,_|11,_|12,_|13,_=>
   cases hd;cases hx;rw[hc];first
    |(rw[IL Tryz.underlying196 hr];rfl)
    |(rw[func_of_trod (f0:=406) Tryz.underlying196 aaJ hr];rfl)
    |(rw[func_of_trod (f0:=408) Tryz.underlying196 aaK hr];rfl)
    |(rw[func_of_trod (f0:=409) Tryz.underlying196 aaL hr];rfl)
    |(rw[func_of_trod (f0:=410) Tryz.underlying196 aaM hr];rfl)
    |(rw[func_of_trod (f0:=411) Tryz.underlying196 aaN hr];rfl)
    |(rw[func_of_trod (f0:=412) Tryz.underlying196 aaO hr];rfl)
    |(rw[func_of_trod (f0:=414) Tryz.underlying196 aaP hr];rfl)
    |(rw[func_of_trod (f0:=415) Tryz.underlying196 aaQ hr];rfl)
    |(rw[func_of_trod (f0:=416) Tryz.underlying196 aaR hr];rfl)
 refine MM (ML (key 0 _ rfl)) key λx hx=>?_;simp only[IU,EA,K4,or_false] at hx;rcases hx with rfl|rfl|rfl|rfl|rfl|rfl|rfl|rfl|rfl|rfl|rfl|rfl|rfl|rfl<;>first|exact .inl (.inr rfl)|exact .inr ⟨_,rfl⟩
theorem TK(h:laidMetH Tryz.prog JS W):Gls fI (λ_=>False) W:=by
 intro g l hl;simp only[fI,List.lookup_cons] at hl;split at hl
 .rename_i e;cases hl;obtain rfl:=eq_of_beq e;exact Ov h
 .split at hl
  .rename_i e;cases hl;obtain rfl:=eq_of_beq e;exact Rc h
  .cases hl
end Go.Proofs.YtghphhhpagagbaaGreatDoor
