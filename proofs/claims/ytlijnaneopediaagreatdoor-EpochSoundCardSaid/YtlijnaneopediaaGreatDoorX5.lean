/- Texts. -/
import Derived.LaidHandle
import Derived.LaidMore
import Derived.OpenShut
import Derived.ProofKit
import Derived.Test.YtlijnaneopediaaGreatDoorRows
import Derived.Test.YtlijnaneopediaaGreatDoorW6
namespace Go.Proofs.YtlijnaneopediaaGreatDoor
set_option linter.unusedSectionVars false
set_option linter.unusedVariables false
set_option linter.unusedSimpArgs false
open Go.RowKit Go.Proofs.Tryz Go.ChangeShapes Go.WideShapes Go.ChangeAt
variable {base g i:Nat}{P:Program}{W w:World}{t:TypeId}{v:Value}
section
variable {P:Br} [M:Mix P] {st:St} {Q:Exit->St->Prop} {fn:Func} {Bs:List (St->Prop)} {p:Bq}
end
section
attribute [local irreducible] Tr dz Gp
def Aiy:Bool:=match N9 [] 14 with
 |none=>false
 |some r=>match r.IDs with
  |[]=>false
  |x::_=>decide (N8 r [x]=some (x,true))&&(decide (N8 r []=some (⟨0,0,0⟩,false))&&decide (LQ r x=some [1]))
theorem Ae0:Aiy=true:=aH
theorem Oa:ba prog fI 20 [] (bG true):=by
 obtain⟨r,m,N,e,P,a,ne,hgr,hC,hM⟩:=Np (l:=[]) aC aC;have hM:=Acd e hM;have w:=P.w;have nI:=w.nI;have hkn:=AdQ w;have hB:=Ae0;unfold Aiy at hB;rw[e] at hB;dsimp only at hB;obtain⟨x,rest,hx⟩:∃x t,r.IDs=x::t:=by
  cases h:r.IDs with
  |nil=>rw[h] at nI;exact absurd (List.length_eq_zero_iff.1 nI.symm) ne
  |cons x t=>exact⟨x,t,rfl⟩
 rw[hx] at hB;dsimp only at hB;simp only[bA,decide_eq_true_eq] at hB;obtain⟨b1,b2,b3⟩:=hB;have hxm:x∈r.IDs:=by rw[hx];simp
 obtain⟨cs,R,D,q,_,_,_,_,_,_,f,_,_,_,_,g⟩:=Acc P a hkn (v:=[x]) ⟨by simpa using hxm,aC⟩ aC;obtain rfl:=Bo (b1.symm.trans f);have n1:=(g [x] (.refl _)).2.2.2;obtain⟨j,R',D',k,_,_,_,_,_,_,c,_,_,_,_,d⟩:=Acc P a hkn (v:=[]) ⟨aC,aC⟩ aC;obtain rfl:=Bo (b2.symm.trans c);have n2:=UY [.ptr (Ag ⟨r.Cards,m,N⟩) 0,Iy] (d [] (.refl _)).2.2.2;obtain⟨i,b,_⟩:=Aa7 P a hkn hxm;obtain hd:=Bo (b3.symm.trans i);rw[<-hd] at b;have b:=rZ.fo b;have hz:aS r.IDs 0=some x:=by rw[hx];rfl
 simp only[Ag,RJ] at n1 n2 b;refine Gh func20 ?_;refine pO 11100 (s0 56 fI [(1,Z8 r.Cards m N),(2,.ptr (aI r) 0)] [] 0 0) [tN 9 [] 0 [] [Iy] [ob 0 105 [aE bv r.Cards,.mref 1,.rsl 2 0 N.length],(1,oM m),(2,zQ N)] hM trivial ⟨⟨rfl,.inl rfl⟩,⟨rfl,rfl,rfl,rfl,.inr ⟨rfl,cf _⟩⟩,⟨rfl,.inr ⟨rfl,az.imm _⟩⟩,trivial⟩] [hc (cf m),hc (az.al N),hc (eB (gs:=[aE bv r.Cards,gMp m,aE d7 N]) aH),hc (eB (gs:=aI r) aH)] ?_;refine pO 111110 (s0 56 fI [(1,Z8 r.Cards m N),(2,.ptr (aI r) 0),(3,aE aj [x])] [] 0 0) [hr 18 (show decide ((r.IDs.length:Int)=0)=false by rw[hx];exact C5 cq),Az 22 (ac.ixZ hz),Az 23 (ac.ptZ aW hz)] [hc (ac.al [x])] ?_;refine pO 1111110 (s0 56 fI [(1,Z8 r.Cards m N),(2,.ptr (aI r) 0),(4,.ptr (aj x) 0),(5,bG true)] [] 0 0) [hf 28 n1] [hc (eB (gs:=aj x) aH)] ?_;refine pO 11111110 (s0 56 fI [(1,Z8 r.Cards m N),(2,.ptr (aI r) 0),(4,.ptr (aj x) 0),(5,bG true),(7,bG false)] [] 0 0) [hf 33 n2] [] ?_;exact Ar [Az 41 (ac.ixZ hz),Az 42 (ac.ptZ aW hz),hV 43 (dU (r:=true) x x aC),hf 52 b,hq 54 [aE cZ [1],aE cZ [1]] [hc (rZ.al [1])] (Vm (gl:=fI) (l:=[1]) B5)] []
end
abbrev Hv:List (String×DataW Unit):=[("huddle/roll.asks",Rows.laid_huddle_roll_asks),("huddle/op.kinds",Rows.laid_huddle_op_kinds)]
theorem Y8:Tryz.prog.globalNamed "huddle/roll.asks" =some 1:=aH
theorem WB:Tryz.prog.globalNamed "huddle/op.kinds" =some 0:=aH
theorem Y9:(Tryz.prog.globals[1]?).map (·.type)=some 269:=aH
theorem WC:(Tryz.prog.globals[0]?).map (·.type)=some 213:=aH
theorem Ad2{α:Type}{l:List α}{v:α}(h:l[i]?=some v):(l.drop (i*1)).take 1=[v]:=by rw[Nat.mul_one];obtain⟨hi,rfl⟩:=cr h;rw[List.drop_eq_getElem_cons hi];rfl
theorem IL{sp:Nat->Bool}{fuel:Nat}{ps rs:Array TypeId}{va:Bool}{q:List MemPlace}(ht:P.underlying t=some (.func ps rs va))
  (h:DataW.trod (funcToken P) P w base sp true fuel t [v]=some (.nil,q)):v= .nilFunc:=by
 cases fuel with
 |zero=>simp[DataW.trod] at h
 |succ n=>cases v<;>simp[DataW.trod,ht] at h;rfl
theorem zo{H:Type}{enc:TypeId×Value->H}{sp:Nat->Bool}{a:Bool}{fuel n:Nat}{e:TypeId}{cs:Array Value}{ds:List (DataW H)}{p:List MemPlace}{nm:String}(ht:P.underlying t=some (.array n e))(hc:P.cellsOf e=1)(hn:P.cellsOf t=n)
  (hg:P.globalNamed nm=some g) (hv:w.var? P nm=some cs) (h:DataW.trod enc P w base sp a fuel t cs.toList=some (.agg ds,p)):∀i,i<n->∃v d m q,w.cell? ⟨g,i,none⟩=some v/\ds[i]?=some d/\DataW.trod enc P w base sp a m e [v]=some (d,q):=by
 obtain⟨xs,m,_,hx,hl,hlen,b⟩:=DataW.trod_array ht h
 simp only[Fw,DataW.agg.injEq] at hx
 intro i hi
 have hsz:cs.size=n:=by rw[<-hn,<-hl];simp
 have hcell:=World.var?_cell hg hv i
 have hci:cs[i]?=some (cs[i]'aa):=Array.getElem?_eq_getElem aa
 have hli:cs.toList[i]?=some (cs[i]'aa):=by rw[Array.getElem?_toList];exact hci
 have:=b i hi
 rw[hc,Ad2 hli] at this
 have hxi:xs[i]?=some (xs[i]'aa):=EH aa
 rw[hxi] at this
 refine⟨_,(xs[i]'aa).1,m,(xs[i]'aa).2,hcell.trans hci,?_,this⟩
 rw[hx.1,LO,hxi]
 rfl
theorem ML(h:W.cell? ⟨g,i,none⟩=some v):g<W.heap.size:=by
 rcases It g W.heap.size with h'|h'
 .exact h'
 .unfold World.cell? at h;simp[Array.getElem?_eq_none h'] at h
def IM:G->Value
 | .lit v=>v
 | .clo fn _ _=> .func fn #[] #[]
 |_=> .nilFunc
theorem WD{S:Nat->Prop}{g:G}(h:(∃v,g= .lit v)\/∃n,g= .clo (.func n) [] []):IV S W g (IM g):=by
 rcases h with⟨v,rfl⟩|⟨n,rfl⟩
 .exact .lit v
 .exact .clo _ [] [] #[] #[] rfl rfl aC aC
theorem MM{l:List G}(h0:g<W.heap.size)(hc:∀i x,l[i]?=some x->W.cell? ⟨g,i,none⟩=some (IM x))(hg:∀x∈l,((∃k z,x= .lit (.int k z))\/x= .lit .nilFunc)\/∃n,x= .clo (.func n) [] []):IV (λ_=>False) W (.ptr l 0) (.pointer (some ⟨g,0,none⟩)):=by
 have e:(⟨g,0,none⟩:Addr)=⟨g,0+0,none⟩:=rfl;refine .ptr l 0 g 0 (λi=>IM (l.getD i .junk)) (λh=>h) h0 (λi hi=>?_) (λi hi=>?_) (λi x hx=>?_)
 .rw[Nat.zero_add];refine hc i _ ?_;rw[List.getD_eq_getElem?_getD,EH hi];rfl
 .have hx:l[i]?=some (l[i]'hi):=EH hi;rw[List.getD_eq_getElem?_getD,hx];rcases hg _ (bO hx) with(⟨k,z,h⟩|h)|⟨n,h⟩<;>(simp only[MZ];rw[h];rfl)
 .rw[List.getD_eq_getElem?_getD,hx];simp only[MZ];refine WD ?_;rcases hg _ (bO hx) with(⟨k,z,h⟩|h)|⟨n,h⟩
  .exact .inl ⟨_,h⟩
  .exact .inl ⟨_,h⟩
  .exact .inr ⟨n,h⟩
theorem Ov(h:laidMetH Tryz.prog Hv W):IV (λ_=>False) W (.ptr (nG.flatMap cZ) 0) (.pointer (some ⟨0,0,none⟩)):=by
 have hm:laidMet Tryz.prog [("huddle/op.kinds",Rows.laid_huddle_op_kinds)] W:=h.1;obtain⟨ps,⟨g1,e,c,f1,f,q1,a,b,hv1,hd1,_,_⟩,_,_⟩:=hm;obtain rfl:=Bo (WB.symm.trans a);obtain rfl:=Bo (WC.symm.trans b);have hcells:=zo (n:=14) Tryz.underlying213 aH aH a hv1 hd1;have key:∀i x,(nG.flatMap cZ)[i]?=some x->W.cell? ⟨0,i,none⟩=some (IM x):=by
  intro i x hx;have hi:i<14:=(cr hx).1;obtain⟨v,d,m,q,hc,hd,hr⟩:=hcells i hi;obtain⟨k,e1,e2,_⟩:=DataW.trod_int Tryz.underlying3 hr;simp only[Fw] at e2;rw[hc];simp only[List.cons.injEq,and_true] at e1;rw[e1];rw[e2.1] at hd;match i,hi with
  |0,_|1,_|2,_|3,_|4,_|5,_|6,_|7,_|8,_|9,_|10,_|11,_|12,_|13,_=>cases hd;cases hx;rfl
 refine MM (ML (key 0 _ rfl)) key λx hx=> .inl (.inl ?_);obtain⟨z,_,hz⟩:=List.mem_flatMap.1 hx;cases List.mem_singleton.1 hz;exact⟨_,_,rfl⟩
noncomputable abbrev fby(l:List UInt8):List Nat:=(List.range Tryz.prog.funcs.size).filter λf=>(Tryz.prog.funcs[f]?).any (·.name.toUTF8.data.toList==l)
theorem aaJ:fby [104,117,100,100,108,101,47,114,111,108,108,46,97,115,107,115,36,49]=[411]:=aH
theorem aaK:fby [104,117,100,100,108,101,47,114,111,108,108,46,97,115,107,115,36,50]=[413]:=aH
theorem aaL:fby [104,117,100,100,108,101,47,114,111,108,108,46,97,115,107,115,36,51]=[414]:=aH
theorem aaM:fby [104,117,100,100,108,101,47,114,111,108,108,46,97,115,107,115,36,52]=[415]:=aH
theorem aaN:fby [104,117,100,100,108,101,47,114,111,108,108,46,97,115,107,115,36,53]=[416]:=aH
theorem aaO:fby [104,117,100,100,108,101,47,114,111,108,108,46,97,115,107,115,36,54]=[417]:=aH
theorem aaP:fby [40,42,104,117,100,100,108,101,47,114,111,108,108,46,82,111,108,108,41,46,111,119,110]=[419]:=aH
theorem aaQ:fby [104,117,100,100,108,101,47,114,111,108,108,46,97,115,107,115,36,55]=[420]:=aH
theorem aaR:fby [104,117,100,100,108,101,47,114,111,108,108,46,97,115,107,115,36,56]=[421]:=aH
theorem Rc(h:laidMetH Tryz.prog Hv W):IV (λ_=>False) W (.ptr IU 0) (.pointer (some ⟨1,0,none⟩)):=by
 obtain⟨g,t,cs,fuel,p,hg,ht,hv,a⟩:=h.funcs (List.mem_cons_self ..);obtain rfl:=Bo (Y8.symm.trans hg);obtain rfl:=Bo (Y9.symm.trans ht);have hd1:DataW.trod (funcToken Tryz.prog) Tryz.prog W 0 (λ_=>true) true fuel 269 cs.toList=some (.agg [.nil,.nil,.held [104,117,100,100,108,101,47,114,111,108,108,46,97,115,107,115,36,49],.held [104,117,100,100,108,101,47,114,111,108,108,46,97,115,107,115,36,50],.nil,.held [104,117,100,100,108,101,47,114,111,108,108,46,97,115,107,115,36,51],.held [104,117,100,100,108,101,47,114,111,108,108,46,97,115,107,115,36,52],.nil,.held [104,117,100,100,108,101,47,114,111,108,108,46,97,115,107,115,36,53],.held [104,117,100,100,108,101,47,114,111,108,108,46,97,115,107,115,36,54],.held [40,42,104,117,100,100,108,101,47,114,111,108,108,46,82,111,108,108,41,46,111,119,110],.held [104,117,100,100,108,101,47,114,111,108,108,46,97,115,107,115,36,55],.held [40,42,104,117,100,100,108,101,47,114,111,108,108,46,82,111,108,108,41,46,111,119,110],.held [104,117,100,100,108,101,47,114,111,108,108,46,97,115,107,115,36,56]],p):=a;have hcells:=zo (n:=14) Tryz.underlying269 aH aH hg hv hd1;have key:∀i x,IU[i]?=some x->W.cell? ⟨1,i,none⟩=some (IM x):=by
  intro i x hx;have hi:i<14:=(cr hx).1;obtain⟨v,d,m,q,hc,hd,hr⟩:=hcells i hi;match i,hi with
  |0,_|1,_|2,_|3,_|4,_|5,_|6,_|7,_|8,_|9,_|10,_|11,_|12,_|13,_=>
   cases hd;cases hx;rw[hc];first
    |(rw[IL Tryz.underlying268 hr];rfl)
    |(rw[func_of_trod (f0:=411) Tryz.underlying268 aaJ hr];rfl)
    |(rw[func_of_trod (f0:=413) Tryz.underlying268 aaK hr];rfl)
    |(rw[func_of_trod (f0:=414) Tryz.underlying268 aaL hr];rfl)
    |(rw[func_of_trod (f0:=415) Tryz.underlying268 aaM hr];rfl)
    |(rw[func_of_trod (f0:=416) Tryz.underlying268 aaN hr];rfl)
    |(rw[func_of_trod (f0:=417) Tryz.underlying268 aaO hr];rfl)
    |(rw[func_of_trod (f0:=419) Tryz.underlying268 aaP hr];rfl)
    |(rw[func_of_trod (f0:=420) Tryz.underlying268 aaQ hr];rfl)
    |(rw[func_of_trod (f0:=421) Tryz.underlying268 aaR hr];rfl)
 refine MM (ML (key 0 _ rfl)) key λx hx=>?_;simp only[IU,EZ,Lx,or_false] at hx;rcases hx with rfl|rfl|rfl|rfl|rfl|rfl|rfl|rfl|rfl|rfl|rfl|rfl|rfl|rfl<;>first|exact .inl (.inr rfl)|exact .inr ⟨_,rfl⟩
theorem TK(h:laidMetH Tryz.prog Hv W):Gls fI (λ_=>False) W:=by
 intro g l hl;simp only[fI,List.lookup_cons] at hl;split at hl
 .rename_i e;cases hl;obtain rfl:=eq_of_beq e;exact Ov h
 .split at hl
  .rename_i e;cases hl;obtain rfl:=eq_of_beq e;exact Rc h
  .cases hl
end Go.Proofs.YtlijnaneopediaaGreatDoor
