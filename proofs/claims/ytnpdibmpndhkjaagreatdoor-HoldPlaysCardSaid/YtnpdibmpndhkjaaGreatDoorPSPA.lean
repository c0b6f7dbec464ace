/- HoldPlays: the call, QA to readings. -/
import Derived.ChangeSlices
import Derived.Lib.SmallJoins
import Derived.Stop.Joined
import Derived.Test.YtnpdibmpndhkjaaGreatDoorQH
namespace Go.Proofs.YtnpdibmpndhkjaaGreatDoor.holdPlays
set_option linter.unusedVariables false
set_option linter.unusedSimpArgs false
open Go.ChangeShapes Go.WideShapes Go.ChangeAt Go.RowKit Go.Joins Go.Proofs.YtnpdibmpndhkjaaGreatDoor
theorem wK:laidOutB Tryz.prog=true:=aH
theorem own:ownKnob Tryz.prog.godebug=none:=aH
theorem Qz(os:Os)(args:Array Value):laidMetH Tryz.prog zn ((World.doorLaid Tryz.prog 600 os).forCall (λ_ _=>0) ⟨#[],args,[]⟩).memory:=
 laidMetH_of_parts3 (fuel:=8) (laidMet_of_run' 8 aH aH) aH aH
section
variable {H:Type} {enc:TypeId×Value->H} {w:World} {d:DataW H} {p:List MemPlace}
set_option maxRecDepth 100000 in
theorem Ij{t e:TypeId}{k:IntKind}(ht:Tryz.prog.underlying t=some (.slice e))(he:Tryz.prog.underlying e=some (.int k))(m:Tryz.prog.cellsOf e=1){b0:Nat}{v:Value}(hv0:Value.okWide Tryz.prog w .any b0 t v)(h:DataW.Trod enc Tryz.prog w 0 (λ_=>true) true t v d p)(hlt:∀x∈p,x.block<w.heap.size):∃zs:List Int,(zs.length<=9223372036854775807/\∀z∈zs,(Lit.int k z).wf=true)/\IV (λ_=>False) w (.sl (zs.map λz=> .lit (.int k z)) zs.length) v:=by
 obtain⟨r,u,y,rfl⟩:=okWide_slice ht hv0;obtain⟨fuel,hf⟩:=h;rcases open_ints ht he m hf with⟨hcs,hx⟩|⟨a,l,c,zs,hcs,_,hl,hm,hz,hx,b,n⟩
 .have hv:Value.slice r u y= .slice none 0 0:=by simpa[Value.cells] using hcs
  rw[hv];exact⟨[],⟨aC,λ_ h=>(by cases h)⟩,.sl [] 0 none 0 (λ_=>undef) (Nat.le_refl _) (Nat.zero_le _) aC aC aC⟩
 .have hv:Value.slice r u y= .slice (some a) l c:=by simpa[Value.cells] using hcs
  rw[hv];have hz':zs.length=c:=by simpa using hz
  obtain⟨f,j,q⟩:=a;have hlen:(zs.take l).length=l:=by simp;omega
  refine⟨zs.take l,⟨by rw[hlen];exact Nat.le_trans hl hm,λz o=>n z (List.mem_of_mem_take o)⟩,?_⟩
  .rw[hlen];refine .sl _ l (some ⟨f,j,q⟩) c (λi=> .int k (zs.getD i 0)) hl hm (λi hi=>?_) (λi hi=>rfl) (λi g hg=>?_)
   .have hi':i<zs.length:=by simp at hi;omega
    have h0:=b 0 aa;have e0:q=none:=by
     cases q with
     |none=>rfl
     |some s=>unfold World.cell? Addr.add at h0;simp at h0;split at h0<;>simp at h0
    subst e0;have h1:=b i hi';have e1:(⟨f,j,none⟩:Addr).add i=⟨f,j+i,none⟩:=by
     unfold Addr.add;split
     .subst_vars;rfl
     .rfl
    rw[e1] at h1;refine⟨f,j,rfl,λh=>h,?_,h1⟩;unfold World.cell? at h1;split at h1
    .rename_i h;exact(Array.getElem?_eq_some_iff.1 h).1
    .cases h1
   .rw[List.getElem?_map] at hg;cases hz2:(zs.take l)[i]? with
    |none=>rw[hz2] at hg;cases hg
    |some z=>
     rw[hz2] at hg;cases hg;have hz3:zs[i]?=some z:=by
      rw[List.getElem?_take] at hz2;split at hz2
      .exact hz2
      .cases hz2
     have:zs.getD i 0=z:=by simp[List.getD,hz3]
     show IV _ _ (.lit (.int k z)) (.int k (zs.getD i 0));rw[this];exact .lit _
end
theorem zN(W:World)(hL:laidMetH Tryz.prog zn W)(c f:Value)(l b:List Int)(dev:Int)(lead pub:Nat)(h1:l.length<=9223372036854775807)(h2:∀z∈l,c8 z)(hd:c8 dev)(h3:b.length<=9223372036854775807)(h4:∀z∈b,c8 z)(hp:fS pub)(j:IV (λ_=>False) W (aE cZ l) c)(m:IV (λ_=>False) W (aE cZ b) f):
  Calls Tryz.prog 3 #[c,.int .i64 dev,.int .u64 (lead:Int),f,.int .u64 (pub:Int)] W λe w'=>e= .returned (.bool true)/\Below W.heap.size W w':=by
 refine(WY O8 (device:=dev) (lead:=lead) h1 h2 hd h3 h4 hp W (λ_=>False) #[c,.int .i64 dev,.int .u64 (lead:Int),f,.int .u64 (pub:Int)] (λ_ h=>h.elim) (TK hL) rfl ?_).mono λe w' ⟨v,he,hv,hk⟩=>?_
 .intro i g x hg hx
  match i with
  |0=>cases hg;cases hx;exact j
  |1=>cases hg;cases hx;exact .lit _
  |2=>cases hg;cases hx;exact .lit _
  |3=>cases hg;cases hx;exact m
  |4=>cases hg;cases hx;exact .lit _
 .cases hv
  exact⟨he,⟨hk.os,hk.tape,hk.output,hk.size,λk a=>hk.block k a id⟩⟩
theorem wfI{z:Int}(h:(Lit.int .i64 z).wf=true):c8 z:=by unfold Lit.wf at h;simp only[bA,decide_eq_true_eq] at h;exact h
theorem wfU{z:Int}(h:(Lit.int .u64 z).wf=true):∃n:Nat,z=n/\fS n:=by unfold Lit.wf at h;simp only[bA,decide_eq_true_eq] at h;have h1:0<=z:=h.1;have h2:z<=18446744073709551615:=h.2;exact⟨z.toNat,aa,by unfold fS;omega⟩
theorem gcZ(l:List Int):l.flatMap cZ=l.map λz=> .lit (.int .i64 z):=by
 induction l with
 |nil=>rfl
 |cons x r ih=>rw[List.flatMap_cons,ih];rfl
set_option maxRecDepth 100000 in
theorem QA(os:Os)(a:os.Started)(H:Type)(enc:TypeId×Value->H):
  ReturnsInHanded {} Tryz.checked os 3 .any (λw args=>(Rows.holdPlaysSpec.pre enc Tryz.prog Tryz.f3 [] false w args/\laidMetH Tryz.prog zn w)/\sizedMet enc Tryz.prog Tryz.f3 (OpenSpec.ofChange Rows.holdPlaysSpec) false w args)
   (Rows.holdPlaysSpec.post enc Tryz.prog Tryz.f3 false true false false):=by
 refine returnsInHanded_of_change_and (C:=Tryz.checked) (X:=λw _=>laidMetH Tryz.prog zn w) (λ_ _ _ F h=>h.of_heap F) own a aH Tryz.func3
  (ChangeSpec.witness_shaped (enc:=enc) (C:=Tryz.checked) (os:=os) (X:=λw _=>laidMetH Tryz.prog zn w) false (World.doorLaid Tryz.prog 600 os) #[.slice none 0 0,.int .i64 0,.int .u64 0,.slice none 0 0,.int .u64 0] 8 rfl (World.shaped_of_RefB aH aH) aH aH aH (Qz os _)) ?_
 intro W f args Y gs k b r _ _ hL _
 have hval:∀(j:Nat) t v,Tryz.f3.params[j]?=some t->args[j]?=some v->Value.okWide Tryz.prog W .any f t v:=b
 have l:=r
 obtain⟨p,q,c,hV,rfl,I,hnd⟩:=r
 have hA:DataW.TrodAll enc Tryz.prog W 0 (λ_=>true) true Tryz.f3.params.toList args.toList Y p:=c
 rw[Tryz.params3] at hA hval
 obtain⟨n,Z,d0,ds0,J,q0,hargs,rfl,rfl,h0,K⟩:=trodAll_cons hA
 obtain⟨s,vs1,d1,ds1,L,q1,rfl,rfl,rfl,h1,M⟩:=trodAll_cons K
 obtain⟨u,vs2,d2,ds2,N,q2,rfl,rfl,rfl,h2,O⟩:=trodAll_cons M
 obtain⟨o,vs3,d3,ds3,P,q3,rfl,rfl,rfl,h3,Q⟩:=trodAll_cons O
 obtain⟨y,vs4,d4,ds4,R,q4,rfl,rfl,rfl,h4,r4⟩:=trodAll_cons Q
 obtain⟨rfl,rfl,rfl⟩:=trodAll_nil r4
 obtain rfl:args= #[n,s,u,o,y]:=by cases args;simp_all
 obtain⟨rfl,rfl⟩:=trodVars_none hV
 have A:=h0
 have k1:=h1
 have k2:=h2
 have k3:=h3
 have B:=h4
 have lt0:∀x∈J,x.block<W.heap.size:=by obtain⟨m,hm⟩:=A;exact DataW.trod_lt m _ _ _ hm
 have lt1:∀x∈L,x.block<W.heap.size:=by obtain⟨m,hm⟩:=k1;exact DataW.trod_lt m _ _ _ hm
 have lt2:∀x∈N,x.block<W.heap.size:=by obtain⟨m,hm⟩:=k2;exact DataW.trod_lt m _ _ _ hm
 have lt3:∀x∈P,x.block<W.heap.size:=by obtain⟨m,hm⟩:=k3;exact DataW.trod_lt m _ _ _ hm
 have lt4:∀x∈R,x.block<W.heap.size:=by obtain⟨m,hm⟩:=B;exact DataW.trod_lt m _ _ _ hm
 obtain⟨zl,D,g⟩:=Ij Tryz.underlying22 Tryz.underlying3 aH (hval 0 22 n rfl rfl) h0 lt0
 obtain⟨za,E,i⟩:=Ij Tryz.underlying22 Tryz.underlying3 aH (hval 3 22 o rfl rfl) h3 lt3
 obtain⟨dev,rfl,rfl,rfl,S⟩:=open_int Tryz.underlying3 (hval 1 3 s rfl rfl) h1
 obtain⟨le,rfl,rfl,rfl,U⟩:=open_int Tryz.underlying23 (hval 2 23 u rfl rfl) h2
 obtain⟨pz,rfl,rfl,rfl,V⟩:=open_int Tryz.underlying23 (hval 4 23 y rfl rfl) h4
 obtain⟨lead,rfl,_⟩:=wfU U
 obtain⟨pub,rfl,hp⟩:=wfU V
 rw[<-gcZ] at g i
 clear c b
 refine(zN W hL n o zl za dev lead pub D.1 (λz hz=>wfI (D.2 z hz)) (wfI S) E.1 (λz hz=>wfI (E.2 z hz)) hp g i).mono λe W' ⟨he,bel⟩=>?_
 subst he
 exact⟨_,rfl,_,_,_,[],_,[],l,trodAll_mk1 (shut_bool Tryz.underlying4 _),(trodAll_cons_mk (Below.trod wK aH (of_decide_eq_true aH) A bel lt0) (trodAll_cons_mk (Below.trod wK aH (of_decide_eq_true aH) k1 bel lt1) (trodAll_cons_mk (Below.trod wK aH (of_decide_eq_true aH) k2 bel lt2) (trodAll_cons_mk (Below.trod wK aH (of_decide_eq_true aH) k3 bel lt3) (trodAll_cons_mk (Below.trod wK aH (of_decide_eq_true aH) B bel lt4) trodAll_mk0))))),rfl,bel.frame _,λh=>by cases h⟩
end Go.Proofs.YtnpdibmpndhkjaaGreatDoor.holdPlays
