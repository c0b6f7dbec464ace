/- HoldForward: the call, QA to readings. -/
import Derived.ChangeSlices
import Derived.Lib.SmallJoins
import Derived.Stop.Joined
import Derived.Test.YtjbfcillbjiajaaGreatDoorKD
namespace Go.Proofs.YtjbfcillbjiajaaGreatDoor.holdForward
set_option linter.unusedSectionVars false
set_option linter.unusedVariables false
set_option linter.unusedSimpArgs false
open Go.ChangeShapes Go.WideShapes Go.ChangeAt Go.RowKit Go.Joins Go.Proofs.YtjbfcillbjiajaaGreatDoor
theorem Ada:laidOutB Tryz.prog=true:=aH
theorem own:ownKnob Tryz.prog.godebug=none:=aH
theorem Qz(os:Os)(args:Array Value):laidMetH Tryz.prog UE ((World.doorLaid Tryz.prog 600 os).forCall (λ_ _=>0) ⟨#[],args,[]⟩).memory:=
 laidMetH_of_parts3 (fuel:=8) (laidMet_of_run' 8 aH aH) aH aH
section
variable {H:Type} {enc:TypeId×Value->H} {w:World} {d:DataW H} {p:List MemPlace}
set_option maxRecDepth 100000 in
theorem Ij{t e:TypeId}{k:IntKind}(ht:Tryz.prog.underlying t=some (.slice e))(he:Tryz.prog.underlying e=some (.int k))(j:Tryz.prog.cellsOf e=1){b0:Nat}{v:Value}(hv0:Value.okWide Tryz.prog w .any b0 t v)(h:DataW.Trod enc Tryz.prog w 0 (λ_=>true) true t v d p)(hlt:∀x∈p,x.block<w.heap.size):∃zs:List Int,(zs.length<=9223372036854775807/\∀z∈zs,(Lit.int k z).wf=true)/\IV (λ_=>False) w (.sl (zs.map λz=> .lit (.int k z)) zs.length) v:=by
 obtain⟨q,L0,r,rfl⟩:=okWide_slice ht hv0;obtain⟨fuel,hf⟩:=h;rcases open_ints ht he j hf with⟨hcs,hx⟩|⟨a,l,c,zs,hcs,_,hl,hm,hz,hx,b,m⟩
 .have hv:Value.slice q L0 r= .slice none 0 0:=by simpa[Value.cells] using hcs
  rw[hv];exact⟨[],⟨aC,λ_ h=>(by cases h)⟩,.sl [] 0 none 0 (λ_=>undef) (Dk _) (Nat.zero_le _) aC aC aC⟩
 .have hv:Value.slice q L0 r= .slice (some a) l c:=by simpa[Value.cells] using hcs
  rw[hv];have hz':zs.length=c:=by simpa using hz
  obtain⟨ab,f,o⟩:=a;have hlen:(zs.take l).length=l:=by simp;omega
  refine⟨zs.take l,⟨by rw[hlen];exact Nj hl hm,λz n=>m z (List.mem_of_mem_take n)⟩,?_⟩
  .rw[hlen];refine .sl _ l (some ⟨ab,f,o⟩) c (λi=> .int k (zs.getD i 0)) hl hm (λi hi=>?_) (λi hi=>rfl) (λi g hg=>?_)
   .have hi':i<zs.length:=by simp at hi;omega
    have h0:=b 0 aa;have e0:o=none:=by
     cases o with
     |none=>rfl
     |some s=>unfold World.cell? Addr.add at h0;simp at h0;split at h0<;>simp at h0
    subst e0;have h1:=b i hi';have e1:(⟨ab,f,none⟩:Addr).add i=⟨ab,f+i,none⟩:=by
     unfold Addr.add;split
     .subst_vars;rfl
     .rfl
    rw[e1] at h1;refine⟨ab,f,rfl,λh=>h,?_,h1⟩;unfold World.cell? at h1;split at h1
    .rename_i h;exact(Array.getElem?_eq_some_iff.1 h).1
    .cases h1
   .rw[Mu] at hg;cases hz2:(zs.take l)[i]? with
    |none=>rw[hz2] at hg;cases hg
    |some z=>
     rw[hz2] at hg;cases hg;have hz3:zs[i]?=some z:=by
      rw[List.getElem?_take] at hz2;split at hz2
      .exact hz2
      .cases hz2
     have:zs.getD i 0=z:=by simp[List.getD,hz3]
     show IV _ _ (.lit (.int k z)) (.int k (zs.getD i 0));rw[this];exact .lit _
end
theorem zN(W:World)(hL:laidMetH Tryz.prog UE W)(b:Value)(l0:List Int)(n1:Int)(a0:l0.length<=9223372036854775807)(b0:∀z∈l0,c8 z)(a1:c8 n1)(c0:IV (λ_=>False) W (aE cZ l0) b):
  Calls Tryz.prog 3 #[b,.int .i64 n1] W λe w'=>e= .returned (.bool true)/\Below W.heap.size W w':=by
 refine(Ae2 Ab3 a0 b0 a1 W (λ_=>False) #[b,.int .i64 n1] (λ_ h=>h.elim) (TK hL) rfl ?_).mono λe w' ⟨v,he,hv,hk⟩=>?_
 .intro i g y hg hx
  match i with
  |0=>cases hg;cases hx;exact c0
  |1=>cases hg;cases hx;exact .lit _
 .cases hv
  exact⟨he,⟨hk.os,hk.tape,hk.output,hk.size,λk a=>hk.block k a id⟩⟩
theorem wfI{z:Int}(h:(Lit.int .i64 z).wf=true):c8 z:=by unfold Lit.wf at h;simp only[bA,decide_eq_true_eq] at h;exact h
theorem gcZ(l:List Int):l.flatMap cZ=l.map λz=> .lit (.int .i64 z):=by
 induction l with
 |nil=>rfl
 |cons x r ih=>rw[List.flatMap_cons,ih];rfl
set_option maxRecDepth 100000 in
theorem QA(os:Os)(a:os.Started)(H:Type)(enc:TypeId×Value->H):
  ReturnsInHanded {} Tryz.checked os 3 .any (λw args=>(Rows.holdForwardSpec.pre enc Tryz.prog Tryz.f3 [] false w args/\laidMetH Tryz.prog UE w)/\sizedMet enc Tryz.prog Tryz.f3 (OpenSpec.ofChange Rows.holdForwardSpec) false w args)
   (Rows.holdForwardSpec.post enc Tryz.prog Tryz.f3 false true false false):=by
 refine returnsInHanded_of_change_and (C:=Tryz.checked) (X:=λw _=>laidMetH Tryz.prog UE w) (λ_ _ _ hh h=>h.of_heap hh) own a aH Tryz.func3
  (ChangeSpec.witness_shaped (enc:=enc) (C:=Tryz.checked) (os:=os) (X:=λw _=>laidMetH Tryz.prog UE w) false (World.doorLaid Tryz.prog 600 os) #[.slice none 0 0,.int .i64 0] 8 rfl (World.shaped_of_RefB aH aH) aH aH aH (Qz os _)) ?_
 intro W f args A gs g b k _ _ hL _
 have hval:∀(j:Nat) t v,Tryz.f3.params[j]?=some t->args[j]?=some v->Value.okWide Tryz.prog W .any f t v:=b
 have i:=k
 obtain⟨p,q,c,hV,rfl,n,hnd⟩:=k
 have hA:DataW.TrodAll enc Tryz.prog W 0 (λ_=>true) true Tryz.f3.params.toList args.toList A p:=c
 rw[Tryz.params3] at hA hval
 obtain⟨v0,B,I,D,o,q0,hargs,rfl,rfl,h0,r⟩:=trodAll_cons hA
 obtain⟨v1,E,J,F,s,q1,rfl,rfl,rfl,h1,u⟩:=trodAll_cons r
 obtain⟨rfl,rfl,rfl⟩:=trodAll_nil u
 obtain rfl:args= #[v0,v1]:=by cases args;simp_all
 obtain⟨rfl,rfl⟩:=trodVars_none hV
 have l:=h0
 have k1:=h1
 have lt0:∀x∈o,x.block<W.heap.size:=by obtain⟨m,hm⟩:=l;exact DataW.trod_lt m _ _ _ hm
 have lt1:∀x∈s,x.block<W.heap.size:=by obtain⟨m,hm⟩:=k1;exact DataW.trod_lt m _ _ _ hm
 obtain⟨l0,w0,c0⟩:=Ij Tryz.underlying22 Tryz.underlying3 aH (hval 0 22 v0 rfl rfl) h0 lt0
 rw[<-gcZ] at c0
 obtain⟨n1,rfl,rfl,rfl,y⟩:=open_int Tryz.underlying3 (hval 1 3 v1 rfl rfl) h1
 clear c b
 refine(zN W hL v0 l0 n1 w0.1 (λz hz=>wfI (w0.2 z hz)) (wfI y) c0).mono λe W' ⟨he,bel⟩=>?_
 subst he
 exact⟨_,rfl,_,_,_,[],_,[],i,trodAll_mk1 (shut_bool Tryz.underlying4 _),(trodAll_cons_mk (Below.trod Ada aH (DV aH) l bel lt0) (trodAll_cons_mk (Below.trod Ada aH (DV aH) k1 bel lt1) trodAll_mk0)),rfl,bel.frame _,λh=>by cases h⟩
end Go.Proofs.YtjbfcillbjiajaaGreatDoor.holdForward
