/- HoldBytes: the call, lifted to readings. -/
import Derived.Test.YtpehhhbmobmedaaGreatDoorHB
import Derived.ChangeSlices
import Derived.Test.YtpehhhbmobmedaaGreatDoorTied
import Derived.ProofKit
import Derived.LaidMore
import Derived.OpenShut
import Derived.Stop.Joined
import Derived.Lib.SmallJoins
namespace Go.Proofs.YtpehhhbmobmedaaGreatDoor.holdBytes
open Go.ChangeShapes Go.WideShapes Go.ChangeAt Go.RowKit Go.Joins Go.Proofs.YtpehhhbmobmedaaGreatDoor
set_option linter.unusedVariables false

theorem laidOut:laidOutB Tryz.prog = true:=by kernel_rfl
theorem own:ownKnob Tryz.prog.godebug = none:=by kernel_rfl
theorem door_met (os:Os) (args:Array Value):laidMetH Tryz.prog laidL ((World.doorLaid Tryz.prog 600 os).forCall (fun _ _ => 0) ⟨#[],args,[]⟩).memory :=
 laidMetH_of_parts3 (fuel:=8) (laidMet_of_run' 8 (by kernel_rfl) (by kernel_rfl)) (by kernel_rfl) (by kernel_rfl)
section
variable {H:Type} {enc:TypeId × Value → H} {w:World} {d:DataW H} {p:List MemPlace}

set_option maxRecDepth 100000 in
theorem row_open {t e:TypeId} {k:IntKind} (ht:Tryz.prog.underlying t = some (.slice e)) (he:Tryz.prog.underlying e = some (.int k)) (hce:Tryz.prog.cellsOf e = 1) {b0:Nat} {v:Value} (hv0:Value.okWide Tryz.prog w .any b0 t v) (h:DataW.Trod enc Tryz.prog w 0 (fun _ => true) true t v d p) (hlt:∀ x ∈ p,x.block < w.heap.size):∃ zs:List Int,(∀ z ∈ zs,(Lit.int k z).wf = true) ∧ IV (fun _ => False) w (.sl (zs.map fun z => .lit (.int k z)) zs.length) v:=by
 obtain ⟨A0,L0,C0,rfl⟩:=okWide_slice ht hv0
 obtain ⟨fuel,hf⟩:=h
 rcases open_ints ht he hce hf with ⟨hcs,hx⟩ | ⟨a,l,c,zs,hcs,_,hl,hm,hz,hx,hcell,hwz⟩
 ·have hv:Value.slice A0 L0 C0 = .slice none 0 0:=by simpa [Value.cells] using hcs
  rw [hv]
  exact ⟨[],fun _ h => (by cases h),.sl [] 0 none 0 (fun _ => undef) (Nat.le_refl _) (Nat.zero_le _) (by simp) (by simp) (by simp)⟩
 ·have hv:Value.slice A0 L0 C0 = .slice (some a) l c:=by simpa [Value.cells] using hcs
  rw [hv]
  have hz':zs.length = c:=by simpa using hz
  obtain ⟨ab,ao,ae⟩:=a
  have hlen:(zs.take l).length = l:=by simp; omega
  refine ⟨zs.take l,fun z hzm => hwz z (List.mem_of_mem_take hzm),?_⟩
  ·rw [hlen]
   refine .sl _ l (some ⟨ab,ao,ae⟩) c (fun i => .int k (zs.getD i 0)) hl hm (fun i hi => ?_) (fun i hi => rfl) (fun i g hg => ?_)
   ·have hi':i < zs.length:=by simp at hi; omega
    have h0:=hcell 0 (by omega)
    have e0:ae = none:=by
     cases ae with
     | none => rfl
     | some s =>
      unfold World.cell? Addr.add at h0
      simp at h0
      split at h0 <;> simp at h0
    subst e0
    have h1:=hcell i hi'
    have e1:(⟨ab,ao,none⟩:Addr).add i = ⟨ab,ao + i,none⟩:=by
     unfold Addr.add
     split
     ·subst_vars; rfl
     ·rfl
    rw [e1] at h1
    refine ⟨ab,ao,rfl,fun h => h,?_,h1⟩
    unfold World.cell? at h1
    split at h1
    ·rename_i h; exact (Array.getElem?_eq_some_iff.1 h).1
    ·cases h1
   ·rw [List.getElem?_map] at hg
    cases hz2:(zs.take l)[i]? with
    | none => rw [hz2] at hg; cases hg
    | some z =>
     rw [hz2] at hg
     cases hg
     have hz3:zs[i]? = some z:=by
      rw [List.getElem?_take] at hz2
      split at hz2
      ·exact hz2
      ·cases hz2
     have:zs.getD i 0 = z:=by simp [List.getD,hz3]
     show IV _ _ (.lit (.int k z)) (.int k (zs.getD i 0))
     rw [this]
     exact .lit _
end
theorem walk (W:World) (hL:laidMetH Tryz.prog laidL W) (u0 u3:Value) (raw:List UInt8) (dev:Int) (lead:Nat) (acts:List Int) (at':Int) (cb:UInt8) (hdev:Is64 dev) (hacts:∀ z ∈ acts,Is64 z) (hat:Is64 at') (v0:IV (fun _ => False) W (.sl (raw.map gY) raw.length) u0) (v3:IV (fun _ => False) W (.sl (acts.map vI) acts.length) u3) :
  Calls Tryz.prog 3 #[u0,.int .i64 dev,.int .u64 (lead:Int),u3,.int .i64 at',.int .u8 (cb.toNat:Int)] W fun e w' => e = .returned (.bool true) ∧ Below W.heap.size W w':=by
 refine (law23_fn raw dev hdev lead acts hacts at' hat cb W (fun _ => False) #[u0,.int .i64 dev,.int .u64 (lead:Int),u3,.int .i64 at',.int .u8 (cb.toNat:Int)] (fun _ h => h.elim) (gls_all hL) rfl ?_).mono fun e w' ⟨v,he,hv,hk⟩ => ?_
 ·intro i g x hg hx
  match i with
  | 0 => cases hg; cases hx; exact v0
  | 1 => cases hg; cases hx; exact .lit _
  | 2 => cases hg; cases hx; exact .lit _
  | 3 => cases hg; cases hx; exact v3
  | 4 => cases hg; cases hx; exact .lit _
  | 5 => cases hg; cases hx; exact .lit _
 ·cases hv
  exact ⟨he,hk.toBelow (Nat.le_refl _) (fun _ _ h => h)⟩
theorem wfI {z:Int} (h:(Lit.int .i64 z).wf = true):Is64 z:=by
 unfold Lit.wf at h
 simp only [Bool.and_eq_true,decide_eq_true_eq] at h
 exact h
theorem wfU {z:Int} (h:(Lit.int .u64 z).wf = true):∃ n:Nat,z = n:=by
 unfold Lit.wf at h
 simp only [Bool.and_eq_true,decide_eq_true_eq] at h
 have h1:0 ≤ z:=h.1
 exact ⟨z.toNat,by omega⟩
theorem wfY {z:Int} (h:(Lit.int .u8 z).wf = true):∃ b:UInt8,z = (b.toNat:Int):=by
 unfold Lit.wf at h
 simp only [Bool.and_eq_true,decide_eq_true_eq] at h
 have h1:0 ≤ z:=h.1
 have h2:z ≤ 255:=h.2
 refine ⟨UInt8.ofNat z.toNat,?_⟩
 rw [UInt8.toNat_ofNat',Nat.mod_eq_of_lt (by omega)]
 omega
theorem bytes_of:∀ {zs:List Int},(∀ z ∈ zs,(Lit.int .u8 z).wf = true) → ∃ raw:List UInt8,raw.length = zs.length ∧ raw.map gY = zs.map fun z => .lit (.int .u8 z)
 | [],_ => ⟨[],rfl,rfl⟩
 | z :: r,h => by
  obtain ⟨b,hb⟩:=wfY (h z List.mem_cons_self)
  obtain ⟨l,h1,h2⟩:=bytes_of (zs:=r) fun y hy => h y (List.mem_cons_of_mem _ hy)
  refine ⟨b :: l,by simp [h1],?_⟩
  rw [List.map_cons,List.map_cons,h2,hb]
set_option maxRecDepth 100000 in
theorem lifted (os:Os) (started:os.Started) (H:Type) (enc:TypeId × Value → H) :
  ReturnsInHanded {} Tryz.checked os 3 .any (fun w args => (Rows.holdBytesSpec.pre enc Tryz.prog Tryz.f3 [] false w args ∧ laidMetH Tryz.prog laidL w) ∧ sizedMet enc Tryz.prog Tryz.f3 (OpenSpec.ofChange Rows.holdBytesSpec) false w args)
   (Rows.holdBytesSpec.post enc Tryz.prog Tryz.f3 false true false false):=by
 refine returnsInHanded_of_change_and (C:=Tryz.checked) (X:=fun w _ => laidMetH Tryz.prog laidL w) (fun _ _ _ hh h => h.of_heap hh) own started (by kernel_rfl) Tryz.func3
  (ChangeSpec.witness_shaped (enc:=enc) (C:=Tryz.checked) (os:=os) (X:=fun w _ => laidMetH Tryz.prog laidL w) false (World.doorLaid Tryz.prog 600 os) #[.slice none 0 0,.int .i64 0,.int .u64 0,.slice none 0 0,.int .i64 0,.int .u8 0] 8 rfl (World.shaped_of_RefB (by kernel_rfl) (by kernel_rfl)) (by kernel_rfl) (by kernel_rfl) (by kernel_rfl) (door_met os _)) ?_
 intro W base args ds gs before hval0 hW _ _ hL _
 have hval:∀ (j:Nat) t v,Tryz.f3.params[j]? = some t → args[j]? = some v → Value.okWide Tryz.prog W .any base t v:=hval0
 have hW':=hW
 obtain ⟨p,q,hA0,hV,rfl,hfz,hnd⟩:=hW
 have hA:DataW.TrodAll enc Tryz.prog W 0 (fun _ => true) true Tryz.f3.params.toList args.toList ds p:=hA0
 rw [Tryz.params3] at hA hval
 obtain ⟨v0,vs0,d0,ds0,p0,q0,hargs,rfl,rfl,h0,r0⟩:=trodAll_cons hA
 obtain ⟨v1,vs1,d1,ds1,p1,q1,rfl,rfl,rfl,h1,r1⟩:=trodAll_cons r0
 obtain ⟨v2,vs2,d2,ds2,p2,q2,rfl,rfl,rfl,h2,r2⟩:=trodAll_cons r1
 obtain ⟨v3,vs3,d3,ds3,p3,q3,rfl,rfl,rfl,h3,r3⟩:=trodAll_cons r2
 obtain ⟨v4,vs4,d4,ds4,p4,q4,rfl,rfl,rfl,h4,r4⟩:=trodAll_cons r3
 obtain ⟨v5,vs5,d5,ds5,p5,q5,rfl,rfl,rfl,h5,r5⟩:=trodAll_cons r4
 obtain ⟨rfl,rfl,rfl⟩:=trodAll_nil r5
 obtain rfl:args = #[v0,v1,v2,v3,v4,v5]:=by cases args; simp_all
 obtain ⟨rfl,rfl⟩:=trodVars_none hV
 have k0:=h0
 have k1:=h1
 have k2:=h2
 have k3:=h3
 have k4:=h4
 have k5:=h5
 have lt0:∀ x ∈ p0,x.block < W.heap.size:=by obtain ⟨m,hm⟩:=k0; exact DataW.trod_lt m _ _ _ hm
 have lt1:∀ x ∈ p1,x.block < W.heap.size:=by obtain ⟨m,hm⟩:=k1; exact DataW.trod_lt m _ _ _ hm
 have lt2:∀ x ∈ p2,x.block < W.heap.size:=by obtain ⟨m,hm⟩:=k2; exact DataW.trod_lt m _ _ _ hm
 have lt3:∀ x ∈ p3,x.block < W.heap.size:=by obtain ⟨m,hm⟩:=k3; exact DataW.trod_lt m _ _ _ hm
 have lt4:∀ x ∈ p4,x.block < W.heap.size:=by obtain ⟨m,hm⟩:=k4; exact DataW.trod_lt m _ _ _ hm
 have lt5:∀ x ∈ p5,x.block < W.heap.size:=by obtain ⟨m,hm⟩:=k5; exact DataW.trod_lt m _ _ _ hm
 obtain ⟨zb,wb,ivb⟩:=row_open Tryz.underlying22 Tryz.underlying5 (by kernel_rfl) (hval 0 22 v0 rfl rfl) h0 lt0
 obtain ⟨za,wa,iva⟩:=row_open Tryz.underlying24 Tryz.underlying3 (by kernel_rfl) (hval 3 24 v3 rfl rfl) h3 lt3
 obtain ⟨dev,rfl,rfl,rfl,w1⟩:=open_int Tryz.underlying3 (hval 1 3 v1 rfl rfl) h1
 obtain ⟨le,rfl,rfl,rfl,w2⟩:=open_int Tryz.underlying23 (hval 2 23 v2 rfl rfl) h2
 obtain ⟨at',rfl,rfl,rfl,w4⟩:=open_int Tryz.underlying3 (hval 4 3 v4 rfl rfl) h4
 obtain ⟨cz,rfl,rfl,rfl,w5⟩:=open_int Tryz.underlying5 (hval 5 5 v5 rfl rfl) h5
 obtain ⟨lead,rfl⟩:=wfU w2
 obtain ⟨cb,rfl⟩:=wfY w5
 obtain ⟨raw,er1,er2⟩:=bytes_of wb
 rw [← er1,← er2] at ivb
 clear hA0 hval0
 refine (walk W hL v0 v3 raw dev lead za at' cb (wfI w1) (fun z hz => wfI (wa z hz)) (wfI w4) ivb iva).mono fun e W' ⟨he,bel⟩ => ?_
 subst he
 exact ⟨_,rfl,_,_,_,[],_,[],hW',trodAll_mk1 (shut_bool Tryz.underlying4 _),(trodAll_cons_mk (Below.trod laidOut (by kernel_rfl) (of_decide_eq_true (by kernel_rfl)) k0 bel lt0) (trodAll_cons_mk (Below.trod laidOut (by kernel_rfl) (of_decide_eq_true (by kernel_rfl)) k1 bel lt1) (trodAll_cons_mk (Below.trod laidOut (by kernel_rfl) (of_decide_eq_true (by kernel_rfl)) k2 bel lt2) (trodAll_cons_mk (Below.trod laidOut (by kernel_rfl) (of_decide_eq_true (by kernel_rfl)) k3 bel lt3) (trodAll_cons_mk (Below.trod laidOut (by kernel_rfl) (of_decide_eq_true (by kernel_rfl)) k4 bel lt4) (trodAll_cons_mk (Below.trod laidOut (by kernel_rfl) (of_decide_eq_true (by kernel_rfl)) k5 bel lt5) trodAll_mk0)))))),rfl,bel.frame _,fun h => by cases h⟩
end Go.Proofs.YtpehhhbmobmedaaGreatDoor.holdBytes
