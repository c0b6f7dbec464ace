/- EpochSecret: the call, lifted to readings. -/
import Derived.Test.YtpmpmhcckbaoaaaGreatDoorC21
import Derived.Test.YtpmpmhcckbaoaaaGreatDoorM21
import Derived.Test.YtpmpmhcckbaoaaaGreatDoorTied
import Derived.ProofKit
import Derived.LaidMore
import Derived.OpenShut
import Derived.Stop.Joined
import Derived.Lib.SmallJoins
namespace Go.Proofs.YtpmpmhcckbaoaaaGreatDoor.epochSecret
open Go.ChangeShapes Go.WideShapes Go.ChangeAt Go.RowKit Go.Joins Go.Proofs.YtpmpmhcckbaoaaaGreatDoor
set_option linter.unusedVariables false

theorem laidOut : laidOutB Tryz.prog = true := by kernel_rfl
theorem own : ownKnob Tryz.prog.godebug = none := by kernel_rfl
/-- The door's own heap meets the condition. -/
theorem door_met (os : Os) (args : Array Value) : laidMetH Tryz.prog laidL ((World.doorLaid Tryz.prog 600 os).forCall (fun _ _ => 0) ⟨#[], args, []⟩).memory :=
  laidMetH_of_parts3 (fuel := 8) (laidMet_of_run' 8 (by kernel_rfl) (by kernel_rfl)) (by kernel_rfl) (by kernel_rfl)
/-- The walk: the law answers true, and writes nothing that was there. -/
theorem walk (W : World) (hL : laidMetH Tryz.prog laidL W) (r y q z : Int) (wr : (Lit.int .u64 r).wf = true) (wz : (Lit.int .u64 z).wf = true) :
    Calls Tryz.prog 3 #[.int .u64 r, .agg #[.int .i64 y, .int .i64 q, .int .u64 z]] W fun e w' => e = .returned (.bool true) ∧ Below W.heap.size W w' := by
  have bd : ∀ n : Int, (Lit.int .u64 n).wf = true → 0 ≤ n ∧ n ≤ 18446744073709551615 := fun n h => by
    unfold Lit.wf at h
    simp only [Bool.and_eq_true, decide_eq_true_eq] at h
    exact h
  obtain ⟨r0, r1⟩ := bd r wr
  obtain ⟨z0, z1⟩ := bd z wz
  obtain ⟨u, rfl⟩ : ∃ u : Nat, r = (u : Int) := ⟨r.toNat, by omega⟩
  obtain ⟨m, rfl⟩ : ∃ m : Nat, z = (m : Int) := ⟨z.toNat, by omega⟩
  have wr : ∀ x : Int, ∃ b : Nat, IntKind.u64.wrap x = (b : Int) ∧ b < 18446744073709551616 := fun x => by
    refine ⟨(IntKind.u64.wrap x).toNat, ?_, ?_⟩ <;> (rw [IntKind.wrap_u64]; omega)
  obtain ⟨b, hb, hb'⟩ := wr y
  obtain ⟨s, hs, hs'⟩ := wr q
  refine (law_fn glc lives_fn u m y q b s (by omega) hb hs hb' hs' W (fun _ => False) #[.int .u64 (u : Int), .agg #[.int .i64 y, .int .i64 q, .int .u64 (m : Int)]] (fun _ h => h.elim) (gls_all hL) rfl ?_).mono fun e w' ⟨v, he, hv, hk⟩ => ?_
  · intro i g x hg hx
    match i with
    | 0 => cases hg; cases hx; exact .lit _
    | 1 =>
      cases hg; cases hx
      refine .agg _ _ rfl (fun i x hx => ?_) (fun i g x hg hx => ?_)
      · match i with
        | 0 | 1 | 2 => cases hx; rfl
      · match i with
        | 0 | 1 | 2 => cases hg; cases hx; exact .lit _
  · cases hv
    exact ⟨he, hk.toBelow (Nat.le_refl _) (fun _ _ h => h)⟩
set_option maxRecDepth 100000 in
theorem lifted (os : Os) (started : os.Started) (H : Type) (enc : TypeId × Value → H) :
    ReturnsInHanded {} Tryz.checked os 3 .any (fun w args => (Rows.epochSecretSpec.pre enc Tryz.prog Tryz.f3 [] false w args ∧ laidMetH Tryz.prog laidL w) ∧ sizedMet enc Tryz.prog Tryz.f3 (OpenSpec.ofChange Rows.epochSecretSpec) false w args)
      (Rows.epochSecretSpec.post enc Tryz.prog Tryz.f3 false true false false) := by
  refine returnsInHanded_of_change_and (C := Tryz.checked) (X := fun w _ => laidMetH Tryz.prog laidL w) (fun _ _ _ hh h => h.of_heap hh) own started (by kernel_rfl) Tryz.func3
    (ChangeSpec.witness_shaped (enc := enc) (C := Tryz.checked) (os := os) (X := fun w _ => laidMetH Tryz.prog laidL w) false (World.doorLaid Tryz.prog 600 os) #[.int .u64 0, .agg #[.int .i64 0, .int .i64 0, .int .u64 0]] 8 rfl (World.shaped_of_RefB (by kernel_rfl) (by kernel_rfl)) (by kernel_rfl) (by kernel_rfl) (by kernel_rfl) (door_met os _)) ?_
  intro W base args ds gs before hval0 hW _ _ hL _
  have hval : ∀ (j : Nat) t v, Tryz.f3.params[j]? = some t → args[j]? = some v → Value.okWide Tryz.prog W .any base t v := hval0
  have hW' := hW
  obtain ⟨p, q, hA0, hV, rfl, hfz, hnd⟩ := hW
  have hA : DataW.TrodAll enc Tryz.prog W 0 (fun _ => true) true Tryz.f3.params.toList args.toList ds p := hA0
  rw [Tryz.params3] at hA hval
  obtain ⟨v0, v1, d0, d1, p0, p1, rfl, rfl, rfl, h0, h1⟩ := trodAll_two hA
  obtain ⟨rfl, rfl⟩ := trodVars_none hV
  have k0 := h0
  have k1 := h1
  have lt0 : ∀ x ∈ p0, x.block < W.heap.size := by obtain ⟨m, hm⟩ := k0; exact DataW.trod_lt m _ _ _ hm
  have lt1 : ∀ x ∈ p1, x.block < W.heap.size := by obtain ⟨m, hm⟩ := k1; exact DataW.trod_lt m _ _ _ hm
  obtain ⟨x, rfl, rfl, rfl, wx⟩ := open_int Tryz.underlying22 (hval 0 22 v0 rfl rfl) h0
  obtain ⟨c0, c1, c2, y0, y1, y2, nn, rfl, rfl, rfl, t0, t1, t2⟩ := open_agg3 Tryz.underlying24 (by kernel_rfl) (by kernel_rfl) (hval 1 24 v1 rfl rfl) h1
  obtain ⟨n0, e0, rfl, w0⟩ := DataW.trod_int Tryz.underlying3 t0
  obtain ⟨n1, e1, rfl, w1⟩ := DataW.trod_int Tryz.underlying3 t1
  obtain ⟨n2, e2, rfl, w2⟩ := DataW.trod_int Tryz.underlying22 t2
  simp only [List.cons.injEq, and_true] at e0 e1 e2
  subst e0 e1 e2
  clear hA0 hval0
  refine (walk W hL x n0 n1 n2 wx w2).mono fun e W' ⟨he, bel⟩ => ?_
  subst he
  exact ⟨_, rfl, _, _, _, [], _, [], hW', trodAll_mk1 (shut_bool Tryz.underlying4 _), (trodAll_cons_mk (Below.trod laidOut (by kernel_rfl) (of_decide_eq_true (by kernel_rfl)) k0 bel lt0) (trodAll_cons_mk (Below.trod laidOut (by kernel_rfl) (of_decide_eq_true (by kernel_rfl)) k1 bel lt1) trodAll_mk0)), rfl, bel.frame _, fun h => by cases h⟩

end Go.Proofs.YtpmpmhcckbaoaaaGreatDoor.epochSecret
