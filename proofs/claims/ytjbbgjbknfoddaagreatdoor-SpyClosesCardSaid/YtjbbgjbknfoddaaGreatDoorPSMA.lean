/- SpyCloses: the call, lifted to readings. -/
import Derived.Test.YtjbbgjbknfoddaaGreatDoorC34g
import Derived.Test.YtjbbgjbknfoddaaGreatDoorReM
import Derived.ChangeSlices
import Derived.Test.YtjbbgjbknfoddaaGreatDoorTied
import Derived.ProofKit
import Derived.LaidMore
import Derived.OpenShut
import Derived.Stop.Joined
import Derived.Lib.SmallJoins
namespace Go.Proofs.YtjbbgjbknfoddaaGreatDoor.spyCloses
open Go.ChangeShapes Go.WideShapes Go.ChangeAt Go.RowKit Go.Joins Go.Proofs.YtjbbgjbknfoddaaGreatDoor
set_option linter.unusedVariables false

theorem laidOut : laidOutB Tryz.prog = true := by kernel_rfl
theorem own : ownKnob Tryz.prog.godebug = none := by kernel_rfl
/-- The door's own heap meets the condition. -/
theorem door_met (os : Os) (args : Array Value) : laidMetH Tryz.prog laidL ((World.doorLaid Tryz.prog 600 os).forCall (fun _ _ => 0) ⟨#[], args, []⟩).memory :=
  laidMetH_of_parts3 (fuel := 8) (laidMet_of_run' 8 (by kernel_rfl) (by kernel_rfl)) (by kernel_rfl) (by kernel_rfl)
section
variable {H : Type} {enc : TypeId × Value → H} {w : World} {d : DataW H} {p : List MemPlace}

set_option maxRecDepth 100000 in
theorem ints_open {b0 : Nat} {v : Value} (hv0 : Value.okWide Tryz.prog w .any b0 22 v) (h : DataW.Trod enc Tryz.prog w 0 (fun _ => true) true 22 v d p) (hlt : ∀ x ∈ p, x.block < w.heap.size) : ∃ zs : List Int, Ints zs ∧ IV (fun _ => False) w (rowI zs) v := by
  obtain ⟨A0, L0, C0, rfl⟩ := okWide_slice Tryz.underlying22 hv0
  obtain ⟨fuel, hf⟩ := h
  rcases open_ints Tryz.underlying22 Tryz.underlying3 (show Tryz.prog.cellsOf 3 = 1 by kernel_rfl) hf with ⟨hcs, hx⟩ | ⟨a, l, c, zs, hcs, _, hl, hm, hz, hx, hcell, hwz⟩
  · have hv : Value.slice A0 L0 C0 = .slice none 0 0 := by simpa [Value.cells] using hcs
    rw [hv]
    exact ⟨[], ⟨by simp, fun _ h => by cases h⟩, .sl [] 0 none 0 (fun _ => undef) (Nat.le_refl _) (Nat.zero_le _) (by simp) (by simp) (by simp)⟩
  · have hv : Value.slice A0 L0 C0 = .slice (some a) l c := by simpa [Value.cells] using hcs
    rw [hv]
    have hz' : zs.length = c := by simpa using hz
    obtain ⟨ab, ao, ae⟩ := a
    have hlen : (zs.take l).length = l := by simp; omega
    refine ⟨zs.take l, ⟨by rw [hlen]; have : maxLen ≤ 9223372036854775807 := by decide
                           omega, fun z hzm => ?_⟩, ?_⟩
    · have := hwz z (List.mem_of_mem_take hzm)
      unfold Lit.wf at this
      simp only [Bool.and_eq_true, decide_eq_true_eq] at this
      exact this
    · show IV (fun _ => False) w (.sl ((zs.take l).map gInt) (zs.take l).length) _
      rw [hlen]
      refine .sl _ l (some ⟨ab, ao, ae⟩) c (fun i => .int .i64 (zs.getD i 0)) hl hm (fun i hi => ?_) (fun i hi => rfl) (fun i g hg => ?_)
      · have hi' : i < zs.length := by simp at hi; omega
        have h0 := hcell 0 (by omega)
        have e0 : ae = none := by
          cases ae with
          | none => rfl
          | some s =>
            unfold World.cell? Addr.add at h0
            simp at h0
            split at h0 <;> simp at h0
        subst e0
        have h1 := hcell i hi'
        have e1 : (⟨ab, ao, none⟩ : Addr).add i = ⟨ab, ao + i, none⟩ := by
          unfold Addr.add
          split
          · subst_vars; rfl
          · rfl
        rw [e1] at h1
        refine ⟨ab, ao, rfl, fun h => h, ?_, h1⟩
        unfold World.cell? at h1
        split at h1
        · rename_i h; exact (Array.getElem?_eq_some_iff.1 h).1
        · cases h1
      · rw [List.getElem?_map] at hg
        cases hz2 : (zs.take l)[i]? with
        | none => rw [hz2] at hg; cases hg
        | some z =>
          rw [hz2] at hg
          cases hg
          have hz3 : zs[i]? = some z := by
            rw [List.getElem?_take] at hz2
            split at hz2
            · exact hz2
            · cases hz2
          have : zs.getD i 0 = z := by simp [List.getD, hz3]
          show IV _ _ (gInt z) (.int .i64 (zs.getD i 0))
          rw [this]
          exact .lit _
end
/-- The walk: the law answers true, and writes nothing that was there. -/
theorem walk (W : World) (hL : laidMetH Tryz.prog laidL W) (u0 u1 u2 u3 : Value) (z0 z1 z2 z3 : List Int) (i0 : Ints z0) (i1 : Ints z1) (i2 : Ints z2) (i3 : Ints z3) (v0 : IV (fun _ => False) W (rowI z0) u0) (v1 : IV (fun _ => False) W (rowI z1) u1) (v2 : IV (fun _ => False) W (rowI z2) u2) (v3 : IV (fun _ => False) W (rowI z3) u3) :
    Calls Tryz.prog 5 #[u0, u1, u2, u3] W fun e w' => e = .returned (.bool true) ∧ Below W.heap.size W w' := by
  refine (lawCloses_fn glc lives_fn z0 z1 z2 z3 i0 i1 i2 i3 W (fun _ => False) #[u0, u1, u2, u3] (fun _ h => h.elim) (gls_all hL) rfl ?_).mono fun e w' ⟨v, he, hv, hk⟩ => ?_
  · intro i g x hg hx
    match i with
    | 0 => cases hg; cases hx; exact v0
    | 1 => cases hg; cases hx; exact v1
    | 2 => cases hg; cases hx; exact v2
    | 3 => cases hg; cases hx; exact v3
  · cases hv
    exact ⟨he, hk.toBelow (Nat.le_refl _) (fun _ _ h => h)⟩
set_option maxRecDepth 100000 in
theorem lifted (os : Os) (started : os.Started) (H : Type) (enc : TypeId × Value → H) :
    ReturnsInHanded {} Tryz.checked os 5 .any (fun w args => (Rows.spyClosesSpec.pre enc Tryz.prog Tryz.f5 [] false w args ∧ laidMetH Tryz.prog laidL w) ∧ sizedMet enc Tryz.prog Tryz.f5 (OpenSpec.ofChange Rows.spyClosesSpec) false w args)
      (Rows.spyClosesSpec.post enc Tryz.prog Tryz.f5 false true false false) := by
  refine returnsInHanded_of_change_and (C := Tryz.checked) (X := fun w _ => laidMetH Tryz.prog laidL w) (fun _ _ _ hh h => h.of_heap hh) own started (by kernel_rfl) Tryz.func5
    (ChangeSpec.witness_shaped (enc := enc) (C := Tryz.checked) (os := os) (X := fun w _ => laidMetH Tryz.prog laidL w) false (World.doorLaid Tryz.prog 600 os) #[.slice none 0 0, .slice none 0 0, .slice none 0 0, .slice none 0 0] 8 rfl (World.shaped_of_RefB (by kernel_rfl) (by kernel_rfl)) (by kernel_rfl) (by kernel_rfl) (by kernel_rfl) (door_met os _)) ?_
  intro W base args ds gs before hval0 hW _ _ hL _
  have hval : ∀ (j : Nat) t v, Tryz.f5.params[j]? = some t → args[j]? = some v → Value.okWide Tryz.prog W .any base t v := hval0
  have hW' := hW
  obtain ⟨p, q, hA0, hV, rfl, hfz, hnd⟩ := hW
  have hA : DataW.TrodAll enc Tryz.prog W 0 (fun _ => true) true Tryz.f5.params.toList args.toList ds p := hA0
  rw [Tryz.params5] at hA hval
  obtain ⟨v0, vs0, d0, ds0, p0, q0, hargs, rfl, rfl, h0, r0⟩ := trodAll_cons hA
  obtain ⟨v1, vs1, d1, ds1, p1, q1, rfl, rfl, rfl, h1, r1⟩ := trodAll_cons r0
  obtain ⟨v2, vs2, d2, ds2, p2, q2, rfl, rfl, rfl, h2, r2⟩ := trodAll_cons r1
  obtain ⟨v3, vs3, d3, ds3, p3, q3, rfl, rfl, rfl, h3, r3⟩ := trodAll_cons r2
  obtain ⟨rfl, rfl, rfl⟩ := trodAll_nil r3
  obtain rfl : args = #[v0, v1, v2, v3] := by cases args; simp_all
  obtain ⟨rfl, rfl⟩ := trodVars_none hV
  have k0 := h0
  have k1 := h1
  have k2 := h2
  have k3 := h3
  have lt0 : ∀ x ∈ p0, x.block < W.heap.size := by obtain ⟨m, hm⟩ := k0; exact DataW.trod_lt m _ _ _ hm
  have lt1 : ∀ x ∈ p1, x.block < W.heap.size := by obtain ⟨m, hm⟩ := k1; exact DataW.trod_lt m _ _ _ hm
  have lt2 : ∀ x ∈ p2, x.block < W.heap.size := by obtain ⟨m, hm⟩ := k2; exact DataW.trod_lt m _ _ _ hm
  have lt3 : ∀ x ∈ p3, x.block < W.heap.size := by obtain ⟨m, hm⟩ := k3; exact DataW.trod_lt m _ _ _ hm
  obtain ⟨z0, i0, iv0⟩ := ints_open (hval 0 22 v0 rfl rfl) h0 lt0
  obtain ⟨z1, i1, iv1⟩ := ints_open (hval 1 22 v1 rfl rfl) h1 lt1
  obtain ⟨z2, i2, iv2⟩ := ints_open (hval 2 22 v2 rfl rfl) h2 lt2
  obtain ⟨z3, i3, iv3⟩ := ints_open (hval 3 22 v3 rfl rfl) h3 lt3
  clear hA0 hval0
  refine (walk W hL v0 v1 v2 v3 z0 z1 z2 z3 i0 i1 i2 i3 iv0 iv1 iv2 iv3).mono fun e W' ⟨he, bel⟩ => ?_
  subst he
  exact ⟨_, rfl, _, _, _, [], _, [], hW', trodAll_mk1 (shut_bool Tryz.underlying4 _), (trodAll_cons_mk (Below.trod laidOut (by kernel_rfl) (of_decide_eq_true (by kernel_rfl)) k0 bel lt0) (trodAll_cons_mk (Below.trod laidOut (by kernel_rfl) (of_decide_eq_true (by kernel_rfl)) k1 bel lt1) (trodAll_cons_mk (Below.trod laidOut (by kernel_rfl) (of_decide_eq_true (by kernel_rfl)) k2 bel lt2) (trodAll_cons_mk (Below.trod laidOut (by kernel_rfl) (of_decide_eq_true (by kernel_rfl)) k3 bel lt3) trodAll_mk0)))), rfl, bel.frame _, fun h => by cases h⟩
end Go.Proofs.YtjbbgjbknfoddaaGreatDoor.spyCloses
