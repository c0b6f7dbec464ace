/- SpyLess: the call, lifted to readings. -/
import Derived.Test.YtjbbgjbknfoddaaGreatDoorC34g
import Derived.Test.YtjbbgjbknfoddaaGreatDoorTied
import Derived.ProofKit
import Derived.LaidMore
import Derived.OpenShut
import Derived.Stop.Joined
import Derived.Lib.SmallJoins
namespace Go.Proofs.YtjbbgjbknfoddaaGreatDoor.spyLess
open Go.ChangeShapes Go.WideShapes Go.ChangeAt Go.RowKit Go.Joins Go.Proofs.YtjbbgjbknfoddaaGreatDoor
set_option linter.unusedVariables false

theorem laidOut : laidOutB Tryz.prog = true := by kernel_rfl
theorem own : ownKnob Tryz.prog.godebug = none := by kernel_rfl
/-- The door's own heap meets the condition. -/
theorem door_met (os : Os) (args : Array Value) : laidMetH Tryz.prog laidL ((World.doorLaid Tryz.prog 600 os).forCall (fun _ _ => 0) ⟨#[], args, []⟩).memory :=
  laidMetH_of_parts3 (fuel := 8) (laidMet_of_run' 8 (by kernel_rfl) (by kernel_rfl)) (by kernel_rfl) (by kernel_rfl)
section
variable {H : Type} {enc : TypeId × Value → H} {w : World} {d : DataW H} {p : List MemPlace}

set_option maxRecDepth 100000 in
theorem term_open {b0 : Nat} {v : Value} (hv : Value.okWide Tryz.prog w .any b0 38 v) (h : DataW.Trod enc Tryz.prog w 0 (fun _ => true) true 38 v d p) : ∃ m : Tm, v = .agg (encT m).toArray := by
  obtain ⟨cs, rfl, hsz⟩ := okWide_struct Tryz.underlying38 hv
  obtain ⟨fuel, hf⟩ := h
  obtain ⟨l⟩ := cs
  rw [show Tryz.prog.cellsOf 38 = 6 by kernel_rfl] at hsz
  match l, hsz with
  | [c0, c1, c2, c3, c4, c5], _ =>
    obtain ⟨y0, y1, y2, y3, n, _, _, h0, h1, h2, h3⟩ := trod_struct4 Tryz.underlying38 hf
    rw [show Tryz.prog.cellsOf 3 = 1 by kernel_rfl] at h0 h2 h3
    rw [show Tryz.prog.cellsOf 36 = 3 by kernel_rfl] at h1
    obtain ⟨z0, z1, z2, k, _, _, g0, g1, g2⟩ := Go.Deep.trod_struct3 Tryz.underlying36 h1
    rw [show Tryz.prog.cellsOf 3 = 1 by kernel_rfl] at g0 g1
    rw [show Tryz.prog.cellsOf 34 = 1 by kernel_rfl] at g2
    obtain ⟨n0, e0, _⟩ := DataW.trod_int Tryz.underlying3 h0
    obtain ⟨n1, e1, _⟩ := DataW.trod_int Tryz.underlying3 g0
    obtain ⟨n2, e2, _⟩ := DataW.trod_int Tryz.underlying3 g1
    obtain ⟨n3, e3, _⟩ := DataW.trod_int Tryz.underlying34 g2
    obtain ⟨n4, e4, _⟩ := DataW.trod_int Tryz.underlying3 h2
    obtain ⟨n5, e5, _⟩ := DataW.trod_int Tryz.underlying3 h3
    simp [Value.cells] at e0 e1 e2 e3 e4 e5
    subst e0 e1 e2 e3 e4 e5
    exact ⟨⟨n0, n1, n2, n3, n4, n5⟩, rfl⟩
end
theorem iv_term {W : World} (m : Tm) : IV (fun _ => False) W (gT m) (.agg (encT m).toArray) := by
  rw [gT_c]
  refine .agg _ _ rfl (fun i x hx => ?_) (fun i g x hg hx => ?_)
  · match i with
    | 0 | 1 | 2 | 3 | 4 | 5 => cases hx; rfl
  · match i with
    | 0 | 1 | 2 | 3 | 4 | 5 => cases hg; cases hx; exact .lit _
/-- The walk: the law answers true, and writes nothing that was there. -/
theorem walk (W : World) (hL : laidMetH Tryz.prog laidL W) (a b c : Tm) :
    Calls Tryz.prog 4 #[.agg (encT a).toArray, .agg (encT b).toArray, .agg (encT c).toArray] W fun e w' => e = .returned (.bool true) ∧ Below W.heap.size W w' := by
  refine (law34_fn glc lives_fn a b c W (fun _ => False) #[.agg (encT a).toArray, .agg (encT b).toArray, .agg (encT c).toArray] (fun _ h => h.elim) (gls_all hL) rfl ?_).mono fun e w' ⟨v, he, hv, hk⟩ => ?_
  · intro i g x hg hx
    match i with
    | 0 => cases hg; cases hx; exact iv_term a
    | 1 => cases hg; cases hx; exact iv_term b
    | 2 => cases hg; cases hx; exact iv_term c
  · cases hv
    exact ⟨he, hk.toBelow (Nat.le_refl _) (fun _ _ h => h)⟩
set_option maxRecDepth 100000 in
theorem lifted (os : Os) (started : os.Started) (H : Type) (enc : TypeId × Value → H) :
    ReturnsInHanded {} Tryz.checked os 4 .any (fun w args => (Rows.spyLessSpec.pre enc Tryz.prog Tryz.f4 [] false w args ∧ laidMetH Tryz.prog laidL w) ∧ sizedMet enc Tryz.prog Tryz.f4 (OpenSpec.ofChange Rows.spyLessSpec) false w args)
      (Rows.spyLessSpec.post enc Tryz.prog Tryz.f4 false true false false) := by
  refine returnsInHanded_of_change_and (C := Tryz.checked) (X := fun w _ => laidMetH Tryz.prog laidL w) (fun _ _ _ hh h => h.of_heap hh) own started (by kernel_rfl) Tryz.func4
    (ChangeSpec.witness_shaped (enc := enc) (C := Tryz.checked) (os := os) (X := fun w _ => laidMetH Tryz.prog laidL w) false (World.doorLaid Tryz.prog 600 os) #[.agg #[.int .i64 0, .int .i64 0, .int .i64 0, .int .u64 0, .int .i64 0, .int .i64 0], .agg #[.int .i64 0, .int .i64 0, .int .i64 0, .int .u64 0, .int .i64 0, .int .i64 0], .agg #[.int .i64 0, .int .i64 0, .int .i64 0, .int .u64 0, .int .i64 0, .int .i64 0]] 8 rfl (World.shaped_of_RefB (by kernel_rfl) (by kernel_rfl)) (by kernel_rfl) (by kernel_rfl) (by kernel_rfl) (door_met os _)) ?_
  intro W base args ds gs before hval0 hW _ _ hL _
  have hval : ∀ (j : Nat) t v, Tryz.f4.params[j]? = some t → args[j]? = some v → Value.okWide Tryz.prog W .any base t v := hval0
  have hW' := hW
  obtain ⟨p, q, hA0, hV, rfl, hfz, hnd⟩ := hW
  have hA : DataW.TrodAll enc Tryz.prog W 0 (fun _ => true) true Tryz.f4.params.toList args.toList ds p := hA0
  rw [Tryz.params4] at hA hval
  obtain ⟨v0, vs0, d0, ds0, p0, q0, hargs, rfl, rfl, h0, r0⟩ := trodAll_cons hA
  obtain ⟨v1, vs1, d1, ds1, p1, q1, rfl, rfl, rfl, h1, r1⟩ := trodAll_cons r0
  obtain ⟨v2, vs2, d2, ds2, p2, q2, rfl, rfl, rfl, h2, r2⟩ := trodAll_cons r1
  obtain ⟨rfl, rfl, rfl⟩ := trodAll_nil r2
  obtain rfl : args = #[v0, v1, v2] := by cases args; simp_all
  obtain ⟨rfl, rfl⟩ := trodVars_none hV
  have k0 := h0
  have k1 := h1
  have k2 := h2
  have lt0 : ∀ x ∈ p0, x.block < W.heap.size := by obtain ⟨m, hm⟩ := k0; exact DataW.trod_lt m _ _ _ hm
  have lt1 : ∀ x ∈ p1, x.block < W.heap.size := by obtain ⟨m, hm⟩ := k1; exact DataW.trod_lt m _ _ _ hm
  have lt2 : ∀ x ∈ p2, x.block < W.heap.size := by obtain ⟨m, hm⟩ := k2; exact DataW.trod_lt m _ _ _ hm
  obtain ⟨a, rfl⟩ := term_open (hval 0 38 v0 rfl rfl) h0
  obtain ⟨b, rfl⟩ := term_open (hval 1 38 v1 rfl rfl) h1
  obtain ⟨c, rfl⟩ := term_open (hval 2 38 v2 rfl rfl) h2
  clear hA0 hval0
  refine (walk W hL a b c).mono fun e W' ⟨he, bel⟩ => ?_
  subst he
  exact ⟨_, rfl, _, _, _, [], _, [], hW', trodAll_mk1 (shut_bool Tryz.underlying4 _), (trodAll_cons_mk (Below.trod laidOut (by kernel_rfl) (of_decide_eq_true (by kernel_rfl)) k0 bel lt0) (trodAll_cons_mk (Below.trod laidOut (by kernel_rfl) (of_decide_eq_true (by kernel_rfl)) k1 bel lt1) (trodAll_cons_mk (Below.trod laidOut (by kernel_rfl) (of_decide_eq_true (by kernel_rfl)) k2 bel lt2) trodAll_mk0))), rfl, bel.frame _, fun h => by cases h⟩
end Go.Proofs.YtjbbgjbknfoddaaGreatDoor.spyLess
