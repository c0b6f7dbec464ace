/- The document's example, 'lives': it answers true. -/
import Derived.Test.YtmgjccalpdlbbaaOver
import Derived.Test.YtmgjccalpdlbbaaLMet
import Derived.Test.YtmgjccalpdlbbaaNew
namespace Go.Proofs.Ytmgjccalpdlbbaa
open Go.RowKit
set_option linter.unusedVariables false

theorem stepsAt_one {w : World} {lo hi b : Nat} {s : StepV} {arr : Array Value} (hB : Blk w b 38 arr.toList) (hA : StepArr w lo hi s arr) (hb : lo ≤ b ∧ b < hi) : StepsAt w lo hi (.slice (some ⟨b, 0, none⟩) 1 1) [s] := by
  refine ⟨some ⟨b, 0, none⟩, 1, rfl, by simp, by omega, fun x hx => by cases hx; exact hb, fun i s' hs => ?_⟩
  have hi : i = 0 := by have := (List.getElem?_eq_some_iff.1 hs).1; simp at this; omega
  subst hi
  simp at hs
  subst hs
  refine ⟨b, 0, arr, rfl, fun j v hv => ?_, hA⟩
  rw [show 0 + 0 * 34 + j = j from by omega]
  exact cell_of_blk hB hv

/-- The link of the example, the number of what it counted being c. -/
def exFlt (c : Int) : List Flt := [{ dk := 4, fr := 3, til := 5, each := 2, set := fun _ => false, count := c }]

theorem over_ex (w : World) (lo hi p : Nat) (pbs : List Nat) (c r d v c' : Int) (h : LinkAt w lo hi p pbs (exFlt c)) (hc : c < 1000000) (hv : overVal (exFlt c) r = v) (hc' : (exFlt c).map (Flt.tick r) = exFlt c') :
    Calls Try.prog 11 #[.pointer (some ⟨p, 0, none⟩), .int .i64 r, .int .i64 d] w fun e w' => e = .returned (.int .i64 v) ∧ LinkAt w' lo hi p pbs (exFlt c') ∧ Keeps (fun b => lo ≤ b ∧ b < hi) w w' := by
  have := over_any w lo hi p pbs (exFlt c) r d h (by intro f hf; simp [exFlt] at hf; subst hf; exact hc)
  rwa [hv, hc'] at this

set_option maxRecDepth 100000 in
set_option maxHeartbeats 2000000 in
theorem lives_any (w : World) : Calls Try.prog 12 #[] w fun e w' => e = .returned (.bool true) ∧ Below w.heap.size w w' := by
  go_enter Try.func12, Try.ntmps12
  go_upto_region 2 with (first | (refine wpL_buildOne rfl (.tmp 8) rfl (stepMk 4 3 5 2 (.slice none 0 0)) rfl rfl ?_; intro w1 B1 K1 S1; have HB1 := Lib.hid B1; have HK1 := Lib.hid K1; have HS1 := Lib.hid S1; clear B1 K1 S1) | (go_at_call 10; refine (new_any w1 w.heap.size w1.heap.size _ [⟨4, 3, 5, 2, []⟩] (stepsAt_one HB1.out (stepMk_arr (s := ⟨4, 3, 5, 2, []⟩) (sv := .slice none 0 0) rfl (IntsAt.nil _ _ _)) (by have := HS1.out; omega)) (Nat.le_refl _) (by simp) (by simp) (by simp)).mono ?_; rintro e w2 ⟨pbs, rfl, hL, hB⟩; have HL := Lib.hid hL; have HB := Lib.hid hB; clear hL hB))
  have HL1 : Hid (w.heap.size ≤ w1.heap.size) := Lib.hid (by have := HS1.out; omega)
  have H0 : Hid (LinkAt w2 w1.heap.size w2.heap.size w1.heap.size pbs (exFlt 0)) := HL
  have G0 : Hid (Below w.heap.size w w2) := Lib.hid ((HK1.out.toBelow (Nat.le_refl _) (fun _ _ x => x)).trans (HB.out.mono HL1.out))
  clear HL HB HB1 HK1 HS1
  go_wp2_with fail
  refine (over_ex _ _ _ _ _ 0 2 1 1 0 H0.out (by omega) (by rfl) (by rfl)).mono ?_
  rintro e w3 ⟨rfl, hL, hK⟩
  have H1 := Lib.hid hL
  have G1 : Hid (Below w.heap.size w w3) := Lib.hid (G0.out.trans (hK.toBelow G0.out.size (fun b hb x => by have := HL1.out; omega)))
  clear hL hK H0 G0
  go_wp2_with fail
  refine (over_ex _ _ _ _ _ 0 3 1 1 1 H1.out (by omega) (by rfl) (by rfl)).mono ?_
  rintro e w4 ⟨rfl, hL, hK⟩
  have H2 := Lib.hid hL
  have G2 : Hid (Below w.heap.size w w4) := Lib.hid (G1.out.trans (hK.toBelow G1.out.size (fun b hb x => by have := HL1.out; omega)))
  clear hL hK H1 G1
  go_wp2_with fail
  refine (over_ex _ _ _ _ _ 1 3 2 0 2 H2.out (by omega) (by rfl) (by rfl)).mono ?_
  rintro e w5 ⟨rfl, hL, hK⟩
  have H3 := Lib.hid hL
  have G3 : Hid (Below w.heap.size w w5) := Lib.hid (G2.out.trans (hK.toBelow G2.out.size (fun b hb x => by have := HL1.out; omega)))
  clear hL hK H2 G2
  go_wp2_with fail
  refine (over_ex _ _ _ _ _ 2 3 1 1 3 H3.out (by omega) (by rfl) (by rfl)).mono ?_
  rintro e w6 ⟨rfl, hL, hK⟩
  have H4 := Lib.hid hL
  have G4 : Hid (Below w.heap.size w w6) := Lib.hid (G3.out.trans (hK.toBelow G3.out.size (fun b hb x => by have := HL1.out; omega)))
  clear hL hK H3 G3
  go_wp2_with fail
  refine (over_ex _ _ _ _ _ 3 4 9 0 4 H4.out (by omega) (by rfl) (by rfl)).mono ?_
  rintro e w7 ⟨rfl, hL, hK⟩
  have H5 := Lib.hid hL
  have G5 : Hid (Below w.heap.size w w7) := Lib.hid (G4.out.trans (hK.toBelow G4.out.size (fun b hb x => by have := HL1.out; omega)))
  clear hL hK H4 G4
  go_wp2_with fail
  refine (over_ex _ _ _ _ _ 4 5 1 1 4 H5.out (by omega) (by rfl) (by rfl)).mono ?_
  rintro e w8 ⟨rfl, hL, hK⟩
  have H6 := Lib.hid hL
  have G6 : Hid (Below w.heap.size w w8) := Lib.hid (G5.out.trans (hK.toBelow G5.out.size (fun b hb x => by have := HL1.out; omega)))
  clear hL hK H5 G5
  go_wp2_with (go_at_call 18; refine (lquiet_any _ _ _ _ _ _ H6.out).mono ?_; rintro e w' ⟨rfl, rfl⟩; rw [show lquietOf (exFlt 4) = 5 from by rfl])
  go_ret
  exact ⟨rfl, G6.out⟩
end Go.Proofs.Ytmgjccalpdlbbaa
