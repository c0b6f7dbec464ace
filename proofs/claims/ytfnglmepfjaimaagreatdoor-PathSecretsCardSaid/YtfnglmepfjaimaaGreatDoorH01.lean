/- The document's field: sums, products, powers, walked. -/
import Derived.Test.YtfnglmepfjaimaaGreatDoorGO
namespace Go.Proofs.YtfnglmepfjaimaaGreatDoor
open Go.RowKit
set_option linter.unusedVariables false
set_option linter.unusedSimpArgs false
attribute [local irreducible] Tr Run RunD GS TG Le Wk Frz Fn' ImmG Flat WkFr WkSt

set_option maxHeartbeats 400000 in
theorem add01_fn (a b : Nat) (ha : a < 18446744073709551616) (hb : b < 18446744073709551616) : Fn' Tryz.prog [] 77 [gU a, gU b] (gU ((a + b) % 2305843009213693951)) := by
  refine fn_enter Tryz.func77 rfl (by simp [Tryz.ntmps77]) ?_
  simp only [St.enter, enterFr, Tryz.ntmps77]
  repeat' (first | apply tr_seq | apply tr_region | apply run_nil | apply thn_n | apply thn_e | apply thn_r | apply blk_e | apply blk_n | apply blk_r | (refine blk_ne ?_ ?_; decide) | apply tr_block | apply tr_skip | apply tr_label | apply tr_exit | apply tr_ret | (refine tr_region_draw (bars := []) mixed (by kernel_rfl) ?_) | apply rund_nil | (apply run_v; simp (disch := omega) [if_pos]; (first | rfl | exact ⟨rfl, rfl⟩ | exact ⟨rfl, rfl, rfl, rfl⟩); decide) | (apply rund_v; simp (disch := omega) [if_pos]; (first | rfl | exact ⟨rfl, rfl⟩ | exact ⟨rfl, rfl, rfl, rfl⟩); decide) | (apply run_conv; simp (disch := omega) [if_pos]; (first | rfl | exact ⟨rfl, rfl⟩ | exact ⟨rfl, rfl, rfl, rfl⟩); decide) | (apply rund_conv; simp (disch := omega) [if_pos]; (first | rfl | exact ⟨rfl, rfl⟩ | exact ⟨rfl, rfl, rfl, rfl⟩); decide) | (apply run_min; simp (disch := omega) [if_pos]; (first | rfl | exact ⟨rfl, rfl⟩ | exact ⟨rfl, rfl, rfl, rfl⟩); decide) | (apply rund_min; simp (disch := omega) [if_pos]; (first | rfl | exact ⟨rfl, rfl⟩ | exact ⟨rfl, rfl, rfl, rfl⟩); decide) | (apply run_max; simp (disch := omega) [if_pos]; (first | rfl | exact ⟨rfl, rfl⟩ | exact ⟨rfl, rfl, rfl, rfl⟩); decide) | (apply rund_max; simp (disch := omega) [if_pos]; (first | rfl | exact ⟨rfl, rfl⟩ | exact ⟨rfl, rfl, rfl, rfl⟩); decide) | (apply run_lenS; simp (disch := omega) [if_pos]; (first | rfl | exact ⟨rfl, rfl⟩ | exact ⟨rfl, rfl, rfl, rfl⟩); decide) | (apply rund_lenS; simp (disch := omega) [if_pos]; (first | rfl | exact ⟨rfl, rfl⟩ | exact ⟨rfl, rfl, rfl, rfl⟩); decide) | (apply run_bs; simp (disch := omega) [if_pos]; (first | rfl | exact ⟨rfl, rfl⟩ | exact ⟨rfl, rfl, rfl, rfl⟩); decide) | (apply run_app; simp (disch := omega) [if_pos]; (first | rfl | exact ⟨rfl, rfl⟩ | exact ⟨rfl, rfl, rfl, rfl⟩); decide) | (apply run_build; simp (disch := omega) [if_pos]; (first | rfl | exact ⟨rfl, rfl⟩ | exact ⟨rfl, rfl, rfl, rfl⟩); decide) | (apply run_box; simp (disch := omega) [if_pos]; (first | rfl | exact ⟨rfl, rfl⟩ | exact ⟨rfl, rfl, rfl, rfl⟩); decide) | (apply run_alloc; simp (disch := omega) [if_pos]; (first | rfl | exact ⟨rfl, rfl⟩ | exact ⟨rfl, rfl, rfl, rfl⟩); decide) | (apply rund_build; simp (disch := omega) [if_pos]; (first | rfl | exact ⟨rfl, rfl⟩ | exact ⟨rfl, rfl, rfl, rfl⟩); decide) | (apply run_sto; simp (disch := omega) [if_pos]; rfl) | (apply rund_bs; decide; simp (disch := omega) [if_pos]; (first | rfl | exact ⟨rfl, rfl⟩ | exact ⟨rfl, rfl, rfl, rfl⟩); decide) | (apply rund_app; decide; simp (disch := omega) [if_pos]; (first | rfl | exact ⟨rfl, rfl⟩ | exact ⟨rfl, rfl, rfl, rfl⟩); decide) | (apply rund_sto; decide; simp (disch := omega) [if_pos]; rfl))
  exact ended_r rfl (frz_int (by omega))
theorem mul_mod (A B : Int) (hA : 0 ≤ A) (hB : 0 ≤ B) (L M H : Int) (hL : L = A % 4294967296 * (B % 4294967296)) (hM : M = A / 4294967296 * (B % 4294967296) + A % 4294967296 * (B / 4294967296)) (hH : H = A / 4294967296 * (B / 4294967296)) :
    (L % 2305843009213693951 + M % 536870912 * 4294967296 + M / 536870912 + 8 * H) % 2305843009213693951 = A * B % 2305843009213693951 := by
  have hx : A * B = L + M * 4294967296 + H * 18446744073709551616 := by
    have a1 := Int.emod_add_mul_ediv A 4294967296
    have b1 := Int.emod_add_mul_ediv B 4294967296
    subst hL; subst hM; subst hH
    generalize A % 4294967296 = a0 at *
    generalize A / 4294967296 = a2 at *
    generalize B % 4294967296 = b0 at *
    generalize B / 4294967296 = b2 at *
    rw [← a1, ← b1]
    simp only [Int.add_mul, Int.mul_add]
    have e1 : 4294967296 * a2 * b0 = 4294967296 * (a2 * b0) := Int.mul_assoc ..
    have e2 : a0 * (4294967296 * b2) = 4294967296 * (a0 * b2) := by rw [← Int.mul_assoc, Int.mul_comm a0, Int.mul_assoc]
    have e3 : 4294967296 * a2 * (4294967296 * b2) = 18446744073709551616 * (a2 * b2) := by rw [Int.mul_assoc, ← Int.mul_assoc a2, Int.mul_comm a2, Int.mul_assoc, ← Int.mul_assoc]; rfl
    rw [e1, e2, e3]
    omega
  rw [hx]
  omega
set_option maxHeartbeats 1000000 in
theorem mul01_fn (a b : Nat) (ha : a < 18446744073709551616) (hb : b < 18446744073709551616) : Fn' Tryz.prog [] 78 [gU a, gU b] (gU (a * b % 2305843009213693951)) := by
  have e1 := mul_bd (x := (a : Int) % 2305843009213693951 % 4294967296) (y := (b : Int) % 2305843009213693951 % 4294967296) (m := 4294967295) (n := 4294967295) (by omega) (by omega) (by omega) (by omega)
  have e2 := mul_bd (x := (a : Int) % 2305843009213693951 / 4294967296) (y := (b : Int) % 2305843009213693951 % 4294967296) (m := 536870911) (n := 4294967295) (by omega) (by omega) (by omega) (by omega)
  have e3 := mul_bd (x := (a : Int) % 2305843009213693951 % 4294967296) (y := (b : Int) % 2305843009213693951 / 4294967296) (m := 4294967295) (n := 536870911) (by omega) (by omega) (by omega) (by omega)
  have e4 := mul_bd (x := (a : Int) % 2305843009213693951 / 4294967296) (y := (b : Int) % 2305843009213693951 / 4294967296) (m := 536870911) (n := 536870911) (by omega) (by omega) (by omega) (by omega)
  refine fn_enter Tryz.func78 rfl (by simp [Tryz.ntmps78]) ?_
  simp only [St.enter, enterFr, Tryz.ntmps78]
  repeat' (first | apply tr_seq | apply tr_region | apply run_nil | apply thn_n | apply thn_e | apply thn_r | apply blk_e | apply blk_n | apply blk_r | (refine blk_ne ?_ ?_; decide) | apply tr_block | apply tr_skip | apply tr_label | apply tr_exit | apply tr_ret | (refine tr_region_draw (bars := []) mixed (by kernel_rfl) ?_) | apply rund_nil | (apply run_v; simp (disch := omega) [if_pos]; (first | rfl | exact ⟨rfl, rfl⟩ | exact ⟨rfl, rfl, rfl, rfl⟩); decide) | (apply rund_v; simp (disch := omega) [if_pos]; (first | rfl | exact ⟨rfl, rfl⟩ | exact ⟨rfl, rfl, rfl, rfl⟩); decide) | (apply run_conv; simp (disch := omega) [if_pos]; (first | rfl | exact ⟨rfl, rfl⟩ | exact ⟨rfl, rfl, rfl, rfl⟩); decide) | (apply rund_conv; simp (disch := omega) [if_pos]; (first | rfl | exact ⟨rfl, rfl⟩ | exact ⟨rfl, rfl, rfl, rfl⟩); decide) | (apply run_min; simp (disch := omega) [if_pos]; (first | rfl | exact ⟨rfl, rfl⟩ | exact ⟨rfl, rfl, rfl, rfl⟩); decide) | (apply rund_min; simp (disch := omega) [if_pos]; (first | rfl | exact ⟨rfl, rfl⟩ | exact ⟨rfl, rfl, rfl, rfl⟩); decide) | (apply run_max; simp (disch := omega) [if_pos]; (first | rfl | exact ⟨rfl, rfl⟩ | exact ⟨rfl, rfl, rfl, rfl⟩); decide) | (apply rund_max; simp (disch := omega) [if_pos]; (first | rfl | exact ⟨rfl, rfl⟩ | exact ⟨rfl, rfl, rfl, rfl⟩); decide) | (apply run_lenS; simp (disch := omega) [if_pos]; (first | rfl | exact ⟨rfl, rfl⟩ | exact ⟨rfl, rfl, rfl, rfl⟩); decide) | (apply rund_lenS; simp (disch := omega) [if_pos]; (first | rfl | exact ⟨rfl, rfl⟩ | exact ⟨rfl, rfl, rfl, rfl⟩); decide) | (apply run_bs; simp (disch := omega) [if_pos]; (first | rfl | exact ⟨rfl, rfl⟩ | exact ⟨rfl, rfl, rfl, rfl⟩); decide) | (apply run_app; simp (disch := omega) [if_pos]; (first | rfl | exact ⟨rfl, rfl⟩ | exact ⟨rfl, rfl, rfl, rfl⟩); decide) | (apply run_build; simp (disch := omega) [if_pos]; (first | rfl | exact ⟨rfl, rfl⟩ | exact ⟨rfl, rfl, rfl, rfl⟩); decide) | (apply run_box; simp (disch := omega) [if_pos]; (first | rfl | exact ⟨rfl, rfl⟩ | exact ⟨rfl, rfl, rfl, rfl⟩); decide) | (apply run_alloc; simp (disch := omega) [if_pos]; (first | rfl | exact ⟨rfl, rfl⟩ | exact ⟨rfl, rfl, rfl, rfl⟩); decide) | (apply rund_build; simp (disch := omega) [if_pos]; (first | rfl | exact ⟨rfl, rfl⟩ | exact ⟨rfl, rfl, rfl, rfl⟩); decide) | (apply run_sto; simp (disch := omega) [if_pos]; rfl) | (apply rund_bs; decide; simp (disch := omega) [if_pos]; (first | rfl | exact ⟨rfl, rfl⟩ | exact ⟨rfl, rfl, rfl, rfl⟩); decide) | (apply rund_app; decide; simp (disch := omega) [if_pos]; (first | rfl | exact ⟨rfl, rfl⟩ | exact ⟨rfl, rfl, rfl, rfl⟩); decide) | (apply rund_sto; decide; simp (disch := omega) [if_pos]; rfl))
  refine ended_r rfl (frz_int ?_)
  rw [mul_mod ((a : Int) % 2305843009213693951) ((b : Int) % 2305843009213693951) (by omega) (by omega) _ _ _ rfl rfl rfl, ← Int.mul_emod]
  have e : ((a * b : Nat) : Int) = (a : Int) * b := Int.natCast_mul a b
  rw [← e]
  omega
end Go.Proofs.YtfnglmepfjaimaaGreatDoor
