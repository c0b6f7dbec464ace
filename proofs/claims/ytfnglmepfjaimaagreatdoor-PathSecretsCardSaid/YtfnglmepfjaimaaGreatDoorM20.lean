/- The fields' functions on any numbers, fitting or not: for runs with numbers that are not known. -/
import Derived.Test.YtfnglmepfjaimaaGreatDoorH01
import Derived.Test.YtfnglmepfjaimaaGreatDoorH02
import Derived.Test.YtfnglmepfjaimaaGreatDoorES
import Derived.KernelRfl
import Derived.Test.YtfnglmepfjaimaaGreatDoorGO
namespace Go.Proofs.YtfnglmepfjaimaaGreatDoor
section
open Go.RowKit
set_option linter.unusedVariables false
set_option linter.unusedSimpArgs false
attribute [local irreducible] Tr Run RunD GS TG Le Wk Frz Fn' ImmG Flat WkFr WkSt
attribute [local simp] gb_and32I gb_and61I gb_shr32I gb_shr61I gb_shl3I
def mulR (a b : Nat) : Nat := a * b % 2305843009213693951
def addR (a b : Nat) : Nat := (a + b) % 2305843009213693951
set_option maxHeartbeats 400000 in
theorem add01_all (a b : Nat) : Fn' Tryz.prog [] 77 [gU a, gU b] (gU (addR a b)) := by
  refine fn_enter Tryz.func77 rfl (by simp [Tryz.ntmps77]) ?_
  simp only [St.enter, enterFr, Tryz.ntmps77]
  repeat' (first | apply tr_seq | apply tr_region | apply run_nil | apply thn_n | apply thn_e | apply thn_r | apply blk_e | apply blk_n | apply blk_r | (refine blk_ne ?_ ?_; decide) | apply tr_block | apply tr_skip | apply tr_label | apply tr_exit | apply tr_ret | (refine tr_region_draw (bars := []) mixed (by kernel_rfl) ?_) | apply rund_nil | (apply run_v; simp (disch := omega) [if_pos]; (first | rfl | exact ⟨rfl, rfl⟩ | exact ⟨rfl, rfl, rfl, rfl⟩); decide) | (apply rund_v; simp (disch := omega) [if_pos]; (first | rfl | exact ⟨rfl, rfl⟩ | exact ⟨rfl, rfl, rfl, rfl⟩); decide) | (apply run_conv; simp (disch := omega) [if_pos]; (first | rfl | exact ⟨rfl, rfl⟩ | exact ⟨rfl, rfl, rfl, rfl⟩); decide) | (apply rund_conv; simp (disch := omega) [if_pos]; (first | rfl | exact ⟨rfl, rfl⟩ | exact ⟨rfl, rfl, rfl, rfl⟩); decide) | (apply run_min; simp (disch := omega) [if_pos]; (first | rfl | exact ⟨rfl, rfl⟩ | exact ⟨rfl, rfl, rfl, rfl⟩); decide) | (apply rund_min; simp (disch := omega) [if_pos]; (first | rfl | exact ⟨rfl, rfl⟩ | exact ⟨rfl, rfl, rfl, rfl⟩); decide) | (apply run_max; simp (disch := omega) [if_pos]; (first | rfl | exact ⟨rfl, rfl⟩ | exact ⟨rfl, rfl, rfl, rfl⟩); decide) | (apply rund_max; simp (disch := omega) [if_pos]; (first | rfl | exact ⟨rfl, rfl⟩ | exact ⟨rfl, rfl, rfl, rfl⟩); decide) | (apply run_lenS; simp (disch := omega) [if_pos]; (first | rfl | exact ⟨rfl, rfl⟩ | exact ⟨rfl, rfl, rfl, rfl⟩); decide) | (apply rund_lenS; simp (disch := omega) [if_pos]; (first | rfl | exact ⟨rfl, rfl⟩ | exact ⟨rfl, rfl, rfl, rfl⟩); decide) | (apply run_bs; simp (disch := omega) [if_pos]; (first | rfl | exact ⟨rfl, rfl⟩ | exact ⟨rfl, rfl, rfl, rfl⟩); decide) | (apply run_app; simp (disch := omega) [if_pos]; (first | rfl | exact ⟨rfl, rfl⟩ | exact ⟨rfl, rfl, rfl, rfl⟩); decide) | (apply run_build; simp (disch := omega) [if_pos]; (first | rfl | exact ⟨rfl, rfl⟩ | exact ⟨rfl, rfl, rfl, rfl⟩); decide) | (apply run_box; simp (disch := omega) [if_pos]; (first | rfl | exact ⟨rfl, rfl⟩ | exact ⟨rfl, rfl, rfl, rfl⟩); decide) | (apply run_alloc; simp (disch := omega) [if_pos]; (first | rfl | exact ⟨rfl, rfl⟩ | exact ⟨rfl, rfl, rfl, rfl⟩); decide) | (apply rund_build; simp (disch := omega) [if_pos]; (first | rfl | exact ⟨rfl, rfl⟩ | exact ⟨rfl, rfl, rfl, rfl⟩); decide) | (apply run_sto; simp (disch := omega) [if_pos]; rfl) | (apply rund_bs; decide; simp (disch := omega) [if_pos]; (first | rfl | exact ⟨rfl, rfl⟩ | exact ⟨rfl, rfl, rfl, rfl⟩); decide) | (apply rund_app; decide; simp (disch := omega) [if_pos]; (first | rfl | exact ⟨rfl, rfl⟩ | exact ⟨rfl, rfl, rfl, rfl⟩); decide) | (apply rund_sto; decide; simp (disch := omega) [if_pos]; rfl))
  exact ended_r rfl (frz_int (by unfold addR; omega))
set_option maxHeartbeats 1000000 in
theorem mul01_all (a b : Nat) : Fn' Tryz.prog [] 78 [gU a, gU b] (gU (mulR a b)) := by
  have e1 := mul_bd (x := (a : Int) % 2305843009213693951 % 4294967296) (y := (b : Int) % 2305843009213693951 % 4294967296) (m := 4294967295) (n := 4294967295) (by omega) (by omega) (by omega) (by omega)
  have e2 := mul_bd (x := (a : Int) % 2305843009213693951 / 4294967296) (y := (b : Int) % 2305843009213693951 % 4294967296) (m := 536870911) (n := 4294967295) (by omega) (by omega) (by omega) (by omega)
  have e3 := mul_bd (x := (a : Int) % 2305843009213693951 % 4294967296) (y := (b : Int) % 2305843009213693951 / 4294967296) (m := 4294967295) (n := 536870911) (by omega) (by omega) (by omega) (by omega)
  have e4 := mul_bd (x := (a : Int) % 2305843009213693951 / 4294967296) (y := (b : Int) % 2305843009213693951 / 4294967296) (m := 536870911) (n := 536870911) (by omega) (by omega) (by omega) (by omega)
  refine fn_enter Tryz.func78 rfl (by simp [Tryz.ntmps78]) ?_
  simp only [St.enter, enterFr, Tryz.ntmps78]
  repeat' (first | apply tr_seq | apply tr_region | apply run_nil | apply thn_n | apply thn_e | apply thn_r | apply blk_e | apply blk_n | apply blk_r | (refine blk_ne ?_ ?_; decide) | apply tr_block | apply tr_skip | apply tr_label | apply tr_exit | apply tr_ret | (refine tr_region_draw (bars := []) mixed (by kernel_rfl) ?_) | apply rund_nil | (apply run_v; simp (disch := omega) [if_pos]; (first | rfl | exact ⟨rfl, rfl⟩ | exact ⟨rfl, rfl, rfl, rfl⟩); decide) | (apply rund_v; simp (disch := omega) [if_pos]; (first | rfl | exact ⟨rfl, rfl⟩ | exact ⟨rfl, rfl, rfl, rfl⟩); decide) | (apply run_conv; simp (disch := omega) [if_pos]; (first | rfl | exact ⟨rfl, rfl⟩ | exact ⟨rfl, rfl, rfl, rfl⟩); decide) | (apply rund_conv; simp (disch := omega) [if_pos]; (first | rfl | exact ⟨rfl, rfl⟩ | exact ⟨rfl, rfl, rfl, rfl⟩); decide) | (apply run_min; simp (disch := omega) [if_pos]; (first | rfl | exact ⟨rfl, rfl⟩ | exact ⟨rfl, rfl, rfl, rfl⟩); decide) | (apply rund_min; simp (disch := omega) [if_pos]; (first | rfl | exact ⟨rfl, rfl⟩ | exact ⟨rfl, rfl, rfl, rfl⟩); decide) | (apply run_max; simp (disch := omega) [if_pos]; (first | rfl | exact ⟨rfl, rfl⟩ | exact ⟨rfl, rfl, rfl, rfl⟩); decide) | (apply rund_max; simp (disch := omega) [if_pos]; (first | rfl | exact ⟨rfl, rfl⟩ | exact ⟨rfl, rfl, rfl, rfl⟩); decide) | (apply run_lenS; simp (disch := omega) [if_pos]; (first | rfl | exact ⟨rfl, rfl⟩ | exact ⟨rfl, rfl, rfl, rfl⟩); decide) | (apply rund_lenS; simp (disch := omega) [if_pos]; (first | rfl | exact ⟨rfl, rfl⟩ | exact ⟨rfl, rfl, rfl, rfl⟩); decide) | (apply run_bs; simp (disch := omega) [if_pos]; (first | rfl | exact ⟨rfl, rfl⟩ | exact ⟨rfl, rfl, rfl, rfl⟩); decide) | (apply run_app; simp (disch := omega) [if_pos]; (first | rfl | exact ⟨rfl, rfl⟩ | exact ⟨rfl, rfl, rfl, rfl⟩); decide) | (apply run_build; simp (disch := omega) [if_pos]; (first | rfl | exact ⟨rfl, rfl⟩ | exact ⟨rfl, rfl, rfl, rfl⟩); decide) | (apply run_box; simp (disch := omega) [if_pos]; (first | rfl | exact ⟨rfl, rfl⟩ | exact ⟨rfl, rfl, rfl, rfl⟩); decide) | (apply run_alloc; simp (disch := omega) [if_pos]; (first | rfl | exact ⟨rfl, rfl⟩ | exact ⟨rfl, rfl, rfl, rfl⟩); decide) | (apply rund_build; simp (disch := omega) [if_pos]; (first | rfl | exact ⟨rfl, rfl⟩ | exact ⟨rfl, rfl, rfl, rfl⟩); decide) | (apply run_sto; simp (disch := omega) [if_pos]; rfl) | (apply rund_bs; decide; simp (disch := omega) [if_pos]; (first | rfl | exact ⟨rfl, rfl⟩ | exact ⟨rfl, rfl, rfl, rfl⟩); decide) | (apply rund_app; decide; simp (disch := omega) [if_pos]; (first | rfl | exact ⟨rfl, rfl⟩ | exact ⟨rfl, rfl, rfl, rfl⟩); decide) | (apply rund_sto; decide; simp (disch := omega) [if_pos]; rfl))
  refine ended_r rfl (frz_int ?_)
  unfold mulR
  rw [mul_mod ((a : Int) % 2305843009213693951) ((b : Int) % 2305843009213693951) (by omega) (by omega) _ _ _ rfl rfl rfl, ← Int.mul_emod]
  have e : ((a * b : Nat) : Int) = (a : Int) * b := Int.natCast_mul a b
  rw [← e]
  omega

def foldF (a : Nat) : Nat := (a % 2305843009213693952 + a / 2305843009213693952) % 18446744073709551616
def numF (a : Nat) : Nat := if 2305843009213693951 ≤ foldF a then foldF a - 2305843009213693951 else foldF a
theorem foldF_lt (a : Nat) : foldF a < 18446744073709551616 := Nat.mod_lt _ (by decide)
theorem numF_lt (a : Nat) : numF a < 18446744073709551616 := by
  have := foldF_lt a
  unfold numF
  split <;> omega
theorem foldF_eq {a : Nat} (h : a < 18446744073709551616) : foldF a = a % 2305843009213693952 + a / 2305843009213693952 := Nat.mod_eq_of_lt (by omega)
theorem numF_eq {a : Nat} (h : a < 18446744073709551616) : numF a = a % 2305843009213693951 := by
  unfold numF
  rw [foldF_eq h]
  split <;> omega
set_option maxHeartbeats 400000 in
theorem num_all (a : Nat) : Fn' Tryz.prog [] 75 [gU a] (gU (numF a)) := by
  refine fn_enter Tryz.func75 rfl (by simp [Tryz.ntmps75]) ?_
  simp only [St.enter, enterFr, Tryz.ntmps75]
  repeat' (first | apply tr_seq | apply tr_region | apply run_nil | apply thn_n | apply thn_e | apply thn_r | apply blk_e | apply blk_n | apply blk_r | (refine blk_ne ?_ ?_; decide) | apply tr_block | apply tr_skip | apply tr_label | apply tr_exit | apply tr_ret | (refine tr_region_draw (bars := []) mixed (by kernel_rfl) ?_) | apply rund_nil | (apply run_v; simp (disch := omega) [if_pos]; (first | rfl | exact ⟨rfl, rfl⟩ | exact ⟨rfl, rfl, rfl, rfl⟩); decide) | (apply rund_v; simp (disch := omega) [if_pos]; (first | rfl | exact ⟨rfl, rfl⟩ | exact ⟨rfl, rfl, rfl, rfl⟩); decide) | (apply run_conv; simp (disch := omega) [if_pos]; (first | rfl | exact ⟨rfl, rfl⟩ | exact ⟨rfl, rfl, rfl, rfl⟩); decide) | (apply rund_conv; simp (disch := omega) [if_pos]; (first | rfl | exact ⟨rfl, rfl⟩ | exact ⟨rfl, rfl, rfl, rfl⟩); decide) | (apply run_min; simp (disch := omega) [if_pos]; (first | rfl | exact ⟨rfl, rfl⟩ | exact ⟨rfl, rfl, rfl, rfl⟩); decide) | (apply rund_min; simp (disch := omega) [if_pos]; (first | rfl | exact ⟨rfl, rfl⟩ | exact ⟨rfl, rfl, rfl, rfl⟩); decide) | (apply run_max; simp (disch := omega) [if_pos]; (first | rfl | exact ⟨rfl, rfl⟩ | exact ⟨rfl, rfl, rfl, rfl⟩); decide) | (apply rund_max; simp (disch := omega) [if_pos]; (first | rfl | exact ⟨rfl, rfl⟩ | exact ⟨rfl, rfl, rfl, rfl⟩); decide) | (apply run_lenS; simp (disch := omega) [if_pos]; (first | rfl | exact ⟨rfl, rfl⟩ | exact ⟨rfl, rfl, rfl, rfl⟩); decide) | (apply rund_lenS; simp (disch := omega) [if_pos]; (first | rfl | exact ⟨rfl, rfl⟩ | exact ⟨rfl, rfl, rfl, rfl⟩); decide) | (apply run_bs; simp (disch := omega) [if_pos]; (first | rfl | exact ⟨rfl, rfl⟩ | exact ⟨rfl, rfl, rfl, rfl⟩); decide) | (apply run_app; simp (disch := omega) [if_pos]; (first | rfl | exact ⟨rfl, rfl⟩ | exact ⟨rfl, rfl, rfl, rfl⟩); decide) | (apply run_build; simp (disch := omega) [if_pos]; (first | rfl | exact ⟨rfl, rfl⟩ | exact ⟨rfl, rfl, rfl, rfl⟩); decide) | (apply run_box; simp (disch := omega) [if_pos]; (first | rfl | exact ⟨rfl, rfl⟩ | exact ⟨rfl, rfl, rfl, rfl⟩); decide) | (apply run_alloc; simp (disch := omega) [if_pos]; (first | rfl | exact ⟨rfl, rfl⟩ | exact ⟨rfl, rfl, rfl, rfl⟩); decide) | (apply rund_build; simp (disch := omega) [if_pos]; (first | rfl | exact ⟨rfl, rfl⟩ | exact ⟨rfl, rfl, rfl, rfl⟩); decide) | (apply run_sto; simp (disch := omega) [if_pos]; rfl) | (apply rund_bs; decide; simp (disch := omega) [if_pos]; (first | rfl | exact ⟨rfl, rfl⟩ | exact ⟨rfl, rfl, rfl, rfl⟩); decide) | (apply rund_app; decide; simp (disch := omega) [if_pos]; (first | rfl | exact ⟨rfl, rfl⟩ | exact ⟨rfl, rfl, rfl, rfl⟩); decide) | (apply rund_sto; decide; simp (disch := omega) [if_pos]; rfl))
  refine tr_condP (p := 2305843009213693951 ≤ foldF a) ?_ (fun h => ?_) (fun h => ?_)
  · have h1 : ((foldF a : Nat) : Int) = ((a : Int) % 2305843009213693952 + (a : Int) / 2305843009213693952) % 18446744073709551616 := by unfold foldF; omega
    simp [IntKind.wrap_u64]
    rw [← h1]
    clear h1
    generalize foldF a = x
    omega
  · repeat' (first | apply tr_seq | apply tr_region | apply run_nil | apply thn_n | apply thn_e | apply thn_r | apply blk_e | apply blk_n | apply blk_r | (refine blk_ne ?_ ?_; decide) | apply tr_block | apply tr_skip | apply tr_label | apply tr_exit | apply tr_ret | (refine tr_region_draw (bars := []) mixed (by kernel_rfl) ?_) | apply rund_nil | (apply run_v; simp (disch := omega) [if_pos]; (first | rfl | exact ⟨rfl, rfl⟩ | exact ⟨rfl, rfl, rfl, rfl⟩); decide) | (apply rund_v; simp (disch := omega) [if_pos]; (first | rfl | exact ⟨rfl, rfl⟩ | exact ⟨rfl, rfl, rfl, rfl⟩); decide) | (apply run_conv; simp (disch := omega) [if_pos]; (first | rfl | exact ⟨rfl, rfl⟩ | exact ⟨rfl, rfl, rfl, rfl⟩); decide) | (apply rund_conv; simp (disch := omega) [if_pos]; (first | rfl | exact ⟨rfl, rfl⟩ | exact ⟨rfl, rfl, rfl, rfl⟩); decide) | (apply run_min; simp (disch := omega) [if_pos]; (first | rfl | exact ⟨rfl, rfl⟩ | exact ⟨rfl, rfl, rfl, rfl⟩); decide) | (apply rund_min; simp (disch := omega) [if_pos]; (first | rfl | exact ⟨rfl, rfl⟩ | exact ⟨rfl, rfl, rfl, rfl⟩); decide) | (apply run_max; simp (disch := omega) [if_pos]; (first | rfl | exact ⟨rfl, rfl⟩ | exact ⟨rfl, rfl, rfl, rfl⟩); decide) | (apply rund_max; simp (disch := omega) [if_pos]; (first | rfl | exact ⟨rfl, rfl⟩ | exact ⟨rfl, rfl, rfl, rfl⟩); decide) | (apply run_lenS; simp (disch := omega) [if_pos]; (first | rfl | exact ⟨rfl, rfl⟩ | exact ⟨rfl, rfl, rfl, rfl⟩); decide) | (apply rund_lenS; simp (disch := omega) [if_pos]; (first | rfl | exact ⟨rfl, rfl⟩ | exact ⟨rfl, rfl, rfl, rfl⟩); decide) | (apply run_bs; simp (disch := omega) [if_pos]; (first | rfl | exact ⟨rfl, rfl⟩ | exact ⟨rfl, rfl, rfl, rfl⟩); decide) | (apply run_app; simp (disch := omega) [if_pos]; (first | rfl | exact ⟨rfl, rfl⟩ | exact ⟨rfl, rfl, rfl, rfl⟩); decide) | (apply run_build; simp (disch := omega) [if_pos]; (first | rfl | exact ⟨rfl, rfl⟩ | exact ⟨rfl, rfl, rfl, rfl⟩); decide) | (apply run_box; simp (disch := omega) [if_pos]; (first | rfl | exact ⟨rfl, rfl⟩ | exact ⟨rfl, rfl, rfl, rfl⟩); decide) | (apply run_alloc; simp (disch := omega) [if_pos]; (first | rfl | exact ⟨rfl, rfl⟩ | exact ⟨rfl, rfl, rfl, rfl⟩); decide) | (apply rund_build; simp (disch := omega) [if_pos]; (first | rfl | exact ⟨rfl, rfl⟩ | exact ⟨rfl, rfl, rfl, rfl⟩); decide) | (apply run_sto; simp (disch := omega) [if_pos]; rfl) | (apply rund_bs; decide; simp (disch := omega) [if_pos]; (first | rfl | exact ⟨rfl, rfl⟩ | exact ⟨rfl, rfl, rfl, rfl⟩); decide) | (apply rund_app; decide; simp (disch := omega) [if_pos]; (first | rfl | exact ⟨rfl, rfl⟩ | exact ⟨rfl, rfl, rfl, rfl⟩); decide) | (apply rund_sto; decide; simp (disch := omega) [if_pos]; rfl))
    refine ended_r rfl (frz_int ?_)
    have h0 := foldF_lt a
    have h1 : ((foldF a : Nat) : Int) = ((a : Int) % 2305843009213693952 + (a : Int) / 2305843009213693952) % 18446744073709551616 := by unfold foldF; omega
    unfold numF
    rw [if_pos h]
    simp only [IntKind.wrap_u64]
    rw [← h1]
    omega
  · repeat' (first | apply tr_seq | apply tr_region | apply run_nil | apply thn_n | apply thn_e | apply thn_r | apply blk_e | apply blk_n | apply blk_r | (refine blk_ne ?_ ?_; decide) | apply tr_block | apply tr_skip | apply tr_label | apply tr_exit | apply tr_ret | (refine tr_region_draw (bars := []) mixed (by kernel_rfl) ?_) | apply rund_nil | (apply run_v; simp (disch := omega) [if_pos]; (first | rfl | exact ⟨rfl, rfl⟩ | exact ⟨rfl, rfl, rfl, rfl⟩); decide) | (apply rund_v; simp (disch := omega) [if_pos]; (first | rfl | exact ⟨rfl, rfl⟩ | exact ⟨rfl, rfl, rfl, rfl⟩); decide) | (apply run_conv; simp (disch := omega) [if_pos]; (first | rfl | exact ⟨rfl, rfl⟩ | exact ⟨rfl, rfl, rfl, rfl⟩); decide) | (apply rund_conv; simp (disch := omega) [if_pos]; (first | rfl | exact ⟨rfl, rfl⟩ | exact ⟨rfl, rfl, rfl, rfl⟩); decide) | (apply run_min; simp (disch := omega) [if_pos]; (first | rfl | exact ⟨rfl, rfl⟩ | exact ⟨rfl, rfl, rfl, rfl⟩); decide) | (apply rund_min; simp (disch := omega) [if_pos]; (first | rfl | exact ⟨rfl, rfl⟩ | exact ⟨rfl, rfl, rfl, rfl⟩); decide) | (apply run_max; simp (disch := omega) [if_pos]; (first | rfl | exact ⟨rfl, rfl⟩ | exact ⟨rfl, rfl, rfl, rfl⟩); decide) | (apply rund_max; simp (disch := omega) [if_pos]; (first | rfl | exact ⟨rfl, rfl⟩ | exact ⟨rfl, rfl, rfl, rfl⟩); decide) | (apply run_lenS; simp (disch := omega) [if_pos]; (first | rfl | exact ⟨rfl, rfl⟩ | exact ⟨rfl, rfl, rfl, rfl⟩); decide) | (apply rund_lenS; simp (disch := omega) [if_pos]; (first | rfl | exact ⟨rfl, rfl⟩ | exact ⟨rfl, rfl, rfl, rfl⟩); decide) | (apply run_bs; simp (disch := omega) [if_pos]; (first | rfl | exact ⟨rfl, rfl⟩ | exact ⟨rfl, rfl, rfl, rfl⟩); decide) | (apply run_app; simp (disch := omega) [if_pos]; (first | rfl | exact ⟨rfl, rfl⟩ | exact ⟨rfl, rfl, rfl, rfl⟩); decide) | (apply run_build; simp (disch := omega) [if_pos]; (first | rfl | exact ⟨rfl, rfl⟩ | exact ⟨rfl, rfl, rfl, rfl⟩); decide) | (apply run_box; simp (disch := omega) [if_pos]; (first | rfl | exact ⟨rfl, rfl⟩ | exact ⟨rfl, rfl, rfl, rfl⟩); decide) | (apply run_alloc; simp (disch := omega) [if_pos]; (first | rfl | exact ⟨rfl, rfl⟩ | exact ⟨rfl, rfl, rfl, rfl⟩); decide) | (apply rund_build; simp (disch := omega) [if_pos]; (first | rfl | exact ⟨rfl, rfl⟩ | exact ⟨rfl, rfl, rfl, rfl⟩); decide) | (apply run_sto; simp (disch := omega) [if_pos]; rfl) | (apply rund_bs; decide; simp (disch := omega) [if_pos]; (first | rfl | exact ⟨rfl, rfl⟩ | exact ⟨rfl, rfl, rfl, rfl⟩); decide) | (apply rund_app; decide; simp (disch := omega) [if_pos]; (first | rfl | exact ⟨rfl, rfl⟩ | exact ⟨rfl, rfl, rfl, rfl⟩); decide) | (apply rund_sto; decide; simp (disch := omega) [if_pos]; rfl))
    refine ended_r rfl (frz_int ?_)
    have h1 : ((foldF a : Nat) : Int) = ((a : Int) % 2305843009213693952 + (a : Int) / 2305843009213693952) % 18446744073709551616 := by unfold foldF; omega
    unfold numF
    rw [if_neg h]
    simp only [IntKind.wrap_u64]
    rw [← h1]
def mulF (a b : Nat) : Nat := numF ((numF (numF a * numF b % 18446744073709551616) + numF a * numF b / 18446744073709551616 * 8 % 18446744073709551616) % 18446744073709551616)
theorem mulF_eq {a b : Nat} (ha : a < 18446744073709551616) (hb : b < 18446744073709551616) : mulF a b = mulR a b := by
  unfold mulF mulR
  rw [numF_eq ha, numF_eq hb]
  obtain ⟨h1, h2⟩ := fmul_law a b (a % 2305843009213693951 * (b % 2305843009213693951) / 18446744073709551616) (a % 2305843009213693951 * (b % 2305843009213693951) % 18446744073709551616) (Nat.div_add_mod' _ _) (Nat.mod_lt _ (by decide))
  have hab : a % 2305843009213693951 * (b % 2305843009213693951) / 18446744073709551616 < 288230376151711744 := h1
  generalize a % 2305843009213693951 * (b % 2305843009213693951) / 18446744073709551616 = hi at *
  have hl : a % 2305843009213693951 * (b % 2305843009213693951) % 18446744073709551616 < 18446744073709551616 := Nat.mod_lt _ (by decide)
  generalize a % 2305843009213693951 * (b % 2305843009213693951) % 18446744073709551616 = lo at *
  have e1 : hi * 8 % 18446744073709551616 = hi * 8 := Nat.mod_eq_of_lt (by omega)
  have e2 : (lo % 2305843009213693951 + hi * 8) % 18446744073709551616 = lo % 2305843009213693951 + hi * 8 := Nat.mod_eq_of_lt (by omega)
  rw [numF_eq hl, e1, e2, numF_eq (by omega), h2]
set_option maxHeartbeats 1000000 in
theorem fmul_all (a b : Nat) : Fn' Tryz.prog [] 156 [gU a, gU b] (gU (mulF a b)) := by
  have hm := mul64_fn (numF a) (numF b) (numF_lt a) (numF_lt b)
  obtain ⟨hi, hhi⟩ : ∃ hi, hi = numF a * numF b / 18446744073709551616 := ⟨_, rfl⟩
  obtain ⟨lo, hlo⟩ : ∃ lo, lo = numF a * numF b % 18446744073709551616 := ⟨_, rfl⟩
  rw [← hhi, ← hlo] at hm
  have e : mulF a b = numF ((numF lo + hi * 8 % 18446744073709551616) % 18446744073709551616) := by unfold mulF; rw [hhi, hlo]
  rw [e]
  clear e hhi hlo
  refine fn_enter Tryz.func156 rfl (by simp [Tryz.ntmps156]) ?_
  simp only [St.enter, enterFr, Tryz.ntmps156]
  repeat' (first | apply tr_seq | apply tr_region | apply run_nil | apply thn_n | apply thn_e | apply thn_r | apply blk_e | apply blk_n | apply blk_r | (refine blk_ne ?_ ?_; decide) | apply tr_block | apply tr_skip | apply tr_label | apply tr_exit | apply tr_ret | (refine tr_region_draw (bars := []) mixed (by kernel_rfl) ?_) | apply rund_nil | (apply run_v; simp (disch := omega) [if_pos]; (first | rfl | exact ⟨rfl, rfl⟩ | exact ⟨rfl, rfl, rfl, rfl⟩); decide) | (apply rund_v; simp (disch := omega) [if_pos]; (first | rfl | exact ⟨rfl, rfl⟩ | exact ⟨rfl, rfl, rfl, rfl⟩); decide) | (apply run_conv; simp (disch := omega) [if_pos]; (first | rfl | exact ⟨rfl, rfl⟩ | exact ⟨rfl, rfl, rfl, rfl⟩); decide) | (apply rund_conv; simp (disch := omega) [if_pos]; (first | rfl | exact ⟨rfl, rfl⟩ | exact ⟨rfl, rfl, rfl, rfl⟩); decide) | (apply run_min; simp (disch := omega) [if_pos]; (first | rfl | exact ⟨rfl, rfl⟩ | exact ⟨rfl, rfl, rfl, rfl⟩); decide) | (apply rund_min; simp (disch := omega) [if_pos]; (first | rfl | exact ⟨rfl, rfl⟩ | exact ⟨rfl, rfl, rfl, rfl⟩); decide) | (apply run_max; simp (disch := omega) [if_pos]; (first | rfl | exact ⟨rfl, rfl⟩ | exact ⟨rfl, rfl, rfl, rfl⟩); decide) | (apply rund_max; simp (disch := omega) [if_pos]; (first | rfl | exact ⟨rfl, rfl⟩ | exact ⟨rfl, rfl, rfl, rfl⟩); decide) | (apply run_lenS; simp (disch := omega) [if_pos]; (first | rfl | exact ⟨rfl, rfl⟩ | exact ⟨rfl, rfl, rfl, rfl⟩); decide) | (apply rund_lenS; simp (disch := omega) [if_pos]; (first | rfl | exact ⟨rfl, rfl⟩ | exact ⟨rfl, rfl, rfl, rfl⟩); decide) | (apply run_bs; simp (disch := omega) [if_pos]; (first | rfl | exact ⟨rfl, rfl⟩ | exact ⟨rfl, rfl, rfl, rfl⟩); decide) | (apply run_app; simp (disch := omega) [if_pos]; (first | rfl | exact ⟨rfl, rfl⟩ | exact ⟨rfl, rfl, rfl, rfl⟩); decide) | (apply run_build; simp (disch := omega) [if_pos]; (first | rfl | exact ⟨rfl, rfl⟩ | exact ⟨rfl, rfl, rfl, rfl⟩); decide) | (apply run_box; simp (disch := omega) [if_pos]; (first | rfl | exact ⟨rfl, rfl⟩ | exact ⟨rfl, rfl, rfl, rfl⟩); decide) | (apply run_alloc; simp (disch := omega) [if_pos]; (first | rfl | exact ⟨rfl, rfl⟩ | exact ⟨rfl, rfl, rfl, rfl⟩); decide) | (apply rund_build; simp (disch := omega) [if_pos]; (first | rfl | exact ⟨rfl, rfl⟩ | exact ⟨rfl, rfl, rfl, rfl⟩); decide) | (apply run_sto; simp (disch := omega) [if_pos]; rfl) | (apply rund_bs; decide; simp (disch := omega) [if_pos]; (first | rfl | exact ⟨rfl, rfl⟩ | exact ⟨rfl, rfl, rfl, rfl⟩); decide) | (apply rund_app; decide; simp (disch := omega) [if_pos]; (first | rfl | exact ⟨rfl, rfl⟩ | exact ⟨rfl, rfl, rfl, rfl⟩); decide) | (apply rund_sto; decide; simp (disch := omega) [if_pos]; rfl))
  refine run_pc rfl (by kernel_rfl) imm_one (num_all a) (by decide) ?_
  repeat' (first | apply tr_seq | apply tr_region | apply run_nil | apply thn_n | apply thn_e | apply thn_r | apply blk_e | apply blk_n | apply blk_r | (refine blk_ne ?_ ?_; decide) | apply tr_block | apply tr_skip | apply tr_label | apply tr_exit | apply tr_ret | (refine tr_region_draw (bars := []) mixed (by kernel_rfl) ?_) | apply rund_nil | (apply run_v; simp (disch := omega) [if_pos]; (first | rfl | exact ⟨rfl, rfl⟩ | exact ⟨rfl, rfl, rfl, rfl⟩); decide) | (apply rund_v; simp (disch := omega) [if_pos]; (first | rfl | exact ⟨rfl, rfl⟩ | exact ⟨rfl, rfl, rfl, rfl⟩); decide) | (apply run_conv; simp (disch := omega) [if_pos]; (first | rfl | exact ⟨rfl, rfl⟩ | exact ⟨rfl, rfl, rfl, rfl⟩); decide) | (apply rund_conv; simp (disch := omega) [if_pos]; (first | rfl | exact ⟨rfl, rfl⟩ | exact ⟨rfl, rfl, rfl, rfl⟩); decide) | (apply run_min; simp (disch := omega) [if_pos]; (first | rfl | exact ⟨rfl, rfl⟩ | exact ⟨rfl, rfl, rfl, rfl⟩); decide) | (apply rund_min; simp (disch := omega) [if_pos]; (first | rfl | exact ⟨rfl, rfl⟩ | exact ⟨rfl, rfl, rfl, rfl⟩); decide) | (apply run_max; simp (disch := omega) [if_pos]; (first | rfl | exact ⟨rfl, rfl⟩ | exact ⟨rfl, rfl, rfl, rfl⟩); decide) | (apply rund_max; simp (disch := omega) [if_pos]; (first | rfl | exact ⟨rfl, rfl⟩ | exact ⟨rfl, rfl, rfl, rfl⟩); decide) | (apply run_lenS; simp (disch := omega) [if_pos]; (first | rfl | exact ⟨rfl, rfl⟩ | exact ⟨rfl, rfl, rfl, rfl⟩); decide) | (apply rund_lenS; simp (disch := omega) [if_pos]; (first | rfl | exact ⟨rfl, rfl⟩ | exact ⟨rfl, rfl, rfl, rfl⟩); decide) | (apply run_bs; simp (disch := omega) [if_pos]; (first | rfl | exact ⟨rfl, rfl⟩ | exact ⟨rfl, rfl, rfl, rfl⟩); decide) | (apply run_app; simp (disch := omega) [if_pos]; (first | rfl | exact ⟨rfl, rfl⟩ | exact ⟨rfl, rfl, rfl, rfl⟩); decide) | (apply run_build; simp (disch := omega) [if_pos]; (first | rfl | exact ⟨rfl, rfl⟩ | exact ⟨rfl, rfl, rfl, rfl⟩); decide) | (apply run_box; simp (disch := omega) [if_pos]; (first | rfl | exact ⟨rfl, rfl⟩ | exact ⟨rfl, rfl, rfl, rfl⟩); decide) | (apply run_alloc; simp (disch := omega) [if_pos]; (first | rfl | exact ⟨rfl, rfl⟩ | exact ⟨rfl, rfl, rfl, rfl⟩); decide) | (apply rund_build; simp (disch := omega) [if_pos]; (first | rfl | exact ⟨rfl, rfl⟩ | exact ⟨rfl, rfl, rfl, rfl⟩); decide) | (apply run_sto; simp (disch := omega) [if_pos]; rfl) | (apply rund_bs; decide; simp (disch := omega) [if_pos]; (first | rfl | exact ⟨rfl, rfl⟩ | exact ⟨rfl, rfl, rfl, rfl⟩); decide) | (apply rund_app; decide; simp (disch := omega) [if_pos]; (first | rfl | exact ⟨rfl, rfl⟩ | exact ⟨rfl, rfl, rfl, rfl⟩); decide) | (apply rund_sto; decide; simp (disch := omega) [if_pos]; rfl))
  refine run_pc rfl (by kernel_rfl) imm_one (num_all b) (by decide) ?_
  refine run_pc rfl (by kernel_rfl) imm_two hm (by decide) ?_
  repeat' (first | apply tr_seq | apply tr_region | apply run_nil | apply thn_n | apply thn_e | apply thn_r | apply blk_e | apply blk_n | apply blk_r | (refine blk_ne ?_ ?_; decide) | apply tr_block | apply tr_skip | apply tr_label | apply tr_exit | apply tr_ret | (refine tr_region_draw (bars := []) mixed (by kernel_rfl) ?_) | apply rund_nil | (apply run_v; simp (disch := omega) [if_pos]; (first | rfl | exact ⟨rfl, rfl⟩ | exact ⟨rfl, rfl, rfl, rfl⟩); decide) | (apply rund_v; simp (disch := omega) [if_pos]; (first | rfl | exact ⟨rfl, rfl⟩ | exact ⟨rfl, rfl, rfl, rfl⟩); decide) | (apply run_conv; simp (disch := omega) [if_pos]; (first | rfl | exact ⟨rfl, rfl⟩ | exact ⟨rfl, rfl, rfl, rfl⟩); decide) | (apply rund_conv; simp (disch := omega) [if_pos]; (first | rfl | exact ⟨rfl, rfl⟩ | exact ⟨rfl, rfl, rfl, rfl⟩); decide) | (apply run_min; simp (disch := omega) [if_pos]; (first | rfl | exact ⟨rfl, rfl⟩ | exact ⟨rfl, rfl, rfl, rfl⟩); decide) | (apply rund_min; simp (disch := omega) [if_pos]; (first | rfl | exact ⟨rfl, rfl⟩ | exact ⟨rfl, rfl, rfl, rfl⟩); decide) | (apply run_max; simp (disch := omega) [if_pos]; (first | rfl | exact ⟨rfl, rfl⟩ | exact ⟨rfl, rfl, rfl, rfl⟩); decide) | (apply rund_max; simp (disch := omega) [if_pos]; (first | rfl | exact ⟨rfl, rfl⟩ | exact ⟨rfl, rfl, rfl, rfl⟩); decide) | (apply run_lenS; simp (disch := omega) [if_pos]; (first | rfl | exact ⟨rfl, rfl⟩ | exact ⟨rfl, rfl, rfl, rfl⟩); decide) | (apply rund_lenS; simp (disch := omega) [if_pos]; (first | rfl | exact ⟨rfl, rfl⟩ | exact ⟨rfl, rfl, rfl, rfl⟩); decide) | (apply run_bs; simp (disch := omega) [if_pos]; (first | rfl | exact ⟨rfl, rfl⟩ | exact ⟨rfl, rfl, rfl, rfl⟩); decide) | (apply run_app; simp (disch := omega) [if_pos]; (first | rfl | exact ⟨rfl, rfl⟩ | exact ⟨rfl, rfl, rfl, rfl⟩); decide) | (apply run_build; simp (disch := omega) [if_pos]; (first | rfl | exact ⟨rfl, rfl⟩ | exact ⟨rfl, rfl, rfl, rfl⟩); decide) | (apply run_box; simp (disch := omega) [if_pos]; (first | rfl | exact ⟨rfl, rfl⟩ | exact ⟨rfl, rfl, rfl, rfl⟩); decide) | (apply run_alloc; simp (disch := omega) [if_pos]; (first | rfl | exact ⟨rfl, rfl⟩ | exact ⟨rfl, rfl, rfl, rfl⟩); decide) | (apply rund_build; simp (disch := omega) [if_pos]; (first | rfl | exact ⟨rfl, rfl⟩ | exact ⟨rfl, rfl, rfl, rfl⟩); decide) | (apply run_sto; simp (disch := omega) [if_pos]; rfl) | (apply rund_bs; decide; simp (disch := omega) [if_pos]; (first | rfl | exact ⟨rfl, rfl⟩ | exact ⟨rfl, rfl, rfl, rfl⟩); decide) | (apply rund_app; decide; simp (disch := omega) [if_pos]; (first | rfl | exact ⟨rfl, rfl⟩ | exact ⟨rfl, rfl, rfl, rfl⟩); decide) | (apply rund_sto; decide; simp (disch := omega) [if_pos]; rfl))
  refine run_pc rfl (by kernel_rfl) imm_one (num_all lo) (by decide) ?_
  repeat' (first | apply tr_seq | apply tr_region | apply run_nil | apply thn_n | apply thn_e | apply thn_r | apply blk_e | apply blk_n | apply blk_r | (refine blk_ne ?_ ?_; decide) | apply tr_block | apply tr_skip | apply tr_label | apply tr_exit | apply tr_ret | (refine tr_region_draw (bars := []) mixed (by kernel_rfl) ?_) | apply rund_nil | (apply run_v; simp (disch := omega) [if_pos]; (first | rfl | exact ⟨rfl, rfl⟩ | exact ⟨rfl, rfl, rfl, rfl⟩); decide) | (apply rund_v; simp (disch := omega) [if_pos]; (first | rfl | exact ⟨rfl, rfl⟩ | exact ⟨rfl, rfl, rfl, rfl⟩); decide) | (apply run_conv; simp (disch := omega) [if_pos]; (first | rfl | exact ⟨rfl, rfl⟩ | exact ⟨rfl, rfl, rfl, rfl⟩); decide) | (apply rund_conv; simp (disch := omega) [if_pos]; (first | rfl | exact ⟨rfl, rfl⟩ | exact ⟨rfl, rfl, rfl, rfl⟩); decide) | (apply run_min; simp (disch := omega) [if_pos]; (first | rfl | exact ⟨rfl, rfl⟩ | exact ⟨rfl, rfl, rfl, rfl⟩); decide) | (apply rund_min; simp (disch := omega) [if_pos]; (first | rfl | exact ⟨rfl, rfl⟩ | exact ⟨rfl, rfl, rfl, rfl⟩); decide) | (apply run_max; simp (disch := omega) [if_pos]; (first | rfl | exact ⟨rfl, rfl⟩ | exact ⟨rfl, rfl, rfl, rfl⟩); decide) | (apply rund_max; simp (disch := omega) [if_pos]; (first | rfl | exact ⟨rfl, rfl⟩ | exact ⟨rfl, rfl, rfl, rfl⟩); decide) | (apply run_lenS; simp (disch := omega) [if_pos]; (first | rfl | exact ⟨rfl, rfl⟩ | exact ⟨rfl, rfl, rfl, rfl⟩); decide) | (apply rund_lenS; simp (disch := omega) [if_pos]; (first | rfl | exact ⟨rfl, rfl⟩ | exact ⟨rfl, rfl, rfl, rfl⟩); decide) | (apply run_bs; simp (disch := omega) [if_pos]; (first | rfl | exact ⟨rfl, rfl⟩ | exact ⟨rfl, rfl, rfl, rfl⟩); decide) | (apply run_app; simp (disch := omega) [if_pos]; (first | rfl | exact ⟨rfl, rfl⟩ | exact ⟨rfl, rfl, rfl, rfl⟩); decide) | (apply run_build; simp (disch := omega) [if_pos]; (first | rfl | exact ⟨rfl, rfl⟩ | exact ⟨rfl, rfl, rfl, rfl⟩); decide) | (apply run_box; simp (disch := omega) [if_pos]; (first | rfl | exact ⟨rfl, rfl⟩ | exact ⟨rfl, rfl, rfl, rfl⟩); decide) | (apply run_alloc; simp (disch := omega) [if_pos]; (first | rfl | exact ⟨rfl, rfl⟩ | exact ⟨rfl, rfl, rfl, rfl⟩); decide) | (apply rund_build; simp (disch := omega) [if_pos]; (first | rfl | exact ⟨rfl, rfl⟩ | exact ⟨rfl, rfl, rfl, rfl⟩); decide) | (apply run_sto; simp (disch := omega) [if_pos]; rfl) | (apply rund_bs; decide; simp (disch := omega) [if_pos]; (first | rfl | exact ⟨rfl, rfl⟩ | exact ⟨rfl, rfl, rfl, rfl⟩); decide) | (apply rund_app; decide; simp (disch := omega) [if_pos]; (first | rfl | exact ⟨rfl, rfl⟩ | exact ⟨rfl, rfl, rfl, rfl⟩); decide) | (apply rund_sto; decide; simp (disch := omega) [if_pos]; rfl))
  refine run_pc (vs := [gU ((numF lo + hi * 8 % 18446744073709551616) % 18446744073709551616)]) ?_ (by kernel_rfl) imm_one (num_all _) (by decide) ?_
  · simp [List.map, IntKind.wrap_u64]
  repeat' (first | apply tr_seq | apply tr_region | apply run_nil | apply thn_n | apply thn_e | apply thn_r | apply blk_e | apply blk_n | apply blk_r | (refine blk_ne ?_ ?_; decide) | apply tr_block | apply tr_skip | apply tr_label | apply tr_exit | apply tr_ret | (refine tr_region_draw (bars := []) mixed (by kernel_rfl) ?_) | apply rund_nil | (apply run_v; simp (disch := omega) [if_pos]; (first | rfl | exact ⟨rfl, rfl⟩ | exact ⟨rfl, rfl, rfl, rfl⟩); decide) | (apply rund_v; simp (disch := omega) [if_pos]; (first | rfl | exact ⟨rfl, rfl⟩ | exact ⟨rfl, rfl, rfl, rfl⟩); decide) | (apply run_conv; simp (disch := omega) [if_pos]; (first | rfl | exact ⟨rfl, rfl⟩ | exact ⟨rfl, rfl, rfl, rfl⟩); decide) | (apply rund_conv; simp (disch := omega) [if_pos]; (first | rfl | exact ⟨rfl, rfl⟩ | exact ⟨rfl, rfl, rfl, rfl⟩); decide) | (apply run_min; simp (disch := omega) [if_pos]; (first | rfl | exact ⟨rfl, rfl⟩ | exact ⟨rfl, rfl, rfl, rfl⟩); decide) | (apply rund_min; simp (disch := omega) [if_pos]; (first | rfl | exact ⟨rfl, rfl⟩ | exact ⟨rfl, rfl, rfl, rfl⟩); decide) | (apply run_max; simp (disch := omega) [if_pos]; (first | rfl | exact ⟨rfl, rfl⟩ | exact ⟨rfl, rfl, rfl, rfl⟩); decide) | (apply rund_max; simp (disch := omega) [if_pos]; (first | rfl | exact ⟨rfl, rfl⟩ | exact ⟨rfl, rfl, rfl, rfl⟩); decide) | (apply run_lenS; simp (disch := omega) [if_pos]; (first | rfl | exact ⟨rfl, rfl⟩ | exact ⟨rfl, rfl, rfl, rfl⟩); decide) | (apply rund_lenS; simp (disch := omega) [if_pos]; (first | rfl | exact ⟨rfl, rfl⟩ | exact ⟨rfl, rfl, rfl, rfl⟩); decide) | (apply run_bs; simp (disch := omega) [if_pos]; (first | rfl | exact ⟨rfl, rfl⟩ | exact ⟨rfl, rfl, rfl, rfl⟩); decide) | (apply run_app; simp (disch := omega) [if_pos]; (first | rfl | exact ⟨rfl, rfl⟩ | exact ⟨rfl, rfl, rfl, rfl⟩); decide) | (apply run_build; simp (disch := omega) [if_pos]; (first | rfl | exact ⟨rfl, rfl⟩ | exact ⟨rfl, rfl, rfl, rfl⟩); decide) | (apply run_box; simp (disch := omega) [if_pos]; (first | rfl | exact ⟨rfl, rfl⟩ | exact ⟨rfl, rfl, rfl, rfl⟩); decide) | (apply run_alloc; simp (disch := omega) [if_pos]; (first | rfl | exact ⟨rfl, rfl⟩ | exact ⟨rfl, rfl, rfl, rfl⟩); decide) | (apply rund_build; simp (disch := omega) [if_pos]; (first | rfl | exact ⟨rfl, rfl⟩ | exact ⟨rfl, rfl, rfl, rfl⟩); decide) | (apply run_sto; simp (disch := omega) [if_pos]; rfl) | (apply rund_bs; decide; simp (disch := omega) [if_pos]; (first | rfl | exact ⟨rfl, rfl⟩ | exact ⟨rfl, rfl, rfl, rfl⟩); decide) | (apply rund_app; decide; simp (disch := omega) [if_pos]; (first | rfl | exact ⟨rfl, rfl⟩ | exact ⟨rfl, rfl, rfl, rfl⟩); decide) | (apply rund_sto; decide; simp (disch := omega) [if_pos]; rfl))
  exact ended_r rfl (frz_int (by simp))
/-- Known, of any numbers. -/
def tpS : XPure := fun fid gs _ => match gs with
  | [.lit (.int .u64 (.ofNat a)), .lit (.int .u64 (.ofNat b))] =>
      (bif Nat.beq fid 78 then some (gU (mulR a b))
      else bif Nat.beq fid 156 then some (gU (mulF a b))
      else bif Nat.beq fid 77 then some (gU (addR a b))
      else none)
  | [.lit (.int .u64 (.ofNat a))] => bif Nat.beq fid 75 then some (gU (numF a)) else none
  | _ => none
theorem tpS_ok : PureOk Tryz.prog tpS := by
  intro fid gs gl r h
  unfold tpS at h
  split at h
  · rename_i a b
    cases h1 : Nat.beq fid 78 with
    | true =>
      rw [h1] at h; cases h
      obtain rfl := Nat.eq_of_beq_eq_true h1
      exact ⟨fn_gl' (mul01_all a b), flat_lit _, by kernel_rfl⟩
    | false =>
    rw [h1] at h
    simp only [cond_false] at h
    cases h2 : Nat.beq fid 156 with
    | true =>
      rw [h2] at h; cases h
      obtain rfl := Nat.eq_of_beq_eq_true h2
      exact ⟨fn_gl' (fmul_all a b), flat_lit _, by kernel_rfl⟩
    | false =>
    rw [h2] at h
    simp only [cond_false] at h
    cases h3 : Nat.beq fid 77 with
    | true =>
      rw [h3] at h; cases h
      obtain rfl := Nat.eq_of_beq_eq_true h3
      exact ⟨fn_gl' (add01_all a b), flat_lit _, by kernel_rfl⟩
    | false => rw [h3] at h; cases h
  · rename_i a
    cases h1 : Nat.beq fid 75 with
    | true =>
      rw [h1] at h; cases h
      obtain rfl := Nat.eq_of_beq_eq_true h1
      exact ⟨fn_gl' (num_all a), flat_lit _, by kernel_rfl⟩
    | false => rw [h1] at h; cases h
  · cases h
end
section
open Go.RowKit
set_option linter.unusedVariables false
set_option linter.unusedSimpArgs false
def sqF (a : Nat) : Nat := mulF a a
def pow17F (a : Nat) : Nat := mulF (mulF 1 (numF a)) (sqF (sqF (sqF (sqF (numF a)))))
def sqR (a : Nat) : Nat := mulR a a
def pow17R (a : Nat) : Nat := mulR (mulR 1 (a % 2305843009213693951)) (sqR (sqR (sqR (sqR (a % 2305843009213693951)))))
def pfY : List Nat := [78, 77, 79, 156, 75, 155, 113]
def EY0 : XEnv := { pf := fun f => pfY.any (Nat.beq f), tp := tpS, fv := false }
theorem EY0_kc : KcOk Tryz.prog EY0 := ⟨(fun _ _ _ _ _ _ h => by cases h), (fun _ _ _ _ _ _ _ h => by cases h)⟩
theorem powF_run (a : Nat) : xpureR Tryz.prog EY0 (xcode Tryz.prog EY0 100000) 113 [gU a, .lit (.int .u64 17)] [] = some (gU (pow17F a)) := by kernel_rfl
theorem powR_run (a : Nat) : xpureR Tryz.prog EY0 (xcode Tryz.prog EY0 100000) 79 [gU a, .lit (.int .u64 17)] [] = some (gU (pow17R a)) := by kernel_rfl
/-- Powers of 17, besides. -/
def is17 : G → Bool
  | .lit (.int .u64 (.ofNat n)) => Nat.beq n 17
  | _ => false
theorem is17_spec {g : G} (h : is17 g = true) : g = .lit (.int .u64 17) := by
  unfold is17 at h
  split at h
  · rw [Nat.eq_of_beq_eq_true h]; rfl
  · cases h
def tpY : XPure := fun fid gs gl => match gs with
  | [.lit (.int .u64 (.ofNat a)), b] => (bif Nat.beq fid 113 then (bif is17 b then some (gU (pow17F a)) else none)
      else bif Nat.beq fid 79 then (bif is17 b then some (gU (pow17R a)) else none)
      else tpS fid gs gl)
  | _ => tpS fid gs gl
theorem tpY_ok : PureOk Tryz.prog tpY := by
  intro fid gs gl r h
  unfold tpY at h
  split at h
  · rename_i a b
    cases h1 : Nat.beq fid 113 with
    | true =>
      rw [h1] at h
      simp only [cond_true] at h
      cases h2 : is17 b with
      | false => rw [h2] at h; cases h
      | true =>
        rw [h2] at h; cases h
        obtain rfl := Nat.eq_of_beq_eq_true h1
        rw [is17_spec h2]
        obtain ⟨f1, f2, f3⟩ := xpureR_ok (xcode_ok mixed tpS_ok EY0_kc 100000).toRunOk tpS_ok _ _ _ _ (powF_run a)
        exact ⟨fn_gl' f1, f2, f3⟩
    | false =>
    rw [h1] at h
    simp only [cond_false] at h
    cases h3 : Nat.beq fid 79 with
    | true =>
      rw [h3] at h
      simp only [cond_true] at h
      cases h2 : is17 b with
      | false => rw [h2] at h; cases h
      | true =>
        rw [h2] at h; cases h
        obtain rfl := Nat.eq_of_beq_eq_true h3
        rw [is17_spec h2]
        obtain ⟨f1, f2, f3⟩ := xpureR_ok (xcode_ok mixed tpS_ok EY0_kc 100000).toRunOk tpS_ok _ _ _ _ (powR_run a)
        exact ⟨fn_gl' f1, f2, f3⟩
    | false =>
      rw [h3] at h
      exact tpS_ok _ _ _ _ h
  · exact tpS_ok _ _ _ _ h
def EY : XEnv := { pf := fun f => pfY.any (Nat.beq f), tp := tpY, fv := false }
theorem EY_kc : KcOk Tryz.prog EY := ⟨(fun _ _ _ _ _ _ h => by cases h), (fun _ _ _ _ _ _ _ h => by cases h)⟩
def takeF (s w k : Nat) : Nat := pow17F (numF ((numF (mulF 37 s) + numF (numF ((w + k) % 18446744073709551616))) % 18446744073709551616))
def takeR (s w k : Nat) : Nat := pow17R (addR (mulR 37 s) (addR w k))
/-! ### both are the same -/
theorem mulR_lt (a b : Nat) : mulR a b < 2305843009213693951 := Nat.mod_lt _ (by decide)
theorem addR_lt (a b : Nat) : addR a b < 2305843009213693951 := Nat.mod_lt _ (by decide)
theorem sq_eq {a : Nat} (h : a < 2305843009213693951) : sqF a = sqR a ∧ sqR a < 2305843009213693951 := ⟨mulF_eq (by omega) (by omega), mulR_lt _ _⟩
theorem pow17_eq {a : Nat} (h : a < 18446744073709551616) : pow17F a = pow17R a := by
  have h0 : a % 2305843009213693951 < 2305843009213693951 := Nat.mod_lt _ (by decide)
  obtain ⟨e1, l1⟩ := sq_eq h0
  obtain ⟨e2, l2⟩ := sq_eq l1
  obtain ⟨e3, l3⟩ := sq_eq l2
  obtain ⟨e4, l4⟩ := sq_eq l3
  unfold pow17F pow17R
  have i1 : mulF 1 (a % 2305843009213693951) = mulR 1 (a % 2305843009213693951) := mulF_eq (by omega) (by omega)
  have i2 := mulR_lt 1 (a % 2305843009213693951)
  rw [numF_eq h, e1, e2, e3, e4, i1, mulF_eq (by omega) (by omega)]
theorem pow17R_lt (a : Nat) : pow17R a < 2305843009213693951 := mulR_lt _ _
theorem take_eq {s w k : Nat} (hs : s < 2305843009213693951) (hw : w < 2305843009213693952) (hk : k < 1000) : takeF s w k = takeR s w k := by
  unfold takeF takeR
  have h1 : mulF 37 s = mulR 37 s := mulF_eq (by omega) (by omega)
  have h2 := mulR_lt 37 s
  have h3 : (w + k) % 18446744073709551616 = w + k := Nat.mod_eq_of_lt (by omega)
  have h4 : numF (w + k) = addR w k := numF_eq (by omega)
  have h5 := addR_lt w k
  have h6 : numF (mulR 37 s) = mulR 37 s := by rw [numF_eq (by omega)]; exact Nat.mod_eq_of_lt h2
  have h7 : numF (addR w k) = addR w k := by rw [numF_eq (by omega)]; exact Nat.mod_eq_of_lt h5
  have h8 : (mulR 37 s + addR w k) % 18446744073709551616 = mulR 37 s + addR w k := Nat.mod_eq_of_lt (by omega)
  rw [h1, h3, h4, h6, h7, h8, numF_eq (by omega)]
  have h9 : (mulR 37 s + addR w k) % 2305843009213693951 = addR (mulR 37 s) (addR w k) := rfl
  rw [h9]
  have := addR_lt (mulR 37 s) (addR w k)
  exact pow17_eq (by omega)
theorem takeR_lt (s w k : Nat) : takeR s w k < 2305843009213693951 := pow17R_lt _
end
section
open Go.RowKit
set_option linter.unusedVariables false
set_option linter.unusedSimpArgs false
def of1F (n w a : Nat) : Nat := takeF (takeF (takeF (takeF n w 1) 1 2) (numF a) 3) 0 4
def of1R (n w a : Nat) : Nat := takeR (takeR (takeR (takeR n w 1) 1 2) (a % 2305843009213693951) 3) 0 4
def sec1F (n w a : Nat) : Nat := (1 + of1F n w a % 2305843009213693949) % 18446744073709551616
def sec1R (n w a : Nat) : Nat := (1 + of1R n w a % 2305843009213693949) % 18446744073709551616
theorem sec1_eq {n w a : Nat} (hn : n < 8) (hw : w < 72057594037927936) (ha : a < 18446744073709551616) : sec1F n w a = sec1R n w a := by
  unfold sec1F sec1R of1F of1R
  have m : ∀ x : Nat, x % 2305843009213693951 < 2305843009213693952 := fun x => Nat.lt_trans (Nat.mod_lt _ (by decide)) (by decide)
  rw [numF_eq ha, take_eq (s := n) (by omega) (by omega) (by decide), take_eq (takeR_lt _ _ _) (by decide) (by decide), take_eq (takeR_lt _ _ _) (m a) (by decide), take_eq (takeR_lt _ _ _) (by decide) (by decide)]
theorem sec1R_bd (n w a : Nat) : 1 ≤ sec1R n w a ∧ sec1R n w a ≤ 2305843009213693949 := by
  unfold sec1R
  have := Nat.mod_lt (of1R n w a) (show 0 < 2305843009213693949 by decide)
  omega
/-- "leaf". -/
def labLeaf : G := .lit (.string ⟨#[108, 101, 97, 102]⟩)
def fLeaf (a : Nat) : Nat := sec1F 4 1717658988 a
def rLeaf (a : Nat) : Nat := sec1R 4 1717658988 a
theorem fLeaf_run (a : Nat) : xpureR Tryz.prog EY (xcode Tryz.prog EY 100000) 16 [labLeaf, .sl [gU a] 1] [] = some (gU (fLeaf a)) := by kernel_rfl
theorem rLeaf_run (a : Nat) : xpureR Tryz.prog EY (xcode Tryz.prog EY 100000) 17 [labLeaf, .sl [gU a] 1] [] = some (gU (rLeaf a)) := by kernel_rfl
theorem leaf_eq {a : Nat} (h : a < 18446744073709551616) : fLeaf a = rLeaf a := sec1_eq (by decide) (by decide) h
/-- "up". -/
def labUp : G := .lit (.string ⟨#[117, 112]⟩)
def fUp (a : Nat) : Nat := sec1F 2 28789 a
def rUp (a : Nat) : Nat := sec1R 2 28789 a
theorem fUp_run (a : Nat) : xpureR Tryz.prog EY (xcode Tryz.prog EY 100000) 16 [labUp, .sl [gU a] 1] [] = some (gU (fUp a)) := by kernel_rfl
theorem rUp_run (a : Nat) : xpureR Tryz.prog EY (xcode Tryz.prog EY 100000) 17 [labUp, .sl [gU a] 1] [] = some (gU (rUp a)) := by kernel_rfl
theorem up_eq {a : Nat} (h : a < 18446744073709551616) : fUp a = rUp a := sec1_eq (by decide) (by decide) h
/-- "node". -/
def labNode : G := .lit (.string ⟨#[110, 111, 100, 101]⟩)
def fNode (a : Nat) : Nat := sec1F 4 1701080942 a
def rNode (a : Nat) : Nat := sec1R 4 1701080942 a
theorem fNode_run (a : Nat) : xpureR Tryz.prog EY (xcode Tryz.prog EY 100000) 16 [labNode, .sl [gU a] 1] [] = some (gU (fNode a)) := by kernel_rfl
theorem rNode_run (a : Nat) : xpureR Tryz.prog EY (xcode Tryz.prog EY 100000) 17 [labNode, .sl [gU a] 1] [] = some (gU (rNode a)) := by kernel_rfl
theorem node_eq {a : Nat} (h : a < 18446744073709551616) : fNode a = rNode a := sec1_eq (by decide) (by decide) h
end
section
open Go.RowKit
set_option linter.unusedVariables false
set_option linter.unusedSimpArgs false
section
variable {P : Program}
/-- A function that tells a row of its own: what it tells. -/
noncomputable def rowRun (P : Program) (E : XEnv) (k : Nat) (f : FuncId) (gs : List G) : Option (TypeId × Nat × List G) := match P.funcs[f]? with
  | some fn => (match fn.body, fn.results.toList with
    | some body, [.tmp u] => bif Nat.ble gs.length fn.ntmps then (match xcode P E k body (St.enter fn [] gs) noLow with
      | some [(.ret, s, _)] => (match fget s.fr u, Nat.beq s.p 0 with
        | .rsl i 0 n, true => (match sget s.σ i with
          | some ⟨t, l, none⟩ => some (t, n, l)
          | _ => none)
        | _, _ => none)
      | _ => none) else none
    | _, _ => none)
  | none => none
theorem rowRun_ok (hm : P.follows .mixedOrders = true) {E : XEnv} (ht : PureOk P E.tp) (hk : KcOk P E) {k : Nat} {f : FuncId} {gs : List G} {t : TypeId} {n : Nat} {l : List G} (h : rowRun P E k f gs = some (t, n, l)) (hl : ∀ g ∈ l, ImmG g) : FnR P [] f gs t n l := by
  unfold rowRun at h
  split at h
  · rename_i fn hfn
    split at h
    · rename_i body u hb hres
      cases hc : Nat.ble gs.length fn.ntmps with
      | false => rw [hc] at h; cases h
      | true =>
        rw [hc] at h
        simp only [cond_true] at h
        split at h
        · rename_i s lo hr
          split at h
          · rename_i i n' hv hp
            split at h
            · rename_i t' l' ho
              cases h
              refine fnr_enter hfn hb (Nat.le_of_ble_eq_true hc) (((xcode_ok hm ht hk k).toRunOk.tr _ _ _ _ hr).mono fun e s' hpo => ?_)
              obtain ⟨rfl, he⟩ := post_one hpo
              have hres' : fn.results = #[.tmp u] := by
                rw [← Array.toList_inj]; exact hres
              exact endR (i := i) (by rw [← he.p]; exact Nat.eq_of_beq_eq_true hp) hres' (by rw [← he.fr]; exact hv) (by rw [← he.σ]; exact ho) hl (.inr rfl)
            · cases h
          · cases h
        · cases h
    · cases h
  · cases h
/-- Does a function tell the nil slice? -/
noncomputable def nilRun (P : Program) (E : XEnv) (k : Nat) (f : FuncId) (gs : List G) : Bool := match P.funcs[f]? with
  | some fn => (match fn.body, fn.results.toList with
    | some body, [.tmp u] => bif Nat.ble gs.length fn.ntmps then (match xcode P E k body (St.enter fn [] gs) noLow with
      | some [(.ret, s, _)] => (match fget s.fr u with
        | .lit (.slice none 0 0) => true
        | _ => false)
      | _ => false) else false
    | _, _ => false)
  | none => false
theorem frz_nil {st : St} : Frz P st (.lit (.slice none 0 0)) (.sl [] 0) := fun cx a w β _ v hv => by
  have := hv.lit_eq
  subst this
  exact .sl [] 0 none 0 (fun _ => undef) (Nat.le_refl _) (Nat.zero_le _) (by simp) (by simp) (by simp)
theorem nilRun_ok (hm : P.follows .mixedOrders = true) {E : XEnv} (ht : PureOk P E.tp) (hk : KcOk P E) {k : Nat} {f : FuncId} {gs : List G} (h : nilRun P E k f gs = true) : Fn' P [] f gs (.sl [] 0) := by
  unfold nilRun at h
  split at h
  · rename_i fn hfn
    split at h
    · rename_i body u hb hres
      cases hc : Nat.ble gs.length fn.ntmps with
      | false => rw [hc] at h; cases h
      | true =>
        rw [hc] at h
        simp only [cond_true] at h
        split at h
        · rename_i s lo hr
          split at h
          · rename_i hv
            refine fn_enter hfn hb (Nat.le_of_ble_eq_true hc) (((xcode_ok hm ht hk k).toRunOk.tr _ _ _ _ hr).mono fun e s' hpo => ?_)
            obtain ⟨rfl, he⟩ := post_one hpo
            have hres' : fn.results = #[.tmp u] := by
              rw [← Array.toList_inj]; exact hres
            refine ended_r hres' ?_
            rw [← he.fr, hv]
            exact frz_nil
          · cases h
        · cases h
    · cases h
  · cases h
end
/-! ### what is known of hash.Secret, huddleref02.Secret -/
def tpP : XPure := fun fid gs gl => match gs with
  | [lb, .sl [.lit (.int .u64 (.ofNat a))] n] => bif Nat.beq n 1 then
      (bif Nat.beq fid 16 then (bif gEq 2 labLeaf lb then some (gU (fLeaf a)) else bif gEq 2 labUp lb then some (gU (fUp a)) else bif gEq 2 labNode lb then some (gU (fNode a)) else none)
      else bif Nat.beq fid 17 then (bif gEq 2 labLeaf lb then some (gU (rLeaf a)) else bif gEq 2 labUp lb then some (gU (rUp a)) else bif gEq 2 labNode lb then some (gU (rNode a)) else none)
      else none) else none
  | _ => none
theorem tpP_ok : PureOk Tryz.prog tpP := by
  have key : ∀ {fid : FuncId} {lb : G} {a x : Nat}, xpureR Tryz.prog EY (xcode Tryz.prog EY 100000) fid [lb, .sl [gU a] 1] [] = some (gU x) → ∀ gl, Fn' Tryz.prog gl fid [lb, .sl [gU a] 1] (gU x) ∧ Flat (gU x) ∧ callable Tryz.prog fid = true := fun h gl => by
    obtain ⟨h1, h2, h3⟩ := xpureR_ok (xcode_ok mixed tpY_ok EY_kc 100000).toRunOk tpY_ok _ _ _ _ h
    exact ⟨fn_gl' h1, h2, h3⟩
  intro fid gs gl r h
  unfold tpP at h
  split at h
  · rename_i lb a n
    cases hn : Nat.beq n 1 with
    | false => rw [hn] at h; cases h
    | true =>
      rw [hn] at h
      obtain rfl := Nat.eq_of_beq_eq_true hn
      simp only [cond_true] at h
      cases h1 : Nat.beq fid 16 with
      | true =>
        rw [h1] at h
        simp only [cond_true] at h
        obtain rfl := Nat.eq_of_beq_eq_true h1
        cases e1 : gEq 2 labLeaf lb with
        | true => rw [e1] at h; cases h; rw [← gEq_spec 2 _ _ e1]; exact key (fLeaf_run a) gl
        | false =>
        rw [e1] at h
        simp only [cond_false] at h
        cases e2 : gEq 2 labUp lb with
        | true => rw [e2] at h; cases h; rw [← gEq_spec 2 _ _ e2]; exact key (fUp_run a) gl
        | false =>
        rw [e2] at h
        simp only [cond_false] at h
        cases e3 : gEq 2 labNode lb with
        | true => rw [e3] at h; cases h; rw [← gEq_spec 2 _ _ e3]; exact key (fNode_run a) gl
        | false => rw [e3] at h; cases h
      | false =>
      rw [h1] at h
      simp only [cond_false] at h
      cases h2 : Nat.beq fid 17 with
      | true =>
        rw [h2] at h
        simp only [cond_true] at h
        obtain rfl := Nat.eq_of_beq_eq_true h2
        cases e1 : gEq 2 labLeaf lb with
        | true => rw [e1] at h; cases h; rw [← gEq_spec 2 _ _ e1]; exact key (rLeaf_run a) gl
        | false =>
        rw [e1] at h
        simp only [cond_false] at h
        cases e2 : gEq 2 labUp lb with
        | true => rw [e2] at h; cases h; rw [← gEq_spec 2 _ _ e2]; exact key (rUp_run a) gl
        | false =>
        rw [e2] at h
        simp only [cond_false] at h
        cases e3 : gEq 2 labNode lb with
        | true => rw [e3] at h; cases h; rw [← gEq_spec 2 _ _ e3]; exact key (rNode_run a) gl
        | false => rw [e3] at h; cases h
      | false => rw [h2] at h; cases h
  · cases h
def pfP : List Nat := [16, 17]
def EP : XEnv := { pf := fun f => pfP.any (Nat.beq f), tp := tpP, fv := false }
theorem EP_kc : KcOk Tryz.prog EP := ⟨(fun _ _ _ _ _ _ h => by cases h), (fun _ _ _ _ _ _ _ h => by cases h)⟩
theorem privF_run (a : Nat) : xpureR Tryz.prog EP (xcode Tryz.prog EP 100000) 10 [gU a] [] = some (gU (fNode a)) := by kernel_rfl
theorem privR_run (a : Nat) : xpureR Tryz.prog EP (xcode Tryz.prog EP 100000) 11 [gU a] [] = some (gU (rNode a)) := by kernel_rfl
theorem privF_fn (a : Nat) : Fn' Tryz.prog [] 10 [gU a] (gU (fNode a)) := (xpureR_ok (xcode_ok mixed tpP_ok EP_kc 100000).toRunOk tpP_ok _ _ _ _ (privF_run a)).1
theorem privR_fn (a : Nat) : Fn' Tryz.prog [] 11 [gU a] (gU (rNode a)) := (xpureR_ok (xcode_ok mixed tpP_ok EP_kc 100000).toRunOk tpP_ok _ _ _ _ (privR_run a)).1
/-! ### a path's secrets -/
def chF (a : Nat) : Nat → Nat
  | 0 => fLeaf a
  | i + 1 => fUp (chF a i)
def chR (a : Nat) : Nat → Nat
  | 0 => rLeaf a
  | i + 1 => rUp (chR a i)
theorem chR_lt (a : Nat) : ∀ i, chR a i < 18446744073709551616
  | 0 => Nat.lt_of_le_of_lt (sec1R_bd _ _ a).2 (by decide)
  | i + 1 => Nat.lt_of_le_of_lt (sec1R_bd _ _ (chR a i)).2 (by decide)
theorem ch_eq {a : Nat} (h : a < 18446744073709551616) : ∀ i, chF a i = chR a i
  | 0 => leaf_eq h
  | i + 1 => by
    show fUp (chF a i) = rUp (chR a i)
    rw [ch_eq h i]
    exact up_eq (chR_lt a i)
def rowF (a k : Nat) : List G := (List.range k).map fun i => gU (chF a i)
def rowR (a k : Nat) : List G := (List.range k).map fun i => gU (chR a i)
theorem rowF_imm (a k : Nat) : ∀ g ∈ rowF a k, ImmG g := fun g hg => by
  obtain ⟨i, _, rfl⟩ := List.mem_map.1 hg
  exact imm_lit _
theorem rowR_imm (a k : Nat) : ∀ g ∈ rowR a k, ImmG g := fun g hg => by
  obtain ⟨i, _, rfl⟩ := List.mem_map.1 hg
  exact imm_lit _
theorem row_eq {a : Nat} (h : a < 18446744073709551616) (k : Nat) : rowF a k = rowR a k := by
  unfold rowF rowR
  exact List.map_congr_left fun i _ => by rw [ch_eq h i]
theorem secF1 (a : Nat) : rowRun Tryz.prog EP 100000 7 [gU a, .lit (.int .i64 1)] = some (22, 1, rowF a 1) := by kernel_rfl
theorem secF2 (a : Nat) : rowRun Tryz.prog EP 100000 7 [gU a, .lit (.int .i64 2)] = some (22, 2, rowF a 2) := by kernel_rfl
theorem secF3 (a : Nat) : rowRun Tryz.prog EP 100000 7 [gU a, .lit (.int .i64 3)] = some (22, 3, rowF a 3) := by kernel_rfl
theorem secF4 (a : Nat) : rowRun Tryz.prog EP 100000 7 [gU a, .lit (.int .i64 4)] = some (22, 4, rowF a 4) := by kernel_rfl
theorem secF5 (a : Nat) : rowRun Tryz.prog EP 100000 7 [gU a, .lit (.int .i64 5)] = some (22, 5, rowF a 5) := by kernel_rfl
theorem secF6 (a : Nat) : rowRun Tryz.prog EP 100000 7 [gU a, .lit (.int .i64 6)] = some (22, 6, rowF a 6) := by kernel_rfl
theorem secF7 (a : Nat) : rowRun Tryz.prog EP 100000 7 [gU a, .lit (.int .i64 7)] = some (22, 7, rowF a 7) := by kernel_rfl
theorem secF8 (a : Nat) : rowRun Tryz.prog EP 100000 7 [gU a, .lit (.int .i64 8)] = some (22, 8, rowF a 8) := by kernel_rfl
theorem secF0 (a : Nat) : Fn' Tryz.prog [] 7 [gU a, .lit (.int .i64 0)] (.sl [] 0) := nilRun_ok mixed tpP_ok EP_kc (k := 100000) (by kernel_rfl)
theorem secF_fn (a k : Nat) (hk : k ≤ 8) : Fn' Tryz.prog [] 7 [gU a, .lit (.int .i64 (k : Int))] (.sl (rowF a k) k) := by
  have go : ∀ k : Nat, rowRun Tryz.prog EP 100000 7 [gU a, .lit (.int .i64 (k : Int))] = some (22, k, rowF a k) → Fn' Tryz.prog [] 7 [gU a, .lit (.int .i64 (k : Int))] (.sl (rowF a k) k) := fun k h =>
    (rowRun_ok mixed tpP_ok EP_kc h (rowF_imm a k)).fn (s := 1) (by kernel_rfl) (by simp [rowF]) (rowF_imm a k)
  match k, hk with
  | 0, _ => exact secF0 a
  | 1, _ => exact go 1 (secF1 a)
  | 2, _ => exact go 2 (secF2 a)
  | 3, _ => exact go 3 (secF3 a)
  | 4, _ => exact go 4 (secF4 a)
  | 5, _ => exact go 5 (secF5 a)
  | 6, _ => exact go 6 (secF6 a)
  | 7, _ => exact go 7 (secF7 a)
  | 8, _ => exact go 8 (secF8 a)
theorem secR1 (a : Nat) : rowRun Tryz.prog EP 100000 9 [gU a, .lit (.int .i64 1)] = some (22, 1, rowR a 1) := by kernel_rfl
theorem secR2 (a : Nat) : rowRun Tryz.prog EP 100000 9 [gU a, .lit (.int .i64 2)] = some (22, 2, rowR a 2) := by kernel_rfl
theorem secR3 (a : Nat) : rowRun Tryz.prog EP 100000 9 [gU a, .lit (.int .i64 3)] = some (22, 3, rowR a 3) := by kernel_rfl
theorem secR4 (a : Nat) : rowRun Tryz.prog EP 100000 9 [gU a, .lit (.int .i64 4)] = some (22, 4, rowR a 4) := by kernel_rfl
theorem secR5 (a : Nat) : rowRun Tryz.prog EP 100000 9 [gU a, .lit (.int .i64 5)] = some (22, 5, rowR a 5) := by kernel_rfl
theorem secR6 (a : Nat) : rowRun Tryz.prog EP 100000 9 [gU a, .lit (.int .i64 6)] = some (22, 6, rowR a 6) := by kernel_rfl
theorem secR7 (a : Nat) : rowRun Tryz.prog EP 100000 9 [gU a, .lit (.int .i64 7)] = some (22, 7, rowR a 7) := by kernel_rfl
theorem secR8 (a : Nat) : rowRun Tryz.prog EP 100000 9 [gU a, .lit (.int .i64 8)] = some (22, 8, rowR a 8) := by kernel_rfl
theorem secR0 (a : Nat) : Fn' Tryz.prog [] 9 [gU a, .lit (.int .i64 0)] (.sl [] 0) := nilRun_ok mixed tpP_ok EP_kc (k := 100000) (by kernel_rfl)
theorem secR_fn (a k : Nat) (hk : k ≤ 8) : Fn' Tryz.prog [] 9 [gU a, .lit (.int .i64 (k : Int))] (.sl (rowR a k) k) := by
  have go : ∀ k : Nat, rowRun Tryz.prog EP 100000 9 [gU a, .lit (.int .i64 (k : Int))] = some (22, k, rowR a k) → Fn' Tryz.prog [] 9 [gU a, .lit (.int .i64 (k : Int))] (.sl (rowR a k) k) := fun k h =>
    (rowRun_ok mixed tpP_ok EP_kc h (rowR_imm a k)).fn (s := 1) (by kernel_rfl) (by simp [rowR]) (rowR_imm a k)
  match k, hk with
  | 0, _ => exact secR0 a
  | 1, _ => exact go 1 (secR1 a)
  | 2, _ => exact go 2 (secR2 a)
  | 3, _ => exact go 3 (secR3 a)
  | 4, _ => exact go 4 (secR4 a)
  | 5, _ => exact go 5 (secR5 a)
  | 6, _ => exact go 6 (secR6 a)
  | 7, _ => exact go 7 (secR7 a)
  | 8, _ => exact go 8 (secR8 a)
end
section
open Go.RowKit
set_option linter.unusedVariables false
attribute [local irreducible] Tr Run RunD GS TG Le Wk Frz Fn' ImmG Flat WkFr WkSt
section gun
variable {P : Program} {ops : Array Oper} {K : St → Prop} {ty : TypeId} {pos : String} {af : Array Edge} {rest : List Oper} {n : Nat} {gl : List (Nat × List G)} {fr : Fr} {σ : Sto} {c p d : Nat} {rr : Bool} {gq : Option (Nat × Bool)}
theorem gun_v {op : Op} {g : G} (hw : gwant ⟨n, gl, fr, σ, c, p, rr⟩ ops ⟨some d, op, ty, pos, af, gq⟩ = some true) (he : evVal P (gev ⟨n, gl, fr, σ, c, p, rr⟩) σ ⟨some d, op, ty, pos, af, gq⟩ = some g) (hd : d < n) (h : Run P ops K rest ⟨n, gl, (d, g) :: fr, σ, c, p, rr⟩) : Run P ops K (⟨some d, op, ty, pos, af, gq⟩ :: rest) ⟨n, gl, fr, σ, c, p, rr⟩ := by
  unfold Run
  exact .inl ⟨hw, _, gs_val (fun _ e => by cases e; exact hd) he, h⟩
theorem gun_conv {s t : TypeId} {x : Operand} {g : G} (hw : gwant ⟨n, gl, fr, σ, c, p, rr⟩ ops ⟨some d, .convert s t x, ty, pos, af, gq⟩ = some true) (he : gconv P s t (gev ⟨n, gl, fr, σ, c, p, rr⟩ x) = some g) (hd : d < n) (h : Run P ops K rest ⟨n, gl, (d, g) :: fr, σ, c, p, rr⟩) : Run P ops K (⟨some d, .convert s t x, ty, pos, af, gq⟩ :: rest) ⟨n, gl, fr, σ, c, p, rr⟩ := by
  unfold Run
  exact .inl ⟨hw, _, gs_val (fun _ e => by cases e; exact hd) (ev_conv' he), h⟩
theorem gun_bs {t e : TypeId} {m : Nat} {parts : Array (Nat × Operand)} {l : List G} (hw : gwant ⟨n, gl, fr, σ, c, p, rr⟩ ops ⟨some d, .buildSlice t m parts, ty, pos, af, gq⟩ = some true) (hg : gbs P t m (parts.toList.map fun q => (q.1, gev ⟨n, gl, fr, σ, c, p, rr⟩ q.2)) = some (e, l)) (hd : d < n) (h : Run P ops K rest ⟨n, gl, (d, .rsl c 0 m) :: fr, (c, some ⟨e, l, none⟩) :: σ, c + 1, p, rr⟩) : Run P ops K (⟨some d, .buildSlice t m parts, ty, pos, af, gq⟩ :: rest) ⟨n, gl, fr, σ, c, p, rr⟩ := by
  unfold Run
  exact .inl ⟨hw, _, gs_bs rfl (fun _ e => by cases e; exact hd) hg, h⟩
theorem gun_e {o : Oper} {st st1 : St} (hw : gwant st ops o = some true) (hs : GS P o st st1) (h : Run P ops K rest st1) : Run P ops K (o :: rest) st := by
  unfold Run
  exact .inl ⟨hw, _, hs, h⟩
theorem frz_one {st : St} {g g' : G} (h1 : Frz P st g g') : ∀ (i : Nat) (x y : G), [g][i]? = some x → [g'][i]? = some y → Frz P st x y := by
  intro i x y hx hy
  match i with
  | 0 => simp at hx hy; subst hx; subst hy; exact h1
  | j + 1 => simp at hy
theorem gun_c {fid : FuncId} {xs : Array Operand} {ats : Array TypeId} {vs : List G} {r : G} (hw : gwant ⟨n, gl, fr, σ, c, p, rr⟩ ops ⟨some d, .call { callee := .value (.func fid), args := xs, argTypes := ats }, ty, pos, af, gq⟩ = some true) (hv : xs.toList.map (gev ⟨n, gl, fr, σ, c, p, rr⟩) = vs) (hc : callable P fid = true) (hi : ∀ g ∈ vs, ImmG g) (hF : Fn' P gl fid vs r) (hd : d < n) (h : Run P ops K rest ⟨n, gl, (d, r) :: fr, σ, c, p, rr⟩) :
    Run P ops K (⟨some d, .call { callee := .value (.func fid), args := xs, argTypes := ats }, ty, pos, af, gq⟩ :: rest) ⟨n, gl, fr, σ, c, p, rr⟩ := by
  unfold Run
  exact .inl ⟨hw, _, gs_call (f := .func fid) (fst := []) (cap := []) rfl (fun _ e => by cases e; exact hd) rfl hc (by simpa [hv] using hi) (by simpa [hv] using hF), h⟩
end gun
end
section
open Go.RowKit
set_option linter.unusedVariables false
set_option linter.unusedSimpArgs false
attribute [local irreducible] Tr Run RunD GS TG Le Wk Frz Fn' ImmG Flat WkFr WkSt
theorem imm_gU (x : Nat) : ∀ g ∈ [gU x], ImmG g := fun g hg => by
  obtain rfl := List.mem_singleton.1 hg
  exact imm_lit _
theorem imm_lits {a b : G} (ha : ImmG a) (hb : ImmG b) : ∀ g ∈ [a, b], ImmG g := fun g hg => by
  simp only [List.mem_cons, List.not_mem_nil, or_false] at hg
  rcases hg with rfl | rfl
  · exact ha
  · exact hb
set_option maxHeartbeats 1000000 in
theorem sec06_fn (a : Nat) (h : a < 18446744073709551616) : Fn' Tryz.prog [] 5 [gU a] (gU (1 + a % 2305843009213693949)) := by
  refine fn_enter Tryz.func5 rfl (by simp [Tryz.ntmps5]) ?_
  simp only [St.enter, enterFr, Tryz.ntmps5]
  repeat' (first | apply tr_seq | apply tr_region | apply run_nil | apply thn_n | apply thn_e | apply thn_r | apply blk_e | apply blk_n | apply blk_r | (refine blk_ne ?_ ?_; decide) | apply tr_block | apply tr_skip | apply tr_label | apply tr_exit | apply tr_ret | (refine tr_region_draw (bars := []) mixed (by kernel_rfl) ?_) | apply rund_nil | (apply run_v; simp (disch := omega) [if_pos]; (first | rfl | exact ⟨rfl, rfl⟩ | exact ⟨rfl, rfl, rfl, rfl⟩); decide) | (apply rund_v; simp (disch := omega) [if_pos]; (first | rfl | exact ⟨rfl, rfl⟩ | exact ⟨rfl, rfl, rfl, rfl⟩); decide) | (apply run_conv; simp (disch := omega) [if_pos]; (first | rfl | exact ⟨rfl, rfl⟩ | exact ⟨rfl, rfl, rfl, rfl⟩); decide) | (apply rund_conv; simp (disch := omega) [if_pos]; (first | rfl | exact ⟨rfl, rfl⟩ | exact ⟨rfl, rfl, rfl, rfl⟩); decide) | (apply run_min; simp (disch := omega) [if_pos]; (first | rfl | exact ⟨rfl, rfl⟩ | exact ⟨rfl, rfl, rfl, rfl⟩); decide) | (apply rund_min; simp (disch := omega) [if_pos]; (first | rfl | exact ⟨rfl, rfl⟩ | exact ⟨rfl, rfl, rfl, rfl⟩); decide) | (apply run_max; simp (disch := omega) [if_pos]; (first | rfl | exact ⟨rfl, rfl⟩ | exact ⟨rfl, rfl, rfl, rfl⟩); decide) | (apply rund_max; simp (disch := omega) [if_pos]; (first | rfl | exact ⟨rfl, rfl⟩ | exact ⟨rfl, rfl, rfl, rfl⟩); decide) | (apply run_lenS; simp (disch := omega) [if_pos]; (first | rfl | exact ⟨rfl, rfl⟩ | exact ⟨rfl, rfl, rfl, rfl⟩); decide) | (apply rund_lenS; simp (disch := omega) [if_pos]; (first | rfl | exact ⟨rfl, rfl⟩ | exact ⟨rfl, rfl, rfl, rfl⟩); decide) | (apply run_bs; simp (disch := omega) [if_pos]; (first | rfl | exact ⟨rfl, rfl⟩ | exact ⟨rfl, rfl, rfl, rfl⟩); decide) | (apply run_app; simp (disch := omega) [if_pos]; (first | rfl | exact ⟨rfl, rfl⟩ | exact ⟨rfl, rfl, rfl, rfl⟩); decide) | (apply run_build; simp (disch := omega) [if_pos]; (first | rfl | exact ⟨rfl, rfl⟩ | exact ⟨rfl, rfl, rfl, rfl⟩); decide) | (apply run_box; simp (disch := omega) [if_pos]; (first | rfl | exact ⟨rfl, rfl⟩ | exact ⟨rfl, rfl, rfl, rfl⟩); decide) | (apply run_alloc; simp (disch := omega) [if_pos]; (first | rfl | exact ⟨rfl, rfl⟩ | exact ⟨rfl, rfl, rfl, rfl⟩); decide) | (apply rund_build; simp (disch := omega) [if_pos]; (first | rfl | exact ⟨rfl, rfl⟩ | exact ⟨rfl, rfl, rfl, rfl⟩); decide) | (apply run_sto; simp (disch := omega) [if_pos]; rfl) | (apply rund_bs; decide; simp (disch := omega) [if_pos]; (first | rfl | exact ⟨rfl, rfl⟩ | exact ⟨rfl, rfl, rfl, rfl⟩); decide) | (apply rund_app; decide; simp (disch := omega) [if_pos]; (first | rfl | exact ⟨rfl, rfl⟩ | exact ⟨rfl, rfl, rfl, rfl⟩); decide) | (apply rund_sto; decide; simp (disch := omega) [if_pos]; rfl))
  exact ended_r rfl (frz_int (by omega))
def arI (n m : Int) : Int := (if n < 0 then -(n + 1) else n) % m
theorem arI_bd {n m : Int} (hm : 0 < m) : 0 ≤ arI n m ∧ arI n m < m := ⟨Int.emod_nonneg _ (by omega), Int.emod_lt_of_pos _ hm⟩
set_option maxHeartbeats 1000000 in
theorem around_fn (n m : Int) (h1 : -9223372036854775808 ≤ n) (h2 : n ≤ 9223372036854775807) (hm : 0 < m) : Fn' Tryz.prog [] 6 [.lit (.int .i64 n), .lit (.int .i64 m)] (.lit (.int .i64 (arI n m))) := by
  refine fn_enter Tryz.func6 rfl (by simp [Tryz.ntmps6]) ?_
  simp only [St.enter, enterFr, Tryz.ntmps6]
  repeat' (first | apply tr_seq | apply tr_region | apply run_nil | apply thn_n | apply thn_e | apply thn_r | apply blk_e | apply blk_n | apply blk_r | (refine blk_ne ?_ ?_; decide) | apply tr_block | apply tr_skip | apply tr_label | apply tr_exit | apply tr_ret | (refine tr_region_draw (bars := []) mixed (by kernel_rfl) ?_) | apply rund_nil | (apply run_v; simp (disch := omega) [if_pos]; (first | rfl | exact ⟨rfl, rfl⟩ | exact ⟨rfl, rfl, rfl, rfl⟩); decide) | (apply rund_v; simp (disch := omega) [if_pos]; (first | rfl | exact ⟨rfl, rfl⟩ | exact ⟨rfl, rfl, rfl, rfl⟩); decide) | (apply run_conv; simp (disch := omega) [if_pos]; (first | rfl | exact ⟨rfl, rfl⟩ | exact ⟨rfl, rfl, rfl, rfl⟩); decide) | (apply rund_conv; simp (disch := omega) [if_pos]; (first | rfl | exact ⟨rfl, rfl⟩ | exact ⟨rfl, rfl, rfl, rfl⟩); decide) | (apply run_min; simp (disch := omega) [if_pos]; (first | rfl | exact ⟨rfl, rfl⟩ | exact ⟨rfl, rfl, rfl, rfl⟩); decide) | (apply rund_min; simp (disch := omega) [if_pos]; (first | rfl | exact ⟨rfl, rfl⟩ | exact ⟨rfl, rfl, rfl, rfl⟩); decide) | (apply run_max; simp (disch := omega) [if_pos]; (first | rfl | exact ⟨rfl, rfl⟩ | exact ⟨rfl, rfl, rfl, rfl⟩); decide) | (apply rund_max; simp (disch := omega) [if_pos]; (first | rfl | exact ⟨rfl, rfl⟩ | exact ⟨rfl, rfl, rfl, rfl⟩); decide) | (apply run_lenS; simp (disch := omega) [if_pos]; (first | rfl | exact ⟨rfl, rfl⟩ | exact ⟨rfl, rfl, rfl, rfl⟩); decide) | (apply rund_lenS; simp (disch := omega) [if_pos]; (first | rfl | exact ⟨rfl, rfl⟩ | exact ⟨rfl, rfl, rfl, rfl⟩); decide) | (apply run_bs; simp (disch := omega) [if_pos]; (first | rfl | exact ⟨rfl, rfl⟩ | exact ⟨rfl, rfl, rfl, rfl⟩); decide) | (apply run_app; simp (disch := omega) [if_pos]; (first | rfl | exact ⟨rfl, rfl⟩ | exact ⟨rfl, rfl, rfl, rfl⟩); decide) | (apply run_build; simp (disch := omega) [if_pos]; (first | rfl | exact ⟨rfl, rfl⟩ | exact ⟨rfl, rfl, rfl, rfl⟩); decide) | (apply run_box; simp (disch := omega) [if_pos]; (first | rfl | exact ⟨rfl, rfl⟩ | exact ⟨rfl, rfl, rfl, rfl⟩); decide) | (apply run_alloc; simp (disch := omega) [if_pos]; (first | rfl | exact ⟨rfl, rfl⟩ | exact ⟨rfl, rfl, rfl, rfl⟩); decide) | (apply rund_build; simp (disch := omega) [if_pos]; (first | rfl | exact ⟨rfl, rfl⟩ | exact ⟨rfl, rfl, rfl, rfl⟩); decide) | (apply run_sto; simp (disch := omega) [if_pos]; rfl) | (apply rund_bs; decide; simp (disch := omega) [if_pos]; (first | rfl | exact ⟨rfl, rfl⟩ | exact ⟨rfl, rfl, rfl, rfl⟩); decide) | (apply rund_app; decide; simp (disch := omega) [if_pos]; (first | rfl | exact ⟨rfl, rfl⟩ | exact ⟨rfl, rfl, rfl, rfl⟩); decide) | (apply rund_sto; decide; simp (disch := omega) [if_pos]; rfl))
  refine tr_condP (p := n < 0) ?_ (fun h => ?_) (fun h => ?_)
  · simp
  · have hne : m ≠ 0 := by omega
    repeat' (first | apply tr_seq | apply tr_region | apply run_nil | apply thn_n | apply thn_e | apply thn_r | apply blk_e | apply blk_n | apply blk_r | (refine blk_ne ?_ ?_; decide) | apply tr_block | apply tr_skip | apply tr_label | apply tr_exit | apply tr_ret | (refine tr_region_draw (bars := []) mixed (by kernel_rfl) ?_) | apply rund_nil | (apply run_v; simp (disch := omega) [if_pos]; (first | rfl | exact ⟨rfl, rfl⟩ | exact ⟨rfl, rfl, rfl, rfl⟩); decide) | (apply rund_v; simp (disch := omega) [if_pos]; (first | rfl | exact ⟨rfl, rfl⟩ | exact ⟨rfl, rfl, rfl, rfl⟩); decide) | (apply run_conv; simp (disch := omega) [if_pos]; (first | rfl | exact ⟨rfl, rfl⟩ | exact ⟨rfl, rfl, rfl, rfl⟩); decide) | (apply rund_conv; simp (disch := omega) [if_pos]; (first | rfl | exact ⟨rfl, rfl⟩ | exact ⟨rfl, rfl, rfl, rfl⟩); decide) | (apply run_min; simp (disch := omega) [if_pos]; (first | rfl | exact ⟨rfl, rfl⟩ | exact ⟨rfl, rfl, rfl, rfl⟩); decide) | (apply rund_min; simp (disch := omega) [if_pos]; (first | rfl | exact ⟨rfl, rfl⟩ | exact ⟨rfl, rfl, rfl, rfl⟩); decide) | (apply run_max; simp (disch := omega) [if_pos]; (first | rfl | exact ⟨rfl, rfl⟩ | exact ⟨rfl, rfl, rfl, rfl⟩); decide) | (apply rund_max; simp (disch := omega) [if_pos]; (first | rfl | exact ⟨rfl, rfl⟩ | exact ⟨rfl, rfl, rfl, rfl⟩); decide) | (apply run_lenS; simp (disch := omega) [if_pos]; (first | rfl | exact ⟨rfl, rfl⟩ | exact ⟨rfl, rfl, rfl, rfl⟩); decide) | (apply rund_lenS; simp (disch := omega) [if_pos]; (first | rfl | exact ⟨rfl, rfl⟩ | exact ⟨rfl, rfl, rfl, rfl⟩); decide) | (apply run_bs; simp (disch := omega) [if_pos]; (first | rfl | exact ⟨rfl, rfl⟩ | exact ⟨rfl, rfl, rfl, rfl⟩); decide) | (apply run_app; simp (disch := omega) [if_pos]; (first | rfl | exact ⟨rfl, rfl⟩ | exact ⟨rfl, rfl, rfl, rfl⟩); decide) | (apply run_build; simp (disch := omega) [if_pos]; (first | rfl | exact ⟨rfl, rfl⟩ | exact ⟨rfl, rfl, rfl, rfl⟩); decide) | (apply run_box; simp (disch := omega) [if_pos]; (first | rfl | exact ⟨rfl, rfl⟩ | exact ⟨rfl, rfl, rfl, rfl⟩); decide) | (apply run_alloc; simp (disch := omega) [if_pos]; (first | rfl | exact ⟨rfl, rfl⟩ | exact ⟨rfl, rfl, rfl, rfl⟩); decide) | (apply rund_build; simp (disch := omega) [if_pos]; (first | rfl | exact ⟨rfl, rfl⟩ | exact ⟨rfl, rfl, rfl, rfl⟩); decide) | (apply run_sto; simp (disch := omega) [if_pos]; rfl) | (apply rund_bs; decide; simp (disch := omega) [if_pos]; (first | rfl | exact ⟨rfl, rfl⟩ | exact ⟨rfl, rfl, rfl, rfl⟩); decide) | (apply rund_app; decide; simp (disch := omega) [if_pos]; (first | rfl | exact ⟨rfl, rfl⟩ | exact ⟨rfl, rfl, rfl, rfl⟩); decide) | (apply rund_sto; decide; simp (disch := omega) [if_pos]; rfl))
    exact ended_r rfl (frz_int (by unfold arI; rw [if_pos h]))
  · have hne : m ≠ 0 := by omega
    repeat' (first | apply tr_seq | apply tr_region | apply run_nil | apply thn_n | apply thn_e | apply thn_r | apply blk_e | apply blk_n | apply blk_r | (refine blk_ne ?_ ?_; decide) | apply tr_block | apply tr_skip | apply tr_label | apply tr_exit | apply tr_ret | (refine tr_region_draw (bars := []) mixed (by kernel_rfl) ?_) | apply rund_nil | (apply run_v; simp (disch := omega) [if_pos]; (first | rfl | exact ⟨rfl, rfl⟩ | exact ⟨rfl, rfl, rfl, rfl⟩); decide) | (apply rund_v; simp (disch := omega) [if_pos]; (first | rfl | exact ⟨rfl, rfl⟩ | exact ⟨rfl, rfl, rfl, rfl⟩); decide) | (apply run_conv; simp (disch := omega) [if_pos]; (first | rfl | exact ⟨rfl, rfl⟩ | exact ⟨rfl, rfl, rfl, rfl⟩); decide) | (apply rund_conv; simp (disch := omega) [if_pos]; (first | rfl | exact ⟨rfl, rfl⟩ | exact ⟨rfl, rfl, rfl, rfl⟩); decide) | (apply run_min; simp (disch := omega) [if_pos]; (first | rfl | exact ⟨rfl, rfl⟩ | exact ⟨rfl, rfl, rfl, rfl⟩); decide) | (apply rund_min; simp (disch := omega) [if_pos]; (first | rfl | exact ⟨rfl, rfl⟩ | exact ⟨rfl, rfl, rfl, rfl⟩); decide) | (apply run_max; simp (disch := omega) [if_pos]; (first | rfl | exact ⟨rfl, rfl⟩ | exact ⟨rfl, rfl, rfl, rfl⟩); decide) | (apply rund_max; simp (disch := omega) [if_pos]; (first | rfl | exact ⟨rfl, rfl⟩ | exact ⟨rfl, rfl, rfl, rfl⟩); decide) | (apply run_lenS; simp (disch := omega) [if_pos]; (first | rfl | exact ⟨rfl, rfl⟩ | exact ⟨rfl, rfl, rfl, rfl⟩); decide) | (apply rund_lenS; simp (disch := omega) [if_pos]; (first | rfl | exact ⟨rfl, rfl⟩ | exact ⟨rfl, rfl, rfl, rfl⟩); decide) | (apply run_bs; simp (disch := omega) [if_pos]; (first | rfl | exact ⟨rfl, rfl⟩ | exact ⟨rfl, rfl, rfl, rfl⟩); decide) | (apply run_app; simp (disch := omega) [if_pos]; (first | rfl | exact ⟨rfl, rfl⟩ | exact ⟨rfl, rfl, rfl, rfl⟩); decide) | (apply run_build; simp (disch := omega) [if_pos]; (first | rfl | exact ⟨rfl, rfl⟩ | exact ⟨rfl, rfl, rfl, rfl⟩); decide) | (apply run_box; simp (disch := omega) [if_pos]; (first | rfl | exact ⟨rfl, rfl⟩ | exact ⟨rfl, rfl, rfl, rfl⟩); decide) | (apply run_alloc; simp (disch := omega) [if_pos]; (first | rfl | exact ⟨rfl, rfl⟩ | exact ⟨rfl, rfl, rfl, rfl⟩); decide) | (apply rund_build; simp (disch := omega) [if_pos]; (first | rfl | exact ⟨rfl, rfl⟩ | exact ⟨rfl, rfl, rfl, rfl⟩); decide) | (apply run_sto; simp (disch := omega) [if_pos]; rfl) | (apply rund_bs; decide; simp (disch := omega) [if_pos]; (first | rfl | exact ⟨rfl, rfl⟩ | exact ⟨rfl, rfl, rfl, rfl⟩); decide) | (apply rund_app; decide; simp (disch := omega) [if_pos]; (first | rfl | exact ⟨rfl, rfl⟩ | exact ⟨rfl, rfl, rfl, rfl⟩); decide) | (apply rund_sto; decide; simp (disch := omega) [if_pos]; rfl))
    exact ended_r rfl (frz_int (by unfold arI; rw [if_neg h]))
set_option maxHeartbeats 1000000 in
theorem same_fn (l : List G) (n : Nat) (hl : l.length = n) (hn : n < 4611686018427387904) (hu : ∀ g ∈ l, ∃ x : Nat, g = gU x) : Fn' Tryz.prog [] 8 [.sl l n, .sl l n] (.lit (.bool true)) := by
  refine fn_enter Tryz.func8 rfl (by simp [Tryz.ntmps8]) ?_
  simp only [St.enter, enterFr, Tryz.ntmps8]
  repeat' (first | apply tr_seq | apply tr_region | apply run_nil | apply thn_n | apply thn_e | apply thn_r | apply blk_e | apply blk_n | apply blk_r | (refine blk_ne ?_ ?_; decide) | apply tr_block | apply tr_skip | apply tr_label | apply tr_exit | apply tr_ret | (refine tr_region_draw (bars := []) mixed (by kernel_rfl) ?_) | apply rund_nil | (apply run_v; simp (disch := omega) [if_pos]; (first | rfl | exact ⟨rfl, rfl⟩ | exact ⟨rfl, rfl, rfl, rfl⟩); decide) | (apply rund_v; simp (disch := omega) [if_pos]; (first | rfl | exact ⟨rfl, rfl⟩ | exact ⟨rfl, rfl, rfl, rfl⟩); decide) | (apply run_conv; simp (disch := omega) [if_pos]; (first | rfl | exact ⟨rfl, rfl⟩ | exact ⟨rfl, rfl, rfl, rfl⟩); decide) | (apply rund_conv; simp (disch := omega) [if_pos]; (first | rfl | exact ⟨rfl, rfl⟩ | exact ⟨rfl, rfl, rfl, rfl⟩); decide) | (apply run_min; simp (disch := omega) [if_pos]; (first | rfl | exact ⟨rfl, rfl⟩ | exact ⟨rfl, rfl, rfl, rfl⟩); decide) | (apply rund_min; simp (disch := omega) [if_pos]; (first | rfl | exact ⟨rfl, rfl⟩ | exact ⟨rfl, rfl, rfl, rfl⟩); decide) | (apply run_max; simp (disch := omega) [if_pos]; (first | rfl | exact ⟨rfl, rfl⟩ | exact ⟨rfl, rfl, rfl, rfl⟩); decide) | (apply rund_max; simp (disch := omega) [if_pos]; (first | rfl | exact ⟨rfl, rfl⟩ | exact ⟨rfl, rfl, rfl, rfl⟩); decide) | (apply run_lenS; simp (disch := omega) [if_pos]; (first | rfl | exact ⟨rfl, rfl⟩ | exact ⟨rfl, rfl, rfl, rfl⟩); decide) | (apply rund_lenS; simp (disch := omega) [if_pos]; (first | rfl | exact ⟨rfl, rfl⟩ | exact ⟨rfl, rfl, rfl, rfl⟩); decide) | (apply run_bs; simp (disch := omega) [if_pos]; (first | rfl | exact ⟨rfl, rfl⟩ | exact ⟨rfl, rfl, rfl, rfl⟩); decide) | (apply run_app; simp (disch := omega) [if_pos]; (first | rfl | exact ⟨rfl, rfl⟩ | exact ⟨rfl, rfl, rfl, rfl⟩); decide) | (apply run_build; simp (disch := omega) [if_pos]; (first | rfl | exact ⟨rfl, rfl⟩ | exact ⟨rfl, rfl, rfl, rfl⟩); decide) | (apply run_box; simp (disch := omega) [if_pos]; (first | rfl | exact ⟨rfl, rfl⟩ | exact ⟨rfl, rfl, rfl, rfl⟩); decide) | (apply run_alloc; simp (disch := omega) [if_pos]; (first | rfl | exact ⟨rfl, rfl⟩ | exact ⟨rfl, rfl, rfl, rfl⟩); decide) | (apply rund_build; simp (disch := omega) [if_pos]; (first | rfl | exact ⟨rfl, rfl⟩ | exact ⟨rfl, rfl, rfl, rfl⟩); decide) | (apply run_sto; simp (disch := omega) [if_pos]; rfl) | (apply rund_bs; decide; simp (disch := omega) [if_pos]; (first | rfl | exact ⟨rfl, rfl⟩ | exact ⟨rfl, rfl, rfl, rfl⟩); decide) | (apply rund_app; decide; simp (disch := omega) [if_pos]; (first | rfl | exact ⟨rfl, rfl⟩ | exact ⟨rfl, rfl, rfl, rfl⟩); decide) | (apply rund_sto; decide; simp (disch := omega) [if_pos]; rfl))
  refine tr_condF (by simp) ?_
  repeat' (first | apply tr_seq | apply tr_region | apply run_nil | apply thn_n | apply thn_e | apply thn_r | apply blk_e | apply blk_n | apply blk_r | (refine blk_ne ?_ ?_; decide) | apply tr_block | apply tr_skip | apply tr_label | apply tr_exit | apply tr_ret | (refine tr_region_draw (bars := []) mixed (by kernel_rfl) ?_) | apply rund_nil | (apply run_v; simp (disch := omega) [if_pos]; (first | rfl | exact ⟨rfl, rfl⟩ | exact ⟨rfl, rfl, rfl, rfl⟩); decide) | (apply rund_v; simp (disch := omega) [if_pos]; (first | rfl | exact ⟨rfl, rfl⟩ | exact ⟨rfl, rfl, rfl, rfl⟩); decide) | (apply run_conv; simp (disch := omega) [if_pos]; (first | rfl | exact ⟨rfl, rfl⟩ | exact ⟨rfl, rfl, rfl, rfl⟩); decide) | (apply rund_conv; simp (disch := omega) [if_pos]; (first | rfl | exact ⟨rfl, rfl⟩ | exact ⟨rfl, rfl, rfl, rfl⟩); decide) | (apply run_min; simp (disch := omega) [if_pos]; (first | rfl | exact ⟨rfl, rfl⟩ | exact ⟨rfl, rfl, rfl, rfl⟩); decide) | (apply rund_min; simp (disch := omega) [if_pos]; (first | rfl | exact ⟨rfl, rfl⟩ | exact ⟨rfl, rfl, rfl, rfl⟩); decide) | (apply run_max; simp (disch := omega) [if_pos]; (first | rfl | exact ⟨rfl, rfl⟩ | exact ⟨rfl, rfl, rfl, rfl⟩); decide) | (apply rund_max; simp (disch := omega) [if_pos]; (first | rfl | exact ⟨rfl, rfl⟩ | exact ⟨rfl, rfl, rfl, rfl⟩); decide) | (apply run_lenS; simp (disch := omega) [if_pos]; (first | rfl | exact ⟨rfl, rfl⟩ | exact ⟨rfl, rfl, rfl, rfl⟩); decide) | (apply rund_lenS; simp (disch := omega) [if_pos]; (first | rfl | exact ⟨rfl, rfl⟩ | exact ⟨rfl, rfl, rfl, rfl⟩); decide) | (apply run_bs; simp (disch := omega) [if_pos]; (first | rfl | exact ⟨rfl, rfl⟩ | exact ⟨rfl, rfl, rfl, rfl⟩); decide) | (apply run_app; simp (disch := omega) [if_pos]; (first | rfl | exact ⟨rfl, rfl⟩ | exact ⟨rfl, rfl, rfl, rfl⟩); decide) | (apply run_build; simp (disch := omega) [if_pos]; (first | rfl | exact ⟨rfl, rfl⟩ | exact ⟨rfl, rfl, rfl, rfl⟩); decide) | (apply run_box; simp (disch := omega) [if_pos]; (first | rfl | exact ⟨rfl, rfl⟩ | exact ⟨rfl, rfl, rfl, rfl⟩); decide) | (apply run_alloc; simp (disch := omega) [if_pos]; (first | rfl | exact ⟨rfl, rfl⟩ | exact ⟨rfl, rfl, rfl, rfl⟩); decide) | (apply rund_build; simp (disch := omega) [if_pos]; (first | rfl | exact ⟨rfl, rfl⟩ | exact ⟨rfl, rfl, rfl, rfl⟩); decide) | (apply run_sto; simp (disch := omega) [if_pos]; rfl) | (apply rund_bs; decide; simp (disch := omega) [if_pos]; (first | rfl | exact ⟨rfl, rfl⟩ | exact ⟨rfl, rfl, rfl, rfl⟩); decide) | (apply rund_app; decide; simp (disch := omega) [if_pos]; (first | rfl | exact ⟨rfl, rfl⟩ | exact ⟨rfl, rfl, rfl, rfl⟩); decide) | (apply rund_sto; decide; simp (disch := omega) [if_pos]; rfl))
  refine tr_loop (fun q : {q : Nat // q ≤ n} => ⟨26, [], [(0, .sl l n), (1, .sl l n), (5, .lit (.int .i64 (q.1 : Int)))], [], 0, 0, false⟩) (fun q => n - q.1) ⟨0, Nat.zero_le _⟩ ?_ ?_
  · (refine le_to [] (by decide) (by simp) (by simp) ?_ ?_; (repeat' (first | exact wkfr_nil | refine wkfr_cons ?_ ?_)); (all_goals (try (first | exact wk_junk | exact wk_imm (imm_lit _) | exact wk_imm (imm_sl _ _) | exact wk_imm (imm_ptr _ _) | exact wk_rsl rfl | exact wk_rslE rfl (by simp) | exact wk_ref rfl | exact wkst_nil | exact wk_int (by omega) | refine wkst_eq rfl rfl ?_ ?_ wkst_nil))))
  · rintro ⟨q, hq⟩
    dsimp only
    repeat' (first | apply tr_seq | apply tr_region | apply run_nil | apply thn_n | apply thn_e | apply thn_r | apply blk_e | apply blk_n | apply blk_r | (refine blk_ne ?_ ?_; decide) | apply tr_block | apply tr_skip | apply tr_label | apply tr_exit | apply tr_ret | (refine tr_region_draw (bars := []) mixed (by kernel_rfl) ?_) | apply rund_nil | (apply run_v; simp (disch := omega) [if_pos]; (first | rfl | exact ⟨rfl, rfl⟩ | exact ⟨rfl, rfl, rfl, rfl⟩); decide) | (apply rund_v; simp (disch := omega) [if_pos]; (first | rfl | exact ⟨rfl, rfl⟩ | exact ⟨rfl, rfl, rfl, rfl⟩); decide) | (apply run_conv; simp (disch := omega) [if_pos]; (first | rfl | exact ⟨rfl, rfl⟩ | exact ⟨rfl, rfl, rfl, rfl⟩); decide) | (apply rund_conv; simp (disch := omega) [if_pos]; (first | rfl | exact ⟨rfl, rfl⟩ | exact ⟨rfl, rfl, rfl, rfl⟩); decide) | (apply run_min; simp (disch := omega) [if_pos]; (first | rfl | exact ⟨rfl, rfl⟩ | exact ⟨rfl, rfl, rfl, rfl⟩); decide) | (apply rund_min; simp (disch := omega) [if_pos]; (first | rfl | exact ⟨rfl, rfl⟩ | exact ⟨rfl, rfl, rfl, rfl⟩); decide) | (apply run_max; simp (disch := omega) [if_pos]; (first | rfl | exact ⟨rfl, rfl⟩ | exact ⟨rfl, rfl, rfl, rfl⟩); decide) | (apply rund_max; simp (disch := omega) [if_pos]; (first | rfl | exact ⟨rfl, rfl⟩ | exact ⟨rfl, rfl, rfl, rfl⟩); decide) | (apply run_lenS; simp (disch := omega) [if_pos]; (first | rfl | exact ⟨rfl, rfl⟩ | exact ⟨rfl, rfl, rfl, rfl⟩); decide) | (apply rund_lenS; simp (disch := omega) [if_pos]; (first | rfl | exact ⟨rfl, rfl⟩ | exact ⟨rfl, rfl, rfl, rfl⟩); decide) | (apply run_bs; simp (disch := omega) [if_pos]; (first | rfl | exact ⟨rfl, rfl⟩ | exact ⟨rfl, rfl, rfl, rfl⟩); decide) | (apply run_app; simp (disch := omega) [if_pos]; (first | rfl | exact ⟨rfl, rfl⟩ | exact ⟨rfl, rfl, rfl, rfl⟩); decide) | (apply run_build; simp (disch := omega) [if_pos]; (first | rfl | exact ⟨rfl, rfl⟩ | exact ⟨rfl, rfl, rfl, rfl⟩); decide) | (apply run_box; simp (disch := omega) [if_pos]; (first | rfl | exact ⟨rfl, rfl⟩ | exact ⟨rfl, rfl, rfl, rfl⟩); decide) | (apply run_alloc; simp (disch := omega) [if_pos]; (first | rfl | exact ⟨rfl, rfl⟩ | exact ⟨rfl, rfl, rfl, rfl⟩); decide) | (apply rund_build; simp (disch := omega) [if_pos]; (first | rfl | exact ⟨rfl, rfl⟩ | exact ⟨rfl, rfl, rfl, rfl⟩); decide) | (apply run_sto; simp (disch := omega) [if_pos]; rfl) | (apply rund_bs; decide; simp (disch := omega) [if_pos]; (first | rfl | exact ⟨rfl, rfl⟩ | exact ⟨rfl, rfl, rfl, rfl⟩); decide) | (apply rund_app; decide; simp (disch := omega) [if_pos]; (first | rfl | exact ⟨rfl, rfl⟩ | exact ⟨rfl, rfl, rfl, rfl⟩); decide) | (apply rund_sto; decide; simp (disch := omega) [if_pos]; rfl))
    refine tr_condP (p := q < n) ?_ (fun h => ?_) (fun h => ?_)
    · simp
    · have hql : q < l.length := by omega
      obtain ⟨x, hx⟩ := hu _ (List.getElem_mem hql)
      repeat' (first | apply tr_seq | apply tr_region | apply run_nil | apply thn_n | apply thn_e | apply thn_r | apply blk_e | apply blk_n | apply blk_r | (refine blk_ne ?_ ?_; decide) | apply tr_block | apply tr_skip | apply tr_label | apply tr_exit | apply tr_ret | (refine tr_region_draw (bars := []) mixed (by kernel_rfl) ?_) | apply rund_nil | (apply run_v; simp (disch := omega) [if_pos, hx]; (first | rfl | exact ⟨rfl, rfl⟩ | exact ⟨rfl, rfl, rfl, rfl⟩); decide) | (apply rund_v; simp (disch := omega) [if_pos, hx]; (first | rfl | exact ⟨rfl, rfl⟩ | exact ⟨rfl, rfl, rfl, rfl⟩); decide) | (apply run_conv; simp (disch := omega) [if_pos, hx]; (first | rfl | exact ⟨rfl, rfl⟩ | exact ⟨rfl, rfl, rfl, rfl⟩); decide) | (apply rund_conv; simp (disch := omega) [if_pos, hx]; (first | rfl | exact ⟨rfl, rfl⟩ | exact ⟨rfl, rfl, rfl, rfl⟩); decide) | (apply run_min; simp (disch := omega) [if_pos, hx]; (first | rfl | exact ⟨rfl, rfl⟩ | exact ⟨rfl, rfl, rfl, rfl⟩); decide) | (apply rund_min; simp (disch := omega) [if_pos, hx]; (first | rfl | exact ⟨rfl, rfl⟩ | exact ⟨rfl, rfl, rfl, rfl⟩); decide) | (apply run_max; simp (disch := omega) [if_pos, hx]; (first | rfl | exact ⟨rfl, rfl⟩ | exact ⟨rfl, rfl, rfl, rfl⟩); decide) | (apply rund_max; simp (disch := omega) [if_pos, hx]; (first | rfl | exact ⟨rfl, rfl⟩ | exact ⟨rfl, rfl, rfl, rfl⟩); decide) | (apply run_lenS; simp (disch := omega) [if_pos, hx]; (first | rfl | exact ⟨rfl, rfl⟩ | exact ⟨rfl, rfl, rfl, rfl⟩); decide) | (apply rund_lenS; simp (disch := omega) [if_pos, hx]; (first | rfl | exact ⟨rfl, rfl⟩ | exact ⟨rfl, rfl, rfl, rfl⟩); decide) | (apply run_bs; simp (disch := omega) [if_pos, hx]; (first | rfl | exact ⟨rfl, rfl⟩ | exact ⟨rfl, rfl, rfl, rfl⟩); decide) | (apply run_app; simp (disch := omega) [if_pos, hx]; (first | rfl | exact ⟨rfl, rfl⟩ | exact ⟨rfl, rfl, rfl, rfl⟩); decide) | (apply run_build; simp (disch := omega) [if_pos, hx]; (first | rfl | exact ⟨rfl, rfl⟩ | exact ⟨rfl, rfl, rfl, rfl⟩); decide) | (apply run_box; simp (disch := omega) [if_pos, hx]; (first | rfl | exact ⟨rfl, rfl⟩ | exact ⟨rfl, rfl, rfl, rfl⟩); decide) | (apply run_alloc; simp (disch := omega) [if_pos, hx]; (first | rfl | exact ⟨rfl, rfl⟩ | exact ⟨rfl, rfl, rfl, rfl⟩); decide) | (apply rund_build; simp (disch := omega) [if_pos, hx]; (first | rfl | exact ⟨rfl, rfl⟩ | exact ⟨rfl, rfl, rfl, rfl⟩); decide) | (apply run_sto; simp (disch := omega) [if_pos, hx]; rfl) | (apply rund_bs; decide; simp (disch := omega) [if_pos, hx]; (first | rfl | exact ⟨rfl, rfl⟩ | exact ⟨rfl, rfl, rfl, rfl⟩); decide) | (apply rund_app; decide; simp (disch := omega) [if_pos, hx]; (first | rfl | exact ⟨rfl, rfl⟩ | exact ⟨rfl, rfl, rfl, rfl⟩); decide) | (apply rund_sto; decide; simp (disch := omega) [if_pos, hx]; rfl))
      refine tr_condF (by simp) ?_
      repeat' (first | apply tr_seq | apply tr_region | apply run_nil | apply thn_n | apply thn_e | apply thn_r | apply blk_e | apply blk_n | apply blk_r | (refine blk_ne ?_ ?_; decide) | apply tr_block | apply tr_skip | apply tr_label | apply tr_exit | apply tr_ret | (refine tr_region_draw (bars := []) mixed (by kernel_rfl) ?_) | apply rund_nil | (apply run_v; simp (disch := omega) [if_pos]; (first | rfl | exact ⟨rfl, rfl⟩ | exact ⟨rfl, rfl, rfl, rfl⟩); decide) | (apply rund_v; simp (disch := omega) [if_pos]; (first | rfl | exact ⟨rfl, rfl⟩ | exact ⟨rfl, rfl, rfl, rfl⟩); decide) | (apply run_conv; simp (disch := omega) [if_pos]; (first | rfl | exact ⟨rfl, rfl⟩ | exact ⟨rfl, rfl, rfl, rfl⟩); decide) | (apply rund_conv; simp (disch := omega) [if_pos]; (first | rfl | exact ⟨rfl, rfl⟩ | exact ⟨rfl, rfl, rfl, rfl⟩); decide) | (apply run_min; simp (disch := omega) [if_pos]; (first | rfl | exact ⟨rfl, rfl⟩ | exact ⟨rfl, rfl, rfl, rfl⟩); decide) | (apply rund_min; simp (disch := omega) [if_pos]; (first | rfl | exact ⟨rfl, rfl⟩ | exact ⟨rfl, rfl, rfl, rfl⟩); decide) | (apply run_max; simp (disch := omega) [if_pos]; (first | rfl | exact ⟨rfl, rfl⟩ | exact ⟨rfl, rfl, rfl, rfl⟩); decide) | (apply rund_max; simp (disch := omega) [if_pos]; (first | rfl | exact ⟨rfl, rfl⟩ | exact ⟨rfl, rfl, rfl, rfl⟩); decide) | (apply run_lenS; simp (disch := omega) [if_pos]; (first | rfl | exact ⟨rfl, rfl⟩ | exact ⟨rfl, rfl, rfl, rfl⟩); decide) | (apply rund_lenS; simp (disch := omega) [if_pos]; (first | rfl | exact ⟨rfl, rfl⟩ | exact ⟨rfl, rfl, rfl, rfl⟩); decide) | (apply run_bs; simp (disch := omega) [if_pos]; (first | rfl | exact ⟨rfl, rfl⟩ | exact ⟨rfl, rfl, rfl, rfl⟩); decide) | (apply run_app; simp (disch := omega) [if_pos]; (first | rfl | exact ⟨rfl, rfl⟩ | exact ⟨rfl, rfl, rfl, rfl⟩); decide) | (apply run_build; simp (disch := omega) [if_pos]; (first | rfl | exact ⟨rfl, rfl⟩ | exact ⟨rfl, rfl, rfl, rfl⟩); decide) | (apply run_box; simp (disch := omega) [if_pos]; (first | rfl | exact ⟨rfl, rfl⟩ | exact ⟨rfl, rfl, rfl, rfl⟩); decide) | (apply run_alloc; simp (disch := omega) [if_pos]; (first | rfl | exact ⟨rfl, rfl⟩ | exact ⟨rfl, rfl, rfl, rfl⟩); decide) | (apply rund_build; simp (disch := omega) [if_pos]; (first | rfl | exact ⟨rfl, rfl⟩ | exact ⟨rfl, rfl, rfl, rfl⟩); decide) | (apply run_sto; simp (disch := omega) [if_pos]; rfl) | (apply rund_bs; decide; simp (disch := omega) [if_pos]; (first | rfl | exact ⟨rfl, rfl⟩ | exact ⟨rfl, rfl, rfl, rfl⟩); decide) | (apply rund_app; decide; simp (disch := omega) [if_pos]; (first | rfl | exact ⟨rfl, rfl⟩ | exact ⟨rfl, rfl, rfl, rfl⟩); decide) | (apply rund_sto; decide; simp (disch := omega) [if_pos]; rfl))
      refine ⟨⟨q + 1, by omega⟩, ?_, by show n - (q + 1) < n - q; omega⟩
      (refine le_to [] (by decide) (by simp) (by simp) ?_ ?_; (repeat' (first | exact wkfr_nil | refine wkfr_cons ?_ ?_)); (all_goals (try (first | exact wk_junk | exact wk_imm (imm_lit _) | exact wk_imm (imm_sl _ _) | exact wk_imm (imm_ptr _ _) | exact wk_rsl rfl | exact wk_rslE rfl (by simp) | exact wk_ref rfl | exact wkst_nil | exact wk_int (by omega) | refine wkst_eq rfl rfl ?_ ?_ wkst_nil))))
    · repeat' (first | apply tr_seq | apply tr_region | apply run_nil | apply thn_n | apply thn_e | apply thn_r | apply blk_e | apply blk_n | apply blk_r | (refine blk_ne ?_ ?_; decide) | apply tr_block | apply tr_skip | apply tr_label | apply tr_exit | apply tr_ret | (refine tr_region_draw (bars := []) mixed (by kernel_rfl) ?_) | apply rund_nil | (apply run_v; simp (disch := omega) [if_pos]; (first | rfl | exact ⟨rfl, rfl⟩ | exact ⟨rfl, rfl, rfl, rfl⟩); decide) | (apply rund_v; simp (disch := omega) [if_pos]; (first | rfl | exact ⟨rfl, rfl⟩ | exact ⟨rfl, rfl, rfl, rfl⟩); decide) | (apply run_conv; simp (disch := omega) [if_pos]; (first | rfl | exact ⟨rfl, rfl⟩ | exact ⟨rfl, rfl, rfl, rfl⟩); decide) | (apply rund_conv; simp (disch := omega) [if_pos]; (first | rfl | exact ⟨rfl, rfl⟩ | exact ⟨rfl, rfl, rfl, rfl⟩); decide) | (apply run_min; simp (disch := omega) [if_pos]; (first | rfl | exact ⟨rfl, rfl⟩ | exact ⟨rfl, rfl, rfl, rfl⟩); decide) | (apply rund_min; simp (disch := omega) [if_pos]; (first | rfl | exact ⟨rfl, rfl⟩ | exact ⟨rfl, rfl, rfl, rfl⟩); decide) | (apply run_max; simp (disch := omega) [if_pos]; (first | rfl | exact ⟨rfl, rfl⟩ | exact ⟨rfl, rfl, rfl, rfl⟩); decide) | (apply rund_max; simp (disch := omega) [if_pos]; (first | rfl | exact ⟨rfl, rfl⟩ | exact ⟨rfl, rfl, rfl, rfl⟩); decide) | (apply run_lenS; simp (disch := omega) [if_pos]; (first | rfl | exact ⟨rfl, rfl⟩ | exact ⟨rfl, rfl, rfl, rfl⟩); decide) | (apply rund_lenS; simp (disch := omega) [if_pos]; (first | rfl | exact ⟨rfl, rfl⟩ | exact ⟨rfl, rfl, rfl, rfl⟩); decide) | (apply run_bs; simp (disch := omega) [if_pos]; (first | rfl | exact ⟨rfl, rfl⟩ | exact ⟨rfl, rfl, rfl, rfl⟩); decide) | (apply run_app; simp (disch := omega) [if_pos]; (first | rfl | exact ⟨rfl, rfl⟩ | exact ⟨rfl, rfl, rfl, rfl⟩); decide) | (apply run_build; simp (disch := omega) [if_pos]; (first | rfl | exact ⟨rfl, rfl⟩ | exact ⟨rfl, rfl, rfl, rfl⟩); decide) | (apply run_box; simp (disch := omega) [if_pos]; (first | rfl | exact ⟨rfl, rfl⟩ | exact ⟨rfl, rfl, rfl, rfl⟩); decide) | (apply run_alloc; simp (disch := omega) [if_pos]; (first | rfl | exact ⟨rfl, rfl⟩ | exact ⟨rfl, rfl, rfl, rfl⟩); decide) | (apply rund_build; simp (disch := omega) [if_pos]; (first | rfl | exact ⟨rfl, rfl⟩ | exact ⟨rfl, rfl, rfl, rfl⟩); decide) | (apply run_sto; simp (disch := omega) [if_pos]; rfl) | (apply rund_bs; decide; simp (disch := omega) [if_pos]; (first | rfl | exact ⟨rfl, rfl⟩ | exact ⟨rfl, rfl, rfl, rfl⟩); decide) | (apply rund_app; decide; simp (disch := omega) [if_pos]; (first | rfl | exact ⟨rfl, rfl⟩ | exact ⟨rfl, rfl, rfl, rfl⟩); decide) | (apply rund_sto; decide; simp (disch := omega) [if_pos]; rfl))
      exact ended_r rfl (frz_bool rfl)
theorem row_take (a : Nat) {j k : Nat} (h : j ≤ k) : (rowF a k).take j = rowF a j := by
  unfold rowF
  rw [← List.map_take, List.take_range, Nat.min_eq_left h]
theorem row_u (a k : Nat) : ∀ g ∈ rowF a k, ∃ x : Nat, g = gU x := fun g hg => by
  obtain ⟨i, _, rfl⟩ := List.mem_map.1 hg
  exact ⟨_, rfl⟩
theorem row_len (a k : Nat) : (rowF a k).length = k := by simp [rowF]
set_option maxHeartbeats 4000000 in
theorem law_fn (gl : List (Nat × List G)) (hl : Fn' Tryz.prog gl 12 [] (.lit (.bool true))) (u : Nat) (hu : u < 18446744073709551616) (y q : Int) (y1 : -9223372036854775808 ≤ y) (y2 : y ≤ 9223372036854775807) (q1 : -9223372036854775808 ≤ q) (q2 : q ≤ 9223372036854775807) : Fn' Tryz.prog gl 3 [gU u, .lit (.int .i64 y), .lit (.int .i64 q)] (.lit (.bool true)) := by
  have hx : 1 + u % 2305843009213693949 < 18446744073709551616 := by omega
  have e0 := sec06_fn u hu
  have e1 := around_fn y 9 y1 y2 (by decide)
  obtain ⟨b0, b1⟩ := arI_bd (n := y) (m := 9) (by decide)
  obtain ⟨k, hk⟩ : ∃ k : Nat, arI y 9 = (k : Int) := ⟨(arI y 9).toNat, by omega⟩
  rw [hk] at e1 b0 b1
  have e2 := around_fn q ((k : Int) + 1) q1 q2 (by omega)
  obtain ⟨c0, c1⟩ := arI_bd (n := q) (m := (k : Int) + 1) (by omega)
  obtain ⟨j, hj⟩ : ∃ j : Nat, arI q ((k : Int) + 1) = (j : Int) := ⟨(arI q ((k : Int) + 1)).toNat, by omega⟩
  rw [hj] at e2 c0 c1
  have hjk : j ≤ k := by omega
  generalize hX : 1 + u % 2305843009213693949 = X at *
  have e3 := secF_fn X k (by omega)
  have e4 := secF_fn X j (by omega)
  have e5 := secR_fn X k (by omega)
  rw [← row_eq hx] at e5
  have e6 := same_fn (rowF X k) k (row_len X k) (by omega) (row_u X k)
  have e7 := same_fn (rowF X j) j (row_len X j) (by omega) (row_u X j)
  have e8 := privF_fn X
  have e9 := privR_fn X
  rw [← node_eq hx] at e9
  have ht := row_take X hjk
  generalize rowF X k = A at *
  generalize rowF X j = B at *
  generalize fNode X = S at *
  refine fn_enter Tryz.func3 rfl (by simp [Tryz.ntmps3]) ?_
  simp only [St.enter, enterFr, Tryz.ntmps3]
  repeat' (first | apply tr_seq | apply tr_region | apply run_nil | apply thn_n | apply thn_e | apply thn_r | apply blk_e | apply blk_n | apply blk_r | (refine blk_ne ?_ ?_; decide) | apply tr_block | apply tr_skip | apply tr_label | apply tr_exit | apply tr_ret | (refine tr_region_draw (bars := []) mixed (by kernel_rfl) ?_) | apply rund_nil | (apply run_v; simp (disch := omega) [if_pos]; (first | rfl | exact ⟨rfl, rfl⟩ | exact ⟨rfl, rfl, rfl, rfl⟩); decide) | (apply rund_v; simp (disch := omega) [if_pos]; (first | rfl | exact ⟨rfl, rfl⟩ | exact ⟨rfl, rfl, rfl, rfl⟩); decide) | (apply run_conv; simp (disch := omega) [if_pos]; (first | rfl | exact ⟨rfl, rfl⟩ | exact ⟨rfl, rfl, rfl, rfl⟩); decide) | (apply rund_conv; simp (disch := omega) [if_pos]; (first | rfl | exact ⟨rfl, rfl⟩ | exact ⟨rfl, rfl, rfl, rfl⟩); decide) | (apply run_min; simp (disch := omega) [if_pos]; (first | rfl | exact ⟨rfl, rfl⟩ | exact ⟨rfl, rfl, rfl, rfl⟩); decide) | (apply rund_min; simp (disch := omega) [if_pos]; (first | rfl | exact ⟨rfl, rfl⟩ | exact ⟨rfl, rfl, rfl, rfl⟩); decide) | (apply run_max; simp (disch := omega) [if_pos]; (first | rfl | exact ⟨rfl, rfl⟩ | exact ⟨rfl, rfl, rfl, rfl⟩); decide) | (apply rund_max; simp (disch := omega) [if_pos]; (first | rfl | exact ⟨rfl, rfl⟩ | exact ⟨rfl, rfl, rfl, rfl⟩); decide) | (apply run_lenS; simp (disch := omega) [if_pos]; (first | rfl | exact ⟨rfl, rfl⟩ | exact ⟨rfl, rfl, rfl, rfl⟩); decide) | (apply rund_lenS; simp (disch := omega) [if_pos]; (first | rfl | exact ⟨rfl, rfl⟩ | exact ⟨rfl, rfl, rfl, rfl⟩); decide) | (apply run_bs; simp (disch := omega) [if_pos]; (first | rfl | exact ⟨rfl, rfl⟩ | exact ⟨rfl, rfl, rfl, rfl⟩); decide) | (apply run_app; simp (disch := omega) [if_pos]; (first | rfl | exact ⟨rfl, rfl⟩ | exact ⟨rfl, rfl, rfl, rfl⟩); decide) | (apply run_build; simp (disch := omega) [if_pos]; (first | rfl | exact ⟨rfl, rfl⟩ | exact ⟨rfl, rfl, rfl, rfl⟩); decide) | (apply run_box; simp (disch := omega) [if_pos]; (first | rfl | exact ⟨rfl, rfl⟩ | exact ⟨rfl, rfl, rfl, rfl⟩); decide) | (apply run_alloc; simp (disch := omega) [if_pos]; (first | rfl | exact ⟨rfl, rfl⟩ | exact ⟨rfl, rfl, rfl, rfl⟩); decide) | (apply rund_build; simp (disch := omega) [if_pos]; (first | rfl | exact ⟨rfl, rfl⟩ | exact ⟨rfl, rfl, rfl, rfl⟩); decide) | (apply run_sto; simp (disch := omega) [if_pos]; rfl) | (apply rund_bs; decide; simp (disch := omega) [if_pos]; (first | rfl | exact ⟨rfl, rfl⟩ | exact ⟨rfl, rfl, rfl, rfl⟩); decide) | (apply rund_app; decide; simp (disch := omega) [if_pos]; (first | rfl | exact ⟨rfl, rfl⟩ | exact ⟨rfl, rfl, rfl, rfl⟩); decide) | (apply rund_sto; decide; simp (disch := omega) [if_pos]; rfl))
  refine run_pc (vs := [gU u]) rfl (by kernel_rfl) (imm_gU u) (fn_gl' e0) (by decide) ?_
  repeat' (first | apply tr_seq | apply tr_region | apply run_nil | apply thn_n | apply thn_e | apply thn_r | apply blk_e | apply blk_n | apply blk_r | (refine blk_ne ?_ ?_; decide) | apply tr_block | apply tr_skip | apply tr_label | apply tr_exit | apply tr_ret | (refine tr_region_draw (bars := []) mixed (by kernel_rfl) ?_) | apply rund_nil | (apply run_v; simp (disch := omega) [if_pos]; (first | rfl | exact ⟨rfl, rfl⟩ | exact ⟨rfl, rfl, rfl, rfl⟩); decide) | (apply rund_v; simp (disch := omega) [if_pos]; (first | rfl | exact ⟨rfl, rfl⟩ | exact ⟨rfl, rfl, rfl, rfl⟩); decide) | (apply run_conv; simp (disch := omega) [if_pos]; (first | rfl | exact ⟨rfl, rfl⟩ | exact ⟨rfl, rfl, rfl, rfl⟩); decide) | (apply rund_conv; simp (disch := omega) [if_pos]; (first | rfl | exact ⟨rfl, rfl⟩ | exact ⟨rfl, rfl, rfl, rfl⟩); decide) | (apply run_min; simp (disch := omega) [if_pos]; (first | rfl | exact ⟨rfl, rfl⟩ | exact ⟨rfl, rfl, rfl, rfl⟩); decide) | (apply rund_min; simp (disch := omega) [if_pos]; (first | rfl | exact ⟨rfl, rfl⟩ | exact ⟨rfl, rfl, rfl, rfl⟩); decide) | (apply run_max; simp (disch := omega) [if_pos]; (first | rfl | exact ⟨rfl, rfl⟩ | exact ⟨rfl, rfl, rfl, rfl⟩); decide) | (apply rund_max; simp (disch := omega) [if_pos]; (first | rfl | exact ⟨rfl, rfl⟩ | exact ⟨rfl, rfl, rfl, rfl⟩); decide) | (apply run_lenS; simp (disch := omega) [if_pos]; (first | rfl | exact ⟨rfl, rfl⟩ | exact ⟨rfl, rfl, rfl, rfl⟩); decide) | (apply rund_lenS; simp (disch := omega) [if_pos]; (first | rfl | exact ⟨rfl, rfl⟩ | exact ⟨rfl, rfl, rfl, rfl⟩); decide) | (apply run_bs; simp (disch := omega) [if_pos]; (first | rfl | exact ⟨rfl, rfl⟩ | exact ⟨rfl, rfl, rfl, rfl⟩); decide) | (apply run_app; simp (disch := omega) [if_pos]; (first | rfl | exact ⟨rfl, rfl⟩ | exact ⟨rfl, rfl, rfl, rfl⟩); decide) | (apply run_build; simp (disch := omega) [if_pos]; (first | rfl | exact ⟨rfl, rfl⟩ | exact ⟨rfl, rfl, rfl, rfl⟩); decide) | (apply run_box; simp (disch := omega) [if_pos]; (first | rfl | exact ⟨rfl, rfl⟩ | exact ⟨rfl, rfl, rfl, rfl⟩); decide) | (apply run_alloc; simp (disch := omega) [if_pos]; (first | rfl | exact ⟨rfl, rfl⟩ | exact ⟨rfl, rfl, rfl, rfl⟩); decide) | (apply rund_build; simp (disch := omega) [if_pos]; (first | rfl | exact ⟨rfl, rfl⟩ | exact ⟨rfl, rfl, rfl, rfl⟩); decide) | (apply run_sto; simp (disch := omega) [if_pos]; rfl) | (apply rund_bs; decide; simp (disch := omega) [if_pos]; (first | rfl | exact ⟨rfl, rfl⟩ | exact ⟨rfl, rfl, rfl, rfl⟩); decide) | (apply rund_app; decide; simp (disch := omega) [if_pos]; (first | rfl | exact ⟨rfl, rfl⟩ | exact ⟨rfl, rfl, rfl, rfl⟩); decide) | (apply rund_sto; decide; simp (disch := omega) [if_pos]; rfl))
  refine run_pc (vs := [.lit (.int .i64 y), .lit (.int .i64 9)]) rfl (by kernel_rfl) (imm_lits (imm_lit _) (imm_lit _)) (fn_gl' e1) (by decide) ?_
  repeat' (first | apply tr_seq | apply tr_region | apply run_nil | apply thn_n | apply thn_e | apply thn_r | apply blk_e | apply blk_n | apply blk_r | (refine blk_ne ?_ ?_; decide) | apply tr_block | apply tr_skip | apply tr_label | apply tr_exit | apply tr_ret | (refine tr_region_draw (bars := []) mixed (by kernel_rfl) ?_) | apply rund_nil | (apply run_v; simp (disch := omega) [if_pos]; (first | rfl | exact ⟨rfl, rfl⟩ | exact ⟨rfl, rfl, rfl, rfl⟩); decide) | (apply rund_v; simp (disch := omega) [if_pos]; (first | rfl | exact ⟨rfl, rfl⟩ | exact ⟨rfl, rfl, rfl, rfl⟩); decide) | (apply run_conv; simp (disch := omega) [if_pos]; (first | rfl | exact ⟨rfl, rfl⟩ | exact ⟨rfl, rfl, rfl, rfl⟩); decide) | (apply rund_conv; simp (disch := omega) [if_pos]; (first | rfl | exact ⟨rfl, rfl⟩ | exact ⟨rfl, rfl, rfl, rfl⟩); decide) | (apply run_min; simp (disch := omega) [if_pos]; (first | rfl | exact ⟨rfl, rfl⟩ | exact ⟨rfl, rfl, rfl, rfl⟩); decide) | (apply rund_min; simp (disch := omega) [if_pos]; (first | rfl | exact ⟨rfl, rfl⟩ | exact ⟨rfl, rfl, rfl, rfl⟩); decide) | (apply run_max; simp (disch := omega) [if_pos]; (first | rfl | exact ⟨rfl, rfl⟩ | exact ⟨rfl, rfl, rfl, rfl⟩); decide) | (apply rund_max; simp (disch := omega) [if_pos]; (first | rfl | exact ⟨rfl, rfl⟩ | exact ⟨rfl, rfl, rfl, rfl⟩); decide) | (apply run_lenS; simp (disch := omega) [if_pos]; (first | rfl | exact ⟨rfl, rfl⟩ | exact ⟨rfl, rfl, rfl, rfl⟩); decide) | (apply rund_lenS; simp (disch := omega) [if_pos]; (first | rfl | exact ⟨rfl, rfl⟩ | exact ⟨rfl, rfl, rfl, rfl⟩); decide) | (apply run_bs; simp (disch := omega) [if_pos]; (first | rfl | exact ⟨rfl, rfl⟩ | exact ⟨rfl, rfl, rfl, rfl⟩); decide) | (apply run_app; simp (disch := omega) [if_pos]; (first | rfl | exact ⟨rfl, rfl⟩ | exact ⟨rfl, rfl, rfl, rfl⟩); decide) | (apply run_build; simp (disch := omega) [if_pos]; (first | rfl | exact ⟨rfl, rfl⟩ | exact ⟨rfl, rfl, rfl, rfl⟩); decide) | (apply run_box; simp (disch := omega) [if_pos]; (first | rfl | exact ⟨rfl, rfl⟩ | exact ⟨rfl, rfl, rfl, rfl⟩); decide) | (apply run_alloc; simp (disch := omega) [if_pos]; (first | rfl | exact ⟨rfl, rfl⟩ | exact ⟨rfl, rfl, rfl, rfl⟩); decide) | (apply rund_build; simp (disch := omega) [if_pos]; (first | rfl | exact ⟨rfl, rfl⟩ | exact ⟨rfl, rfl, rfl, rfl⟩); decide) | (apply run_sto; simp (disch := omega) [if_pos]; rfl) | (apply rund_bs; decide; simp (disch := omega) [if_pos]; (first | rfl | exact ⟨rfl, rfl⟩ | exact ⟨rfl, rfl, rfl, rfl⟩); decide) | (apply rund_app; decide; simp (disch := omega) [if_pos]; (first | rfl | exact ⟨rfl, rfl⟩ | exact ⟨rfl, rfl, rfl, rfl⟩); decide) | (apply rund_sto; decide; simp (disch := omega) [if_pos]; rfl))
  refine run_pc (vs := [gU X, .lit (.int .i64 (k : Int))]) rfl (by kernel_rfl) (imm_lits (imm_lit _) (imm_lit _)) (fn_gl' e3) (by decide) ?_
  repeat' (first | apply tr_seq | apply tr_region | apply run_nil | apply thn_n | apply thn_e | apply thn_r | apply blk_e | apply blk_n | apply blk_r | (refine blk_ne ?_ ?_; decide) | apply tr_block | apply tr_skip | apply tr_label | apply tr_exit | apply tr_ret | (refine tr_region_draw (bars := []) mixed (by kernel_rfl) ?_) | apply rund_nil | (apply run_v; simp (disch := omega) [if_pos]; (first | rfl | exact ⟨rfl, rfl⟩ | exact ⟨rfl, rfl, rfl, rfl⟩); decide) | (apply rund_v; simp (disch := omega) [if_pos]; (first | rfl | exact ⟨rfl, rfl⟩ | exact ⟨rfl, rfl, rfl, rfl⟩); decide) | (apply run_conv; simp (disch := omega) [if_pos]; (first | rfl | exact ⟨rfl, rfl⟩ | exact ⟨rfl, rfl, rfl, rfl⟩); decide) | (apply rund_conv; simp (disch := omega) [if_pos]; (first | rfl | exact ⟨rfl, rfl⟩ | exact ⟨rfl, rfl, rfl, rfl⟩); decide) | (apply run_min; simp (disch := omega) [if_pos]; (first | rfl | exact ⟨rfl, rfl⟩ | exact ⟨rfl, rfl, rfl, rfl⟩); decide) | (apply rund_min; simp (disch := omega) [if_pos]; (first | rfl | exact ⟨rfl, rfl⟩ | exact ⟨rfl, rfl, rfl, rfl⟩); decide) | (apply run_max; simp (disch := omega) [if_pos]; (first | rfl | exact ⟨rfl, rfl⟩ | exact ⟨rfl, rfl, rfl, rfl⟩); decide) | (apply rund_max; simp (disch := omega) [if_pos]; (first | rfl | exact ⟨rfl, rfl⟩ | exact ⟨rfl, rfl, rfl, rfl⟩); decide) | (apply run_lenS; simp (disch := omega) [if_pos]; (first | rfl | exact ⟨rfl, rfl⟩ | exact ⟨rfl, rfl, rfl, rfl⟩); decide) | (apply rund_lenS; simp (disch := omega) [if_pos]; (first | rfl | exact ⟨rfl, rfl⟩ | exact ⟨rfl, rfl, rfl, rfl⟩); decide) | (apply run_bs; simp (disch := omega) [if_pos]; (first | rfl | exact ⟨rfl, rfl⟩ | exact ⟨rfl, rfl, rfl, rfl⟩); decide) | (apply run_app; simp (disch := omega) [if_pos]; (first | rfl | exact ⟨rfl, rfl⟩ | exact ⟨rfl, rfl, rfl, rfl⟩); decide) | (apply run_build; simp (disch := omega) [if_pos]; (first | rfl | exact ⟨rfl, rfl⟩ | exact ⟨rfl, rfl, rfl, rfl⟩); decide) | (apply run_box; simp (disch := omega) [if_pos]; (first | rfl | exact ⟨rfl, rfl⟩ | exact ⟨rfl, rfl, rfl, rfl⟩); decide) | (apply run_alloc; simp (disch := omega) [if_pos]; (first | rfl | exact ⟨rfl, rfl⟩ | exact ⟨rfl, rfl, rfl, rfl⟩); decide) | (apply rund_build; simp (disch := omega) [if_pos]; (first | rfl | exact ⟨rfl, rfl⟩ | exact ⟨rfl, rfl, rfl, rfl⟩); decide) | (apply run_sto; simp (disch := omega) [if_pos]; rfl) | (apply rund_bs; decide; simp (disch := omega) [if_pos]; (first | rfl | exact ⟨rfl, rfl⟩ | exact ⟨rfl, rfl, rfl, rfl⟩); decide) | (apply rund_app; decide; simp (disch := omega) [if_pos]; (first | rfl | exact ⟨rfl, rfl⟩ | exact ⟨rfl, rfl, rfl, rfl⟩); decide) | (apply rund_sto; decide; simp (disch := omega) [if_pos]; rfl))
  refine run_pc (vs := [.lit (.int .i64 q), .lit (.int .i64 ((k : Int) + 1))]) rfl (by kernel_rfl) (imm_lits (imm_lit _) (imm_lit _)) (fn_gl' e2) (by decide) ?_
  refine run_pc (vs := [gU X, .lit (.int .i64 (j : Int))]) rfl (by kernel_rfl) (imm_lits (imm_lit _) (imm_lit _)) (fn_gl' e4) (by decide) ?_
  repeat' (first | apply tr_seq | apply tr_region | apply run_nil | apply thn_n | apply thn_e | apply thn_r | apply blk_e | apply blk_n | apply blk_r | (refine blk_ne ?_ ?_; decide) | apply tr_block | apply tr_skip | apply tr_label | apply tr_exit | apply tr_ret | (refine tr_region_draw (bars := []) mixed (by kernel_rfl) ?_) | apply rund_nil | (apply run_v; simp (disch := omega) [if_pos]; (first | rfl | exact ⟨rfl, rfl⟩ | exact ⟨rfl, rfl, rfl, rfl⟩); decide) | (apply rund_v; simp (disch := omega) [if_pos]; (first | rfl | exact ⟨rfl, rfl⟩ | exact ⟨rfl, rfl, rfl, rfl⟩); decide) | (apply run_conv; simp (disch := omega) [if_pos]; (first | rfl | exact ⟨rfl, rfl⟩ | exact ⟨rfl, rfl, rfl, rfl⟩); decide) | (apply rund_conv; simp (disch := omega) [if_pos]; (first | rfl | exact ⟨rfl, rfl⟩ | exact ⟨rfl, rfl, rfl, rfl⟩); decide) | (apply run_min; simp (disch := omega) [if_pos]; (first | rfl | exact ⟨rfl, rfl⟩ | exact ⟨rfl, rfl, rfl, rfl⟩); decide) | (apply rund_min; simp (disch := omega) [if_pos]; (first | rfl | exact ⟨rfl, rfl⟩ | exact ⟨rfl, rfl, rfl, rfl⟩); decide) | (apply run_max; simp (disch := omega) [if_pos]; (first | rfl | exact ⟨rfl, rfl⟩ | exact ⟨rfl, rfl, rfl, rfl⟩); decide) | (apply rund_max; simp (disch := omega) [if_pos]; (first | rfl | exact ⟨rfl, rfl⟩ | exact ⟨rfl, rfl, rfl, rfl⟩); decide) | (apply run_lenS; simp (disch := omega) [if_pos]; (first | rfl | exact ⟨rfl, rfl⟩ | exact ⟨rfl, rfl, rfl, rfl⟩); decide) | (apply rund_lenS; simp (disch := omega) [if_pos]; (first | rfl | exact ⟨rfl, rfl⟩ | exact ⟨rfl, rfl, rfl, rfl⟩); decide) | (apply run_bs; simp (disch := omega) [if_pos]; (first | rfl | exact ⟨rfl, rfl⟩ | exact ⟨rfl, rfl, rfl, rfl⟩); decide) | (apply run_app; simp (disch := omega) [if_pos]; (first | rfl | exact ⟨rfl, rfl⟩ | exact ⟨rfl, rfl, rfl, rfl⟩); decide) | (apply run_build; simp (disch := omega) [if_pos]; (first | rfl | exact ⟨rfl, rfl⟩ | exact ⟨rfl, rfl, rfl, rfl⟩); decide) | (apply run_box; simp (disch := omega) [if_pos]; (first | rfl | exact ⟨rfl, rfl⟩ | exact ⟨rfl, rfl, rfl, rfl⟩); decide) | (apply run_alloc; simp (disch := omega) [if_pos]; (first | rfl | exact ⟨rfl, rfl⟩ | exact ⟨rfl, rfl, rfl, rfl⟩); decide) | (apply rund_build; simp (disch := omega) [if_pos]; (first | rfl | exact ⟨rfl, rfl⟩ | exact ⟨rfl, rfl, rfl, rfl⟩); decide) | (apply run_sto; simp (disch := omega) [if_pos]; rfl) | (apply rund_bs; decide; simp (disch := omega) [if_pos]; (first | rfl | exact ⟨rfl, rfl⟩ | exact ⟨rfl, rfl, rfl, rfl⟩); decide) | (apply rund_app; decide; simp (disch := omega) [if_pos]; (first | rfl | exact ⟨rfl, rfl⟩ | exact ⟨rfl, rfl, rfl, rfl⟩); decide) | (apply rund_sto; decide; simp (disch := omega) [if_pos]; rfl))
  refine run_pc (vs := [gU X, .lit (.int .i64 (k : Int))]) rfl (by kernel_rfl) (imm_lits (imm_lit _) (imm_lit _)) (fn_gl' e5) (by decide) ?_
  refine run_pc (vs := [.sl A k, .sl A k]) rfl (by kernel_rfl) (imm_lits (imm_sl _ _) (imm_sl _ _)) (fn_gl' e6) (by decide) ?_
  repeat' (first | apply tr_seq | apply tr_region | apply run_nil | apply thn_n | apply thn_e | apply thn_r | apply blk_e | apply blk_n | apply blk_r | (refine blk_ne ?_ ?_; decide) | apply tr_block | apply tr_skip | apply tr_label | apply tr_exit | apply tr_ret | (refine tr_region_draw (bars := []) mixed (by kernel_rfl) ?_) | apply rund_nil | (apply run_v; simp (disch := omega) [if_pos]; (first | rfl | exact ⟨rfl, rfl⟩ | exact ⟨rfl, rfl, rfl, rfl⟩); decide) | (apply rund_v; simp (disch := omega) [if_pos]; (first | rfl | exact ⟨rfl, rfl⟩ | exact ⟨rfl, rfl, rfl, rfl⟩); decide) | (apply run_conv; simp (disch := omega) [if_pos]; (first | rfl | exact ⟨rfl, rfl⟩ | exact ⟨rfl, rfl, rfl, rfl⟩); decide) | (apply rund_conv; simp (disch := omega) [if_pos]; (first | rfl | exact ⟨rfl, rfl⟩ | exact ⟨rfl, rfl, rfl, rfl⟩); decide) | (apply run_min; simp (disch := omega) [if_pos]; (first | rfl | exact ⟨rfl, rfl⟩ | exact ⟨rfl, rfl, rfl, rfl⟩); decide) | (apply rund_min; simp (disch := omega) [if_pos]; (first | rfl | exact ⟨rfl, rfl⟩ | exact ⟨rfl, rfl, rfl, rfl⟩); decide) | (apply run_max; simp (disch := omega) [if_pos]; (first | rfl | exact ⟨rfl, rfl⟩ | exact ⟨rfl, rfl, rfl, rfl⟩); decide) | (apply rund_max; simp (disch := omega) [if_pos]; (first | rfl | exact ⟨rfl, rfl⟩ | exact ⟨rfl, rfl, rfl, rfl⟩); decide) | (apply run_lenS; simp (disch := omega) [if_pos]; (first | rfl | exact ⟨rfl, rfl⟩ | exact ⟨rfl, rfl, rfl, rfl⟩); decide) | (apply rund_lenS; simp (disch := omega) [if_pos]; (first | rfl | exact ⟨rfl, rfl⟩ | exact ⟨rfl, rfl, rfl, rfl⟩); decide) | (apply run_bs; simp (disch := omega) [if_pos]; (first | rfl | exact ⟨rfl, rfl⟩ | exact ⟨rfl, rfl, rfl, rfl⟩); decide) | (apply run_app; simp (disch := omega) [if_pos]; (first | rfl | exact ⟨rfl, rfl⟩ | exact ⟨rfl, rfl, rfl, rfl⟩); decide) | (apply run_build; simp (disch := omega) [if_pos]; (first | rfl | exact ⟨rfl, rfl⟩ | exact ⟨rfl, rfl, rfl, rfl⟩); decide) | (apply run_box; simp (disch := omega) [if_pos]; (first | rfl | exact ⟨rfl, rfl⟩ | exact ⟨rfl, rfl, rfl, rfl⟩); decide) | (apply run_alloc; simp (disch := omega) [if_pos]; (first | rfl | exact ⟨rfl, rfl⟩ | exact ⟨rfl, rfl, rfl, rfl⟩); decide) | (apply rund_build; simp (disch := omega) [if_pos]; (first | rfl | exact ⟨rfl, rfl⟩ | exact ⟨rfl, rfl, rfl, rfl⟩); decide) | (apply run_sto; simp (disch := omega) [if_pos]; rfl) | (apply rund_bs; decide; simp (disch := omega) [if_pos]; (first | rfl | exact ⟨rfl, rfl⟩ | exact ⟨rfl, rfl, rfl, rfl⟩); decide) | (apply rund_app; decide; simp (disch := omega) [if_pos]; (first | rfl | exact ⟨rfl, rfl⟩ | exact ⟨rfl, rfl, rfl, rfl⟩); decide) | (apply rund_sto; decide; simp (disch := omega) [if_pos]; rfl))
  refine gun_v (g := .sl B j) rfl rfl (by decide) ?_
  refine gun_v (g := .lit (.int .i64 (j : Int))) rfl (by kernel_rfl) (by decide) ?_
  refine gun_v (g := .sl A k) rfl rfl (by decide) ?_
  refine gun_v (g := .lit (.int .i64 (k : Int))) rfl (by kernel_rfl) (by decide) ?_
  refine gun_v (g := .lit (.bool (decide ((k : Int) < (j : Int))))) rfl (ev_bin.trans gb_gtr) (by decide) ?_
  repeat' (first | apply tr_seq | apply tr_region | apply run_nil | apply thn_n | apply thn_e | apply thn_r | apply blk_e | apply blk_n | apply blk_r | (refine blk_ne ?_ ?_; decide) | apply tr_block | apply tr_skip | apply tr_label | apply tr_exit | apply tr_ret | (refine tr_region_draw (bars := []) mixed (by kernel_rfl) ?_) | apply rund_nil | (apply run_v; simp (disch := omega) [if_pos]; (first | rfl | exact ⟨rfl, rfl⟩ | exact ⟨rfl, rfl, rfl, rfl⟩); decide) | (apply rund_v; simp (disch := omega) [if_pos]; (first | rfl | exact ⟨rfl, rfl⟩ | exact ⟨rfl, rfl, rfl, rfl⟩); decide) | (apply run_conv; simp (disch := omega) [if_pos]; (first | rfl | exact ⟨rfl, rfl⟩ | exact ⟨rfl, rfl, rfl, rfl⟩); decide) | (apply rund_conv; simp (disch := omega) [if_pos]; (first | rfl | exact ⟨rfl, rfl⟩ | exact ⟨rfl, rfl, rfl, rfl⟩); decide) | (apply run_min; simp (disch := omega) [if_pos]; (first | rfl | exact ⟨rfl, rfl⟩ | exact ⟨rfl, rfl, rfl, rfl⟩); decide) | (apply rund_min; simp (disch := omega) [if_pos]; (first | rfl | exact ⟨rfl, rfl⟩ | exact ⟨rfl, rfl, rfl, rfl⟩); decide) | (apply run_max; simp (disch := omega) [if_pos]; (first | rfl | exact ⟨rfl, rfl⟩ | exact ⟨rfl, rfl, rfl, rfl⟩); decide) | (apply rund_max; simp (disch := omega) [if_pos]; (first | rfl | exact ⟨rfl, rfl⟩ | exact ⟨rfl, rfl, rfl, rfl⟩); decide) | (apply run_lenS; simp (disch := omega) [if_pos]; (first | rfl | exact ⟨rfl, rfl⟩ | exact ⟨rfl, rfl, rfl, rfl⟩); decide) | (apply rund_lenS; simp (disch := omega) [if_pos]; (first | rfl | exact ⟨rfl, rfl⟩ | exact ⟨rfl, rfl, rfl, rfl⟩); decide) | (apply run_bs; simp (disch := omega) [if_pos]; (first | rfl | exact ⟨rfl, rfl⟩ | exact ⟨rfl, rfl, rfl, rfl⟩); decide) | (apply run_app; simp (disch := omega) [if_pos]; (first | rfl | exact ⟨rfl, rfl⟩ | exact ⟨rfl, rfl, rfl, rfl⟩); decide) | (apply run_build; simp (disch := omega) [if_pos]; (first | rfl | exact ⟨rfl, rfl⟩ | exact ⟨rfl, rfl, rfl, rfl⟩); decide) | (apply run_box; simp (disch := omega) [if_pos]; (first | rfl | exact ⟨rfl, rfl⟩ | exact ⟨rfl, rfl, rfl, rfl⟩); decide) | (apply run_alloc; simp (disch := omega) [if_pos]; (first | rfl | exact ⟨rfl, rfl⟩ | exact ⟨rfl, rfl, rfl, rfl⟩); decide) | (apply rund_build; simp (disch := omega) [if_pos]; (first | rfl | exact ⟨rfl, rfl⟩ | exact ⟨rfl, rfl, rfl, rfl⟩); decide) | (apply run_sto; simp (disch := omega) [if_pos]; rfl) | (apply rund_bs; decide; simp (disch := omega) [if_pos]; (first | rfl | exact ⟨rfl, rfl⟩ | exact ⟨rfl, rfl, rfl, rfl⟩); decide) | (apply rund_app; decide; simp (disch := omega) [if_pos]; (first | rfl | exact ⟨rfl, rfl⟩ | exact ⟨rfl, rfl, rfl, rfl⟩); decide) | (apply rund_sto; decide; simp (disch := omega) [if_pos]; rfl))
  refine tr_condF (by simp; omega) ?_
  apply tr_skip
  apply thn_n
  apply tr_seq
  apply tr_region
  refine run_v (g := .sl A k) rfl (by decide) ?_
  refine run_v (g := .sl B j) rfl (by decide) ?_
  refine run_v (g := .lit (.int .i64 (j : Int))) (by kernel_rfl) (by decide) ?_
  have hs : gslice Tryz.prog 25 (.sl A k) none (some (j : Int)) = some (.sl B j) := by
    have h1 : telem Tryz.prog 25 = some 22 := by kernel_rfl
    have h2 : tsize Tryz.prog 22 = some 1 := by kernel_rfl
    simp only [gslice, h1, h2, Option.bind]
    rw [if_pos (by omega)]
    simp [ht]
  refine run_v (g := .sl B j) (Eq.trans (b := gslice Tryz.prog 25 (.sl A k) none (some (j : Int))) (by kernel_rfl) hs) (by decide) ?_
  refine run_v (g := .sl B j) rfl (by decide) ?_
  refine run_pc (vs := [.sl B j, .sl B j]) rfl (by kernel_rfl) (imm_lits (imm_sl _ _) (imm_sl _ _)) (fn_gl' e7) (by decide) ?_
  refine run_v (g := .lit (.bool true)) rfl (by decide) ?_
  refine gun_v (g := gU X) (by kernel_rfl) (by kernel_rfl) (by decide) ?_
  refine gun_c (vs := [gU X]) (by kernel_rfl) (by kernel_rfl) (by kernel_rfl) (imm_gU X) (fn_gl' e8) (by decide) ?_
  refine gun_v (g := gU X) (by kernel_rfl) (by kernel_rfl) (by decide) ?_
  refine gun_c (vs := [gU X]) (by kernel_rfl) (by kernel_rfl) (by kernel_rfl) (imm_gU X) (fn_gl' e9) (by decide) ?_
  refine gun_v (g := .lit (.bool (decide ((S : Int) = (S : Int))))) rfl (ev_bin.trans gb_eql) (by decide) ?_
  refine run_v (g := .lit (.bool (decide ((S : Int) = (S : Int))))) rfl (by decide) ?_
  rw [show decide ((S : Int) = (S : Int)) = true by simp]
  refine run_v (g := .lit (.bool true)) rfl (by decide) ?_
  refine gun_c (vs := []) (by kernel_rfl) (by kernel_rfl) (by kernel_rfl) (fun _ h => by cases h) hl (by decide) ?_
  repeat' (first | apply tr_seq | apply tr_region | apply run_nil | apply thn_n | apply thn_e | apply thn_r | apply blk_e | apply blk_n | apply blk_r | (refine blk_ne ?_ ?_; decide) | apply tr_block | apply tr_skip | apply tr_label | apply tr_exit | apply tr_ret | (refine tr_region_draw (bars := []) mixed (by kernel_rfl) ?_) | apply rund_nil | (apply run_v; simp (disch := omega) [if_pos]; (first | rfl | exact ⟨rfl, rfl⟩ | exact ⟨rfl, rfl, rfl, rfl⟩); decide) | (apply rund_v; simp (disch := omega) [if_pos]; (first | rfl | exact ⟨rfl, rfl⟩ | exact ⟨rfl, rfl, rfl, rfl⟩); decide) | (apply run_conv; simp (disch := omega) [if_pos]; (first | rfl | exact ⟨rfl, rfl⟩ | exact ⟨rfl, rfl, rfl, rfl⟩); decide) | (apply rund_conv; simp (disch := omega) [if_pos]; (first | rfl | exact ⟨rfl, rfl⟩ | exact ⟨rfl, rfl, rfl, rfl⟩); decide) | (apply run_min; simp (disch := omega) [if_pos]; (first | rfl | exact ⟨rfl, rfl⟩ | exact ⟨rfl, rfl, rfl, rfl⟩); decide) | (apply rund_min; simp (disch := omega) [if_pos]; (first | rfl | exact ⟨rfl, rfl⟩ | exact ⟨rfl, rfl, rfl, rfl⟩); decide) | (apply run_max; simp (disch := omega) [if_pos]; (first | rfl | exact ⟨rfl, rfl⟩ | exact ⟨rfl, rfl, rfl, rfl⟩); decide) | (apply rund_max; simp (disch := omega) [if_pos]; (first | rfl | exact ⟨rfl, rfl⟩ | exact ⟨rfl, rfl, rfl, rfl⟩); decide) | (apply run_lenS; simp (disch := omega) [if_pos]; (first | rfl | exact ⟨rfl, rfl⟩ | exact ⟨rfl, rfl, rfl, rfl⟩); decide) | (apply rund_lenS; simp (disch := omega) [if_pos]; (first | rfl | exact ⟨rfl, rfl⟩ | exact ⟨rfl, rfl, rfl, rfl⟩); decide) | (apply run_bs; simp (disch := omega) [if_pos]; (first | rfl | exact ⟨rfl, rfl⟩ | exact ⟨rfl, rfl, rfl, rfl⟩); decide) | (apply run_app; simp (disch := omega) [if_pos]; (first | rfl | exact ⟨rfl, rfl⟩ | exact ⟨rfl, rfl, rfl, rfl⟩); decide) | (apply run_build; simp (disch := omega) [if_pos]; (first | rfl | exact ⟨rfl, rfl⟩ | exact ⟨rfl, rfl, rfl, rfl⟩); decide) | (apply run_box; simp (disch := omega) [if_pos]; (first | rfl | exact ⟨rfl, rfl⟩ | exact ⟨rfl, rfl, rfl, rfl⟩); decide) | (apply run_alloc; simp (disch := omega) [if_pos]; (first | rfl | exact ⟨rfl, rfl⟩ | exact ⟨rfl, rfl, rfl, rfl⟩); decide) | (apply rund_build; simp (disch := omega) [if_pos]; (first | rfl | exact ⟨rfl, rfl⟩ | exact ⟨rfl, rfl, rfl, rfl⟩); decide) | (apply run_sto; simp (disch := omega) [if_pos]; rfl) | (apply rund_bs; decide; simp (disch := omega) [if_pos]; (first | rfl | exact ⟨rfl, rfl⟩ | exact ⟨rfl, rfl, rfl, rfl⟩); decide) | (apply rund_app; decide; simp (disch := omega) [if_pos]; (first | rfl | exact ⟨rfl, rfl⟩ | exact ⟨rfl, rfl, rfl, rfl⟩); decide) | (apply rund_sto; decide; simp (disch := omega) [if_pos]; rfl))
  exact ended_r rfl (frz_bool rfl)
end
end Go.Proofs.YtfnglmepfjaimaaGreatDoor
