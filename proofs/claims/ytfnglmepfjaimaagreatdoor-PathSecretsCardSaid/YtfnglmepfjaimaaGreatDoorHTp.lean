/- What is known of the fields' products and sums, for the runner. -/
import Derived.Test.YtfnglmepfjaimaaGreatDoorH01
import Derived.Test.YtfnglmepfjaimaaGreatDoorH02
import Derived.Test.YtfnglmepfjaimaaGreatDoorEC
namespace Go.Proofs.YtfnglmepfjaimaaGreatDoor
open Go.RowKit
set_option linter.unusedVariables false
theorem fn_gl {P : Program} {gl : List (Nat × List G)} {f : FuncId} {gs : List G} {r : G} (h : Fn' P [] f gs r) : Fn' P gl f gs r := fun w S vs hS _ hsz hvs => h w S vs hS (fun _ _ h => by cases h) hsz hvs
def is64 (n : Nat) : Bool := Nat.blt n 18446744073709551616
theorem is64_lt {n : Nat} (h : is64 n = true) : n < 18446744073709551616 := Nat.le_of_ble_eq_true h
/-- Products, sums, residues. -/
def tpA : XPure := fun fid gs _ => match gs with
  | [.lit (.int .u64 (.ofNat a)), .lit (.int .u64 (.ofNat b))] => bif is64 a && is64 b then
      (bif Nat.beq fid 78 then some (gU (a * b % 2305843009213693951))
      else bif Nat.beq fid 156 then some (gU (a * b % 2305843009213693951))
      else bif Nat.beq fid 77 then some (gU ((a + b) % 2305843009213693951))
      else none) else none
  | [.lit (.int .u64 (.ofNat a))] => bif is64 a && Nat.beq fid 75 then some (gU (a % 2305843009213693951)) else none
  | _ => none
theorem tpA_ok : PureOk Tryz.prog tpA := by
  intro fid gs gl r h
  unfold tpA at h
  split at h
  · rename_i a b
    cases hc : (is64 a && is64 b) with
    | false => rw [hc] at h; cases h
    | true =>
      rw [hc] at h
      simp only [Bool.and_eq_true] at hc
      have ha := is64_lt hc.1
      have hb := is64_lt hc.2
      simp only [cond_true] at h
      cases h1 : Nat.beq fid 78 with
      | true =>
        rw [h1] at h; cases h
        obtain rfl := Nat.eq_of_beq_eq_true h1
        exact ⟨fn_gl (mul01_fn a b ha hb), flat_lit _, by kernel_rfl⟩
      | false =>
      rw [h1] at h
      simp only [cond_false] at h
      cases h2 : Nat.beq fid 156 with
      | true =>
        rw [h2] at h; cases h
        obtain rfl := Nat.eq_of_beq_eq_true h2
        exact ⟨fn_gl (fmul_fn a b ha hb), flat_lit _, by kernel_rfl⟩
      | false =>
      rw [h2] at h
      simp only [cond_false] at h
      cases h3 : Nat.beq fid 77 with
      | true =>
        rw [h3] at h; cases h
        obtain rfl := Nat.eq_of_beq_eq_true h3
        exact ⟨fn_gl (add01_fn a b ha hb), flat_lit _, by kernel_rfl⟩
      | false => rw [h3] at h; cases h
  · rename_i a
    cases hc : (is64 a && Nat.beq fid 75) with
    | false => rw [hc] at h; cases h
    | true =>
      rw [hc] at h
      simp only [Bool.and_eq_true] at hc
      cases h
      obtain rfl := Nat.eq_of_beq_eq_true hc.2
      exact ⟨fn_gl (num_fn a (is64_lt hc.1)), flat_lit _, by kernel_rfl⟩
  · cases h
end Go.Proofs.YtfnglmepfjaimaaGreatDoor
