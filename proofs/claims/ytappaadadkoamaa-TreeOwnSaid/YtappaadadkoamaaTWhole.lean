/- whole and fix of the laws of the tree, by their contracts. -/
import Derived.Test.YtappaadadkoamaaTLives
import Derived.Test.YtappaadadkoamaaTPlain5
import Derived.IntWalk
namespace Go.Proofs.Ytappaadadkoamaa
open Go.RowKit
set_option linter.unusedVariables false

def WhRel (n : Nat) (m : Value) : Prop := ∃ M : Nat, 1 ≤ M ∧ M ≤ 14 ∧ pw M = pw n ∧ m = .int .i64 M
theorem pw_half {M : Nat} (h1 : 2 ≤ M) (h14 : M ≤ 14) (h : M % 2 = 0) : pw (M / 2) = pw M := by
  rcases (show M = 2 ∨ M = 4 ∨ M = 6 ∨ M = 8 ∨ M = 10 ∨ M = 12 ∨ M = 14 by omega) with rfl | rfl | rfl | rfl | rfl | rfl | rfl <;> decide
theorem pw_odd {M : Nat} (h1 : 2 ≤ M) (h : M % 2 = 1) : pw M = false := by
  unfold pw; exact decide_eq_false (by omega)

set_option maxHeartbeats 1000000 in
theorem whole_any (w : World) (n : Nat) (h1 : 1 ≤ n) (h14 : n ≤ 14) :
    Calls Try.prog 25 #[.int .i64 n] w fun e w' => e = .returned (.bool (pw n)) ∧ w = w' := by
  go_enter Try.func25, Try.ntmps25
  go_wp2
  go_loop [0] (WhRel n) (fun k => (16 - intOf k).toNat + (intOf k).toNat * 2)
  case atStart => exact ⟨n, h1, h14, rfl, rfl⟩
  case round =>
    obtain ⟨M, hM1, hM2, hp, rfl⟩ := hrel
    have HP := Lib.hid hp
    clear hp
    have ht : (M : Int).tmod 2 = ((M % 2 : Nat) : Int) := by rw [Int.tmod_eq_emod_of_nonneg (by omega)]; omega
    have hd : (M : Int).tdiv 2 = ((M / 2 : Nat) : Int) := by rw [Int.tdiv_eq_ediv_of_nonneg (by omega)]; omega
    by_cases hlt : 1 < M
    · by_cases he : M % 2 = 0
      · rw [he] at ht
        go_wp2
        go_round
        case rel => exact ⟨M / 2, by omega, by omega, by rw [pw_half hlt hM2 he]; exact HP.out, by first | rfl | (congr 1)⟩
        case measure => simp [intOf]; omega
      · have he1 : M % 2 = 1 := by omega
        rw [he1] at ht
        have HN : Hid (pw n = false) := Lib.hid (by rw [← HP.out]; exact pw_odd hlt he1)
        go_wp2
        go_ret
        exact ⟨by rw [HN.out]; exact ret_bool (by simp; omega), rfl⟩
    · obtain rfl : M = 1 := by omega
      go_wp2
      go_ret
      exact ⟨by rw [← HP.out]; rfl, rfl⟩

theorem fix_any (w : World) (n : Nat) : Calls Try.prog 26 #[.int .i64 n] w fun e w' => e = .returned (.int .i64 (if n = 0 then 1 else 0)) ∧ w = w' := by
  go_enter Try.func26, Try.ntmps26
  by_cases h : n = 0
  · subst h
    go_wp2
    go_ret
    exact ⟨rfl, rfl⟩
  · have e0 : ((n : Int) == 0) = false := by simpa using h
    rw [if_neg h]
    go_wp2
    go_ret
    exact ⟨rfl, rfl⟩
end Go.Proofs.Ytappaadadkoamaa
