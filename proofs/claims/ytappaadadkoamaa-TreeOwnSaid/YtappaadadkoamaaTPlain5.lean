/- Plain facts: with a leaf more at the end the whole sets are there yet. -/
import Derived.Test.YtappaadadkoamaaTPlain3
namespace Go.Proofs.Ytappaadadkoamaa
set_option linter.unusedVariables false

def pw (n : Nat) : Bool := decide (n = 1 ∨ n = 2 ∨ n = 4 ∨ n = 8)
theorem setsF_fuel : ∀ (f g : Nat) (zs x : List Int), zs.length ≤ g → x ∈ setsF f zs → x ∈ setsF g zs
  | 0, g, zs, x, hg, h => by simp [setsF] at h
  | f + 1, g, zs, x, hg, h => by
    have hl := setsF_mem3 (f + 1) zs x h
    obtain ⟨g, rfl⟩ : ∃ g', g = g' + 1 := ⟨g - 1, by omega⟩
    unfold setsF at h ⊢
    rw [if_neg (by omega)] at h ⊢
    rcases List.mem_cons.1 h with rfl | h
    · exact List.mem_cons_self
    · refine List.mem_cons_of_mem _ ?_
      obtain ⟨k1, k2⟩ := kidsOf_len zs (by omega)
      rcases List.mem_append.1 h with h | h
      · exact List.mem_append_left _ (setsF_fuel f g _ x (by omega) h)
      · exact List.mem_append_right _ (setsF_fuel f g _ x (by omega) h)
theorem left_pow {n : Nat} (h : pw n = true) : leftOf (n + 1) = n := by
  simp only [pw, decide_eq_true_eq] at h
  rcases h with rfl | rfl | rfl | rfl <;> rfl
theorem left_not {n : Nat} (h : pw n = false) (h1 : 1 ≤ n) (h15 : n ≤ 15) : leftOf (n + 1) = leftOf n := by
  simp only [pw, decide_eq_false_iff_not] at h
  unfold leftOf
  split <;> split <;> (try split) <;> (try split) <;> (try split) <;> (try split) <;> omega
theorem setsF_grow : ∀ (f g : Nat) (zs x : List Int) (a : Int), zs.length ≤ 15 → zs.length + 1 ≤ g → x ∈ setsF f zs → pw x.length = true → x ∈ setsF g (zs ++ [a])
  | 0, g, zs, x, a, h15, hg, h, hp => by simp [setsF] at h
  | f + 1, g, zs, x, a, h15, hg, h, hp => by
    have hl := setsF_mem3 (f + 1) zs x h
    obtain ⟨g, rfl⟩ : ∃ g', g = g' + 1 := ⟨g - 1, by omega⟩
    have hz : (zs ++ [a]).length = zs.length + 1 := by simp
    have hk : kidsOf (zs ++ [a]) = ((zs ++ [a]).take (leftOf (zs.length + 1)), (zs ++ [a]).drop (leftOf (zs.length + 1))) := by
      rw [kids_two (by omega), hz]
    unfold setsF
    rw [if_neg (by omega), hk]
    refine List.mem_cons_of_mem _ ?_
    rcases hpz : pw zs.length with _ | _
    · rw [left_not hpz (by omega) h15]
      have h2 : 2 ≤ zs.length := by
        rcases Nat.lt_or_ge zs.length 2 with h2 | h2
        · have : zs.length = 1 := by omega
          rw [this] at hpz
          exact absurd hpz (by decide)
        · exact h2
      have hlt := leftOf_lt h2
      have hps := leftOf_pos zs.length
      unfold setsF at h
      rw [if_neg (by omega), kids_two h2] at h
      rw [List.take_append_of_le_length (by omega), List.drop_append_of_le_length (by omega)]
      rcases List.mem_cons.1 h with rfl | h
      · rw [hpz] at hp
        cases hp
      · rcases List.mem_append.1 h with h | h
        · exact List.mem_append_left _ (setsF_fuel f g _ x (by simp; omega) h)
        · exact List.mem_append_right _ (setsF_grow f g _ x a (by simp; omega) (by simp; omega) h hp)
    · rw [left_pow hpz]
      refine List.mem_append_left _ ?_
      show x ∈ setsF g ((zs ++ [a]).take zs.length)
      rw [List.take_append_of_le_length (Nat.le_refl _), List.take_length]
      exact setsF_fuel (f + 1) g zs x (by omega) h
end Go.Proofs.Ytappaadadkoamaa
