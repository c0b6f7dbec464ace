/- Plain facts: how many sets a tree has, that no two are alike, and how two of them lie. -/
import Derived.Test.YtappaadadkoamaaTPlain2
namespace Go.Proofs.Ytappaadadkoamaa
set_option linter.unusedVariables false

theorem setsF_mem3 : ∀ (f : Nat) (zs x : List Int), x ∈ setsF f zs → x.length ≤ zs.length ∧ 1 ≤ x.length
  | 0, zs, x, h => by simp [setsF] at h
  | f + 1, zs, x, h => by
    unfold setsF at h
    split at h
    · simp at h
    · rename_i h0
      obtain ⟨k1, k2⟩ := kidsOf_len zs h0
      rcases List.mem_cons.1 h with rfl | h
      · omega
      · rcases List.mem_append.1 h with h | h
        · have := setsF_mem3 f _ x h; omega
        · have := setsF_mem3 f _ x h; omega
def oneB (x : List Int) : Bool := decide (x.length = 1)
theorem setsF_count : ∀ (f : Nat) (zs : List Int), zs.length ≤ f → 1 ≤ zs.length → (setsF f zs).length = 2 * zs.length - 1 ∧ ((setsF f zs).countP oneB) = zs.length
  | 0, zs, h, h1 => by omega
  | f + 1, zs, h, h1 => by
    unfold setsF
    rw [if_neg (by omega)]
    rcases Nat.lt_or_ge zs.length 2 with h2 | h2
    · rw [kids_one h2, setsF_nil]
      have : zs.length = 1 := by omega
      simp [oneB, this]
    · have hp := leftOf_pos zs.length
      have hlt := leftOf_lt h2
      rw [kids_two h2]
      obtain ⟨a1, a2⟩ := setsF_count f (zs.take (leftOf zs.length)) (by simp; omega) (by simp; omega)
      obtain ⟨b1, b2⟩ := setsF_count f (zs.drop (leftOf zs.length)) (by simp; omega) (by simp; omega)
      have l1 : (zs.take (leftOf zs.length)).length = leftOf zs.length := by simp; omega
      have l2 : (zs.drop (leftOf zs.length)).length = zs.length - leftOf zs.length := by simp
      rw [l1] at a1 a2
      rw [l2] at b1 b2
      have h0 : oneB zs = false := by simp [oneB]; omega
      refine ⟨by simp only [List.length_cons, List.length_append, a1, b1]; omega, ?_⟩
      rw [List.countP_cons_of_neg (by simp [h0]), List.countP_append, a2, b2]
      omega
def Lam (y x : List Int) : Prop := x ≠ y ∧ ((∀ z ∈ x, z ∉ y) ∨ (∀ z ∈ x, z ∈ y))
theorem setsF_lam : ∀ (f : Nat) (zs : List Int), zs.Nodup → (setsF f zs).Pairwise Lam
  | 0, zs, h => by simp [setsF]
  | f + 1, zs, h => by
    unfold setsF
    split
    · simp
    · rename_i h0
      rcases Nat.lt_or_ge zs.length 2 with h2 | h2
      · rw [kids_one h2, setsF_nil]; simp
      · obtain ⟨n1, n2, n3⟩ := nodup_kids h h2
        have hk := kids_two h2
        have hp := leftOf_pos zs.length
        have hlt := leftOf_lt h2
        rw [List.pairwise_cons, List.pairwise_append]
        refine ⟨fun x hx => ?_, setsF_lam f _ n1, setsF_lam f _ n2, fun y hy x hx => ?_⟩
        · rcases List.mem_append.1 hx with hx | hx
          · have hl := (setsF_mem3 f _ x hx).1
            have hs := setsF_sub f _ x hx
            rw [hk] at hl hs
            exact ⟨fun e => by rw [e] at hl; simp at hl; omega, .inr fun z hz => List.mem_of_mem_take (hs z hz)⟩
          · have hl := (setsF_mem3 f _ x hx).1
            have hs := setsF_sub f _ x hx
            rw [hk] at hl hs
            exact ⟨fun e => by rw [e] at hl; simp at hl; omega, .inr fun z hz => List.mem_of_mem_drop (hs z hz)⟩
        · have hd : ∀ z ∈ x, z ∉ y := fun z hz hzy => n3 z (setsF_sub f _ y hy z hzy) (setsF_sub f _ x hx z hz)
          refine ⟨fun e => ?_, .inl hd⟩
          have h1 := (setsF_mem3 f _ x hx).2
          obtain ⟨z, hz⟩ := List.exists_mem_of_length_pos (l := x) (by omega)
          exact hd z hz (e ▸ hz)
theorem lam_at {S : List (List Int)} (h : S.Pairwise Lam) {k i : Nat} {x y : List Int} (hk : k < i) (hy : S[k]? = some y) (hx : S[i]? = some x) : Lam y x := by
  obtain ⟨hi, rfl⟩ := List.getElem?_eq_some_iff.1 hx
  obtain ⟨hk', rfl⟩ := List.getElem?_eq_some_iff.1 hy
  exact List.pairwise_iff_getElem.1 h k i hk' hi hk
end Go.Proofs.Ytappaadadkoamaa
