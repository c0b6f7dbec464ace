/- Plain facts of the sets of a tree, of a path down it, and of what is beside it. -/
import Derived.Test.YtappaadadkoamaaTPath
namespace Go.Proofs.Ytappaadadkoamaa
set_option linter.unusedVariables false

theorem kids_two {zs : List Int} (h : 2 ≤ zs.length) : kidsOf zs = (zs.take (leftOf zs.length), zs.drop (leftOf zs.length)) := if_neg (by omega)
theorem kids_one {zs : List Int} (h : zs.length < 2) : kidsOf zs = ([], []) := if_pos h
theorem kids2_zero (zs : List Int) : (kidsOf zs).2.length = 0 ↔ zs.length < 2 := by
  constructor
  · intro h
    rcases Nat.lt_or_ge zs.length 2 with h2 | h2
    · exact h2
    · rw [kids_two h2] at h
      have := leftOf_lt h2
      simp at h; omega
  · intro h
    rw [kids_one h]; rfl
def clog (n : Nat) : Nat := if n ≤ 1 then 0 else if n ≤ 2 then 1 else if n ≤ 4 then 2 else if n ≤ 8 then 3 else 4
theorem clog_left {n : Nat} (h : 2 ≤ n) (h16 : n ≤ 16) : clog (leftOf n) + 1 ≤ clog n ∧ clog (n - leftOf n) + 1 ≤ clog n := by
  unfold leftOf
  split
  · have : n = 2 := by omega
    subst this; decide
  · split
    · rcases (show n = 3 ∨ n = 4 by omega) with rfl | rfl <;> decide
    · split
      · rcases (show n = 5 ∨ n = 6 ∨ n = 7 ∨ n = 8 by omega) with rfl | rfl | rfl | rfl <;> decide
      · rcases (show n = 9 ∨ n = 10 ∨ n = 11 ∨ n = 12 ∨ n = 13 ∨ n = 14 ∨ n = 15 ∨ n = 16 by omega) with rfl | rfl | rfl | rfl | rfl | rfl | rfl | rfl <;> decide
theorem one_of_mem {l : List Int} {d : Int} (h : d ∈ l) (hl : l.length < 2) : l = [d] := by
  match l, h, hl with
  | [x], h, _ => simp at h; rw [h]
  | [], h, _ => simp at h
  | x :: y :: r, _, hl => simp at hl; omega

structure DownOK (l : List Int) (d : Int) (D : List (List Int)) : Prop where
  head : D[0]? = some l
  last : D[D.length - 1]? = some [d]
  pos : 1 ≤ D.length
  len : D.length ≤ clog l.length + 1
  step : ∀ (i : Nat) (x y : List Int), D[i]? = some x → D[i + 1]? = some y → y.length < x.length

theorem DownOK.cons {l k : List Int} {d : Int} {D : List (List Int)} (h : DownOK k d D) (hk : k.length < l.length) (hc : clog k.length + 1 ≤ clog l.length) : DownOK l d (l :: D) := by
  have hp := h.pos
  refine ⟨rfl, ?_, by simp, by simp; have := h.len; omega, fun i x y hx hy => ?_⟩
  · have e : (l :: D).length - 1 = (D.length - 1) + 1 := by simp; omega
    rw [e, List.getElem?_cons_succ]
    exact h.last
  · cases i with
    | zero =>
      simp at hx
      subst hx
      rw [List.getElem?_cons_succ, h.head] at hy
      cases hy
      exact hk
    | succ i =>
      rw [List.getElem?_cons_succ] at hx hy
      exact h.step i x y hx hy

theorem downF_ok : ∀ (f : Nat) (l : List Int) (d : Int), l.length ≤ f → l.length ≤ 16 → d ∈ l → DownOK l d (downF f l d).1
  | 0, l, d, h, _, hd => by have := List.length_pos_of_mem hd; omega
  | f + 1, l, d, h, h16, hd => by
    unfold downF
    by_cases h0 : (kidsOf l).2.length = 0
    · rw [if_pos h0]
      have hl := one_of_mem hd ((kids2_zero l).1 h0)
      subst hl
      exact ⟨rfl, rfl, by simp, by simp, fun i x y hx hy => by simp at hy⟩
    · rw [if_neg h0]
      have h2 : 2 ≤ l.length := Nat.le_of_not_lt (fun h => h0 ((kids2_zero l).2 h))
      have hk := kids_two h2
      have hp := leftOf_pos l.length
      have hlt := leftOf_lt h2
      obtain ⟨c1, c2⟩ := clog_left h2 h16
      have l1 : (kidsOf l).1.length = leftOf l.length := by rw [hk]; simp; omega
      have l2 : (kidsOf l).2.length = l.length - leftOf l.length := by rw [hk]; simp
      by_cases hm : d ∈ (kidsOf l).1
      · rw [if_pos hm]
        exact (downF_ok f (kidsOf l).1 d (by omega) (by omega) hm).cons (by omega) (by rw [l1]; exact c1)
      · rw [if_neg hm]
        have hm2 : d ∈ (kidsOf l).2 := by
          have := kidsOf_append l h0
          rw [← this, List.mem_append] at hd
          exact hd.resolve_left hm
        exact (downF_ok f (kidsOf l).2 d (by omega) (by omega) hm2).cons (by omega) (by rw [l2]; exact c2)

structure PathOK (l : List Int) (d : Int) (P : List (List Int)) : Prop where
  head : P[0]? = some [d]
  last : P[P.length - 1]? = some l
  pos : 1 ≤ P.length
  len : P.length ≤ clog l.length + 1
  step : ∀ (i : Nat) (x y : List Int), P[i]? = some x → P[i + 1]? = some y → x.length < y.length
theorem path_ok {zs : List Int} {d : Int} (h16 : zs.length ≤ 16) (hd : d ∈ zs) : PathOK zs d (pathOf zs d) := by
  have h := downF_ok 16 zs d h16 h16 hd
  unfold pathOf downOf
  rw [if_pos hd]
  generalize (downF 16 zs d).1 = D at h
  have hp := h.pos
  refine ⟨?_, ?_, by simpa using h.pos, by simpa using h.len, fun i x y hx hy => ?_⟩
  · rw [List.getElem?_reverse (by omega)]
    exact h.last
  · rw [List.length_reverse, List.getElem?_reverse (by omega), show D.length - 1 - (D.length - 1) = 0 by omega]
    exact h.head
  · have h1 := (List.getElem?_eq_some_iff.1 hy).1
    simp only [List.length_reverse] at h1
    rw [List.getElem?_reverse (by omega)] at hx hy
    have e : D.length - 1 - i = D.length - 1 - (i + 1) + 1 := by omega
    rw [e] at hx
    exact h.step _ y x hy hx
end Go.Proofs.Ytappaadadkoamaa
