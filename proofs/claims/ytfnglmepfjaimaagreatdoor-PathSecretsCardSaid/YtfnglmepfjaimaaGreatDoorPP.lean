/- What a walk through a map in any order gathers by 'or': plain facts. -/
import Derived.Test.YtfnglmepfjaimaaGreatDoorGX
namespace Go.Proofs.YtfnglmepfjaimaaGreatDoor
open Go.RowKit
set_option linter.unusedVariables false
abbrev Ents := List (Value × G × Nat)
def mKey (k : Value) : Nat := match k with
  | .int _ (.ofNat n) => n
  | _ => 0
def mHas (g : G) : Bool := match g with
  | .lit (.bool true) => true
  | _ => false
def mVal (k : Value) (g : G) : Nat := bif mHas g then mKey k else 0
def orAcc (seen : List Nat) : Ents → Nat
  | [] => 0
  | e :: r => (bif seen.contains e.2.2 then mVal e.1 e.2.1 else 0) ||| orAcc seen r
def orAll : Ents → Nat
  | [] => 0
  | e :: r => mVal e.1 e.2.1 ||| orAll r
theorem contains_add {seen : List Nat} {n m : Nat} : (seen ++ [n]).contains m = (seen.contains m || (m == n)) := by
  rw [Bool.eq_iff_iff]
  simp
theorem orAcc_out {seen : List Nat} {n : Nat} : ∀ {es : Ents}, n ∉ es.map (·.2.2) → orAcc (seen ++ [n]) es = orAcc seen es
  | [], _ => rfl
  | e :: r, h => by
    simp only [List.map_cons, List.mem_cons, not_or] at h
    unfold orAcc
    rw [orAcc_out h.2, contains_add]
    have : (e.2.2 == n) = false := by
      rw [beq_eq_false_iff_ne]
      exact fun x => h.1 x.symm
    rw [this, Bool.or_false]
theorem orAcc_add {seen : List Nat} {k : Value} {g : G} {n : Nat} (hn : n ∉ seen) : ∀ {es : Ents}, (k, g, n) ∈ es → (es.map (·.2.2)).Nodup → orAcc (seen ++ [n]) es = orAcc seen es ||| mVal k g
  | e :: r, h, hd => by
    simp only [List.map_cons, List.nodup_cons] at hd
    unfold orAcc
    have hs : seen.contains n = false := by
      cases hc : seen.contains n with
      | false => rfl
      | true => exact absurd (by simpa using hc) hn
    rcases List.mem_cons.1 h with rfl | h
    · rw [orAcc_out hd.1, contains_add]
      simp only [hs, Bool.false_or, BEq.rfl, cond_true, cond_false, Nat.zero_or]
      rw [Nat.or_comm]
    · have hne : e.2.2 ≠ n := fun x => hd.1 (by rw [x]; exact List.mem_map.2 ⟨_, h, rfl⟩)
      rw [orAcc_add hn h hd.2, contains_add]
      have : (e.2.2 == n) = false := by rw [beq_eq_false_iff_ne]; exact hne
      rw [this, Bool.or_false, Nat.or_assoc]
theorem orAcc_all {seen : List Nat} : ∀ {es : Ents}, (∀ e ∈ es, e.2.2 ∈ seen) → orAcc seen es = orAll es
  | [], _ => rfl
  | e :: r, h => by
    unfold orAcc orAll
    rw [orAcc_all fun e he => h e (by simp [he])]
    have : seen.contains e.2.2 = true := by simpa using h e (by simp)
    rw [this]; rfl
theorem orAcc_nil : ∀ {es : Ents}, orAcc [] es = 0
  | [] => rfl
  | e :: r => by unfold orAcc; rw [orAcc_nil]; simp
theorem orAcc_lt {seen : List Nat} {b : Nat} : ∀ {es : Ents}, (∀ e ∈ es, mKey e.1 < 2 ^ b) → orAcc seen es < 2 ^ b
  | [], _ => Nat.two_pow_pos b
  | e :: r, h => by
    unfold orAcc
    refine Nat.or_lt_two_pow ?_ (orAcc_lt fun e he => h e (by simp [he]))
    have := h e (by simp)
    cases seen.contains e.2.2 with
    | false => exact Nat.two_pow_pos b
    | true =>
      show mVal e.1 e.2.1 < 2 ^ b
      unfold mVal
      cases mHas e.2.1 with
      | false => exact Nat.two_pow_pos b
      | true => exact this
theorem gcands_none {es : Ents} {since : Nat} {seen : List Nat} (hb : ∀ e ∈ es, e.2.2 < since) (h : none ∈ gcands es since seen) : ∀ e ∈ es, e.2.2 ∈ seen := by
  intro e he
  unfold gcands at h
  simp only [List.mem_append, List.mem_map] at h
  rcases h with h | ⟨x, _, hx⟩
  · split at h
    · rename_i hemp
      rw [List.isEmpty_iff, List.filter_eq_nil_iff] at hemp
      by_cases hs : e.2.2 ∈ seen
      · exact hs
      · exfalso
        refine hemp e (List.mem_filter.2 ⟨he, by simpa using hs⟩) (by simpa using hb e he)
    · cases h
  · cases hx
theorem gcands_some {es : Ents} {since : Nat} {seen : List Nat} {k : Value} {g : G} {n : Nat} (h : some (k, g, n) ∈ gcands es since seen) : (k, g, n) ∈ es ∧ n ∉ seen := by
  unfold gcands at h
  simp only [List.mem_append, List.mem_map] at h
  rcases h with h | ⟨x, hx, hxe⟩
  · split at h
    · simp at h
    · cases h
  · cases hxe
    have hm : (k, g, n) ∈ es.filter fun e => !seen.contains e.2.2 := by
      rcases hx with hx | hx
      · exact (List.mem_filter.1 hx).1
      · exact (List.mem_filter.1 hx).1
    obtain ⟨h1, h2⟩ := List.mem_filter.1 hm
    refine ⟨h1, fun hs => ?_⟩
    simp [hs] at h2
end Go.Proofs.YtfnglmepfjaimaaGreatDoor
