/- Plain facts: which leaves they are is nothing to the sets, the path, and what is beside it. -/
import Derived.Test.YtappaadadkoamaaTPlain4
namespace Go.Proofs.Ytappaadadkoamaa
set_option linter.unusedVariables false

theorem kids_map (g : Int → Int) (zs : List Int) : kidsOf (zs.map g) = ((kidsOf zs).1.map g, (kidsOf zs).2.map g) := by
  rcases Nat.lt_or_ge zs.length 2 with h | h
  · rw [kids_one h, kids_one (by simpa using h)]; rfl
  · rw [kids_two h, kids_two (by simpa using h), List.length_map, List.map_take, List.map_drop]
theorem setsF_map (g : Int → Int) : ∀ (f : Nat) (zs : List Int), setsF f (zs.map g) = (setsF f zs).map (List.map g)
  | 0, zs => rfl
  | f + 1, zs => by
    unfold setsF
    rw [kids_map, List.length_map]
    split
    · rfl
    · simp only [List.map_cons, List.map_append]
      rw [setsF_map g f, setsF_map g f]
theorem mem_map_inj {g : Int → Int} (hg : ∀ a b, g a = g b → a = b) {zs : List Int} {d : Int} : g d ∈ zs.map g ↔ d ∈ zs := by
  constructor
  · intro h
    obtain ⟨a, ha, e⟩ := List.mem_map.1 h
    rw [← hg a d e]; exact ha
  · exact fun h => List.mem_map.2 ⟨d, h, rfl⟩
theorem downF_map {g : Int → Int} (hg : ∀ a b, g a = g b → a = b) : ∀ (f : Nat) (zs : List Int) (d : Int), downF f (zs.map g) (g d) = ((downF f zs d).1.map (List.map g), (downF f zs d).2.map (List.map g))
  | 0, zs, d => rfl
  | f + 1, zs, d => by
    unfold downF
    rw [kids_map]
    simp only [List.length_map, mem_map_inj hg]
    split
    · rfl
    · split
      · rw [downF_map hg f]; rfl
      · rw [downF_map hg f]; rfl
theorem pathOf_map {g : Int → Int} (hg : ∀ a b, g a = g b → a = b) (zs : List Int) (d : Int) : pathOf (zs.map g) (g d) = (pathOf zs d).map (List.map g) := by
  unfold pathOf downOf
  simp only [mem_map_inj hg]
  split
  · rw [downF_map hg]; simp
  · rfl
theorem besideOf_map {g : Int → Int} (hg : ∀ a b, g a = g b → a = b) (zs : List Int) (d : Int) : besideOf (zs.map g) (g d) = (besideOf zs d).map (List.map g) := by
  unfold besideOf downOf
  simp only [mem_map_inj hg]
  split
  · rw [downF_map hg]; simp
  · rfl
theorem sub_inj (k : Int) : ∀ a b : Int, k - a = k - b → a = b := fun a b h => by omega
end Go.Proofs.Ytappaadadkoamaa
