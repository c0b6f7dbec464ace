/- Plain facts: how the sets of a path are joined with those beside it. -/
import Derived.Test.YtappaadadkoamaaTPlain3
namespace Go.Proofs.Ytappaadadkoamaa
set_option linter.unusedVariables false

/-- x's two halves are y and b, in one order or the other. -/
structure Joined (x y b : List Int) : Prop where
  kids : kidsOf x = (y, b) ∨ kidsOf x = (b, y)
  two : 2 ≤ x.length
  len : x.length = y.length + b.length
  mem : ∀ z, z ∈ x ↔ z ∈ y ∨ z ∈ b
  apart : ∀ z ∈ y, z ∉ b
  nodup : b.Nodup
theorem Joined.left {x : List Int} (h : x.Nodup) (h2 : 2 ≤ x.length) : Joined x (kidsOf x).1 (kidsOf x).2 ∧ Joined x (kidsOf x).2 (kidsOf x).1 := by
  have h0 : ¬ (kidsOf x).2.length = 0 := fun e => by have := (kids2_zero x).1 e; omega
  obtain ⟨n1, n2, n3⟩ := nodup_kids h h2
  have ha := kidsOf_append x h0
  have hl : x.length = (kidsOf x).1.length + (kidsOf x).2.length := by rw [← List.length_append, ha]
  have hm : ∀ z, z ∈ x ↔ z ∈ (kidsOf x).1 ∨ z ∈ (kidsOf x).2 := fun z => by rw [← List.mem_append, ha]
  exact ⟨⟨.inl rfl, h2, hl, hm, n3, n2⟩, ⟨.inr rfl, h2, by omega, fun z => by rw [hm z, or_comm], fun z hz hz1 => n3 z hz1 hz, n1⟩⟩

structure DJoin (D Bd : List (List Int)) : Prop where
  len : Bd.length + 1 = D.length
  at' : ∀ (i : Nat) (x y b : List Int), D[i]? = some x → D[i + 1]? = some y → Bd[i]? = some b → Joined x y b
theorem DJoin.cons {l k s : List Int} {D Bd : List (List Int)} (h : DJoin D Bd) (hk : D[0]? = some k) (hs : Joined l k s) : DJoin (l :: D) (s :: Bd) := by
  refine ⟨by simp [h.len], fun i x y b hx hy hb => ?_⟩
  cases i with
  | zero =>
    simp at hx hb
    subst hx hb
    rw [List.getElem?_cons_succ, hk] at hy
    cases hy
    exact hs
  | succ i =>
    rw [List.getElem?_cons_succ] at hx hy hb
    exact h.at' i x y b hx hy hb
theorem downF_join : ∀ (f : Nat) (l : List Int) (d : Int), l.length ≤ f → l.length ≤ 16 → l.Nodup → d ∈ l → DJoin (downF f l d).1 (downF f l d).2
  | 0, l, d, h, _, _, hd => by have := List.length_pos_of_mem hd; omega
  | f + 1, l, d, h, h16, hn, hd => by
    have hp := List.length_pos_of_mem hd
    unfold downF
    by_cases h2 : l.length < 2
    · rw [if_pos ((kids2_zero l).2 h2)]
      exact ⟨rfl, fun i x y b hx hy => by simp at hy⟩
    · have h0 : ¬ (kidsOf l).2.length = 0 := fun e => h2 ((kids2_zero l).1 e)
      obtain ⟨n1, n2, n3⟩ := nodup_kids hn (by omega)
      obtain ⟨k1, k2⟩ := kidsOf_len l (by omega)
      have happ := kidsOf_append l h0
      obtain ⟨j1, j2⟩ := Joined.left hn (by omega)
      rw [if_neg h0]
      by_cases hm : d ∈ (kidsOf l).1
      · rw [if_pos hm]
        exact (downF_join f _ d (by omega) (by omega) n1 hm).cons (downF_ok f _ d (by omega) (by omega) hm).head j1
      · have hm2 : d ∈ (kidsOf l).2 := by
          rw [← happ, List.mem_append] at hd
          exact hd.resolve_left hm
        rw [if_neg hm]
        exact (downF_join f _ d (by omega) (by omega) n2 hm2).cons (downF_ok f _ d (by omega) (by omega) hm2).head j2
structure PJoin (P B : List (List Int)) : Prop where
  len : B.length + 1 = P.length
  at' : ∀ (i : Nat) (x y b : List Int), P[i]? = some y → P[i + 1]? = some x → B[i]? = some b → Joined x y b
theorem path_join {zs : List Int} {d : Int} (h16 : zs.length ≤ 16) (hn : zs.Nodup) (hd : d ∈ zs) : PJoin (pathOf zs d) (besideOf zs d) := by
  have h := downF_join 16 zs d h16 h16 hn hd
  unfold pathOf besideOf downOf
  rw [if_pos hd]
  generalize (downF 16 zs d).1 = D at h ⊢
  generalize (downF 16 zs d).2 = Bd at h ⊢
  have hl := h.len
  refine ⟨by simpa using hl, fun i x y b hy hx hb => ?_⟩
  have h1 := (List.getElem?_eq_some_iff.1 hb).1
  simp only [List.length_reverse] at h1
  rw [List.getElem?_reverse (by omega)] at hy hx hb
  refine h.at' (Bd.length - 1 - i) x y b ?_ ?_ hb
  · rw [← hx]; congr 1; omega
  · rw [← hy]; congr 1; omega

/-- What was met when i of those beside were gone through. -/
def metOf (d : Int) (B : List (List Int)) (i : Nat) : List Int := d :: (B.take i).flatten
theorem metOf_succ {d : Int} {B : List (List Int)} {i : Nat} {b : List Int} (h : B[i]? = some b) : metOf d B (i + 1) = metOf d B i ++ b := by
  obtain ⟨h1, rfl⟩ := List.getElem?_eq_some_iff.1 h
  unfold metOf
  rw [List.take_succ_eq_append_getElem h1, List.flatten_append]
  simp
theorem metOf_ok {P B : List (List Int)} {d : Int} (h : PJoin P B) (h0 : P[0]? = some [d]) : ∀ (i : Nat) (y : List Int), P[i]? = some y → (metOf d B i).length = y.length ∧ ∀ z, z ∈ metOf d B i ↔ z ∈ y
  | 0, y, hy => by
    rw [h0] at hy
    cases hy
    simp [metOf]
  | i + 1, x, hx => by
    have h1 := (List.getElem?_eq_some_iff.1 hx).1
    have hl := h.len
    obtain ⟨y, hy⟩ : ∃ y, P[i]? = some y := ⟨_, List.getElem?_eq_getElem (by omega)⟩
    obtain ⟨b, hb⟩ : ∃ b, B[i]? = some b := ⟨_, List.getElem?_eq_getElem (by omega)⟩
    obtain ⟨e1, e2⟩ := metOf_ok h h0 i y hy
    have hj := h.at' i x y b hy hx hb
    rw [metOf_succ hb]
    refine ⟨by rw [List.length_append, e1, hj.len], fun z => ?_⟩
    rw [List.mem_append, e2, hj.mem]
theorem nodup_take {b : List Int} (h : b.Nodup) {k : Nat} {z : Int} (hz : b[k]? = some z) : z ∉ b.take k := by
  obtain ⟨h1, rfl⟩ := List.getElem?_eq_some_iff.1 hz
  intro hm
  obtain ⟨j, hj, e⟩ := List.mem_take_iff_getElem.1 hm
  have := (List.getElem_inj h).1 e
  omega
end Go.Proofs.Ytappaadadkoamaa
