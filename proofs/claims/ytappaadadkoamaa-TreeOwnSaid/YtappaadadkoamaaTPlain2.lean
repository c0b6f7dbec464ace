/- Plain facts: the reference's path and what is beside it are the tree's. -/
import Derived.Test.YtappaadadkoamaaTPlain
import Derived.Test.YtappaadadkoamaaTRBeside
namespace Go.Proofs.Ytappaadadkoamaa
set_option linter.unusedVariables false

theorem setsF_sub : ∀ (f : Nat) (zs x : List Int), x ∈ setsF f zs → ∀ z ∈ x, z ∈ zs
  | 0, zs, x, h => by simp [setsF] at h
  | f + 1, zs, x, h => by
    unfold setsF at h
    split at h
    · simp at h
    · rename_i h0
      intro z hz
      rcases List.mem_cons.1 h with rfl | h
      · exact hz
      · rcases Nat.lt_or_ge zs.length 2 with h2 | h2
        · rw [kids_one h2, setsF_nil] at h
          simp at h
        · rw [kids_two h2] at h
          rcases List.mem_append.1 h with h | h
          · exact List.mem_of_mem_take (setsF_sub f _ x h z hz)
          · exact List.mem_of_mem_drop (setsF_sub f _ x h z hz)
theorem filter_none {f : Nat} {zs : List Int} {d : Int} (h : d ∉ zs) : (setsF f zs).filter (hasB d) = [] := by
  rw [List.filter_eq_nil_iff]
  intro x hx
  simp only [hasB, decide_eq_true_eq]
  exact fun hd => h (setsF_sub f zs x hx d hd)
theorem nodup_kids {l : List Int} (h : l.Nodup) (h2 : 2 ≤ l.length) : (kidsOf l).1.Nodup ∧ (kidsOf l).2.Nodup ∧ ∀ z ∈ (kidsOf l).1, z ∉ (kidsOf l).2 := by
  have hne : (kidsOf l).2.length ≠ 0 := fun e => by have := (kids2_zero l).1 e; omega
  rw [← kidsOf_append l hne, List.nodup_append] at h
  exact ⟨h.1, h.2.1, fun z hz hz2 => h.2.2 z hz z hz2 rfl⟩

theorem filter_down : ∀ (f : Nat) (l : List Int) (d : Int), l.length ≤ f → l.Nodup → d ∈ l → (setsF f l).filter (hasB d) = (downF f l d).1
  | 0, l, d, h, _, hd => by have := List.length_pos_of_mem hd; omega
  | f + 1, l, d, h, hn, hd => by
    have hp := List.length_pos_of_mem hd
    have hself : hasB d l = true := decide_eq_true hd
    unfold setsF downF
    rw [if_neg (by omega), List.filter_cons_of_pos hself, List.filter_append]
    by_cases h2 : l.length < 2
    · rw [if_pos ((kids2_zero l).2 h2), kids_one h2, setsF_nil]
      rfl
    · have h0 : ¬ (kidsOf l).2.length = 0 := fun e => h2 ((kids2_zero l).1 e)
      obtain ⟨n1, n2, n3⟩ := nodup_kids hn (by omega)
      obtain ⟨k1, k2⟩ := kidsOf_len l (by omega)
      rw [if_neg h0]
      by_cases hm : d ∈ (kidsOf l).1
      · rw [if_pos hm, filter_down f _ d (by omega) n1 hm, filter_none (n3 d hm)]
        simp
      · have hm2 : d ∈ (kidsOf l).2 := by
          rw [← kidsOf_append l h0, List.mem_append] at hd
          exact hd.resolve_left hm
        rw [if_neg hm, filter_down f _ d (by omega) n2 hm2, filter_none hm]
        simp
theorem pathR_eq {zs : List Int} {d : Int} (h : zs.length ≤ 16) (hn : zs.Nodup) : pathR zs d = pathOf zs d := by
  unfold pathR pathOf downOf setsOf
  rw [List.filter_reverse]
  by_cases hd : d ∈ zs
  · rw [if_pos hd, filter_down 16 zs d h hn hd]
  · rw [if_neg hd, filter_none hd]

theorem filter_self (l : List Int) : l.filter (notIn l) = [] := by
  rw [List.filter_eq_nil_iff]
  intro x hx
  simp [notIn, hx]
theorem filter_apart {l k : List Int} (h : ∀ z ∈ l, z ∉ k) : l.filter (notIn k) = l := by
  rw [List.filter_eq_self]
  intro x hx
  simp [notIn, h x hx]

theorem filter_sib {l a b : List Int} (h : a ++ b = l) (hd : ∀ z ∈ a, z ∉ b) : l.filter (notIn a) = b ∧ l.filter (notIn b) = a := by
  subst h
  rw [List.filter_append, List.filter_append, filter_self, filter_self, filter_apart hd, filter_apart (fun z hz hz1 => hd z hz1 hz)]
  simp

structure BesOK (D Bd : List (List Int)) : Prop where
  len : Bd.length + 1 = D.length
  at' : ∀ (i : Nat) (x y : List Int), D[i]? = some x → D[i + 1]? = some y → Bd[i]? = some (x.filter (notIn y))
theorem BesOK.cons {l k s : List Int} {D Bd : List (List Int)} (h : BesOK D Bd) (hk : D[0]? = some k) (hs : l.filter (notIn k) = s) : BesOK (l :: D) (s :: Bd) := by
  refine ⟨by simp [h.len], fun i x y hx hy => ?_⟩
  cases i with
  | zero =>
    simp at hx
    subst hx
    rw [List.getElem?_cons_succ, hk] at hy
    cases hy
    rw [hs]; rfl
  | succ i =>
    rw [List.getElem?_cons_succ] at hx hy ⊢
    exact h.at' i x y hx hy
theorem downF_bes : ∀ (f : Nat) (l : List Int) (d : Int), l.length ≤ f → l.length ≤ 16 → l.Nodup → d ∈ l → BesOK (downF f l d).1 (downF f l d).2
  | 0, l, d, h, _, _, hd => by have := List.length_pos_of_mem hd; omega
  | f + 1, l, d, h, h16, hn, hd => by
    have hp := List.length_pos_of_mem hd
    unfold downF
    by_cases h2 : l.length < 2
    · rw [if_pos ((kids2_zero l).2 h2)]
      exact ⟨rfl, fun i x y hx hy => by simp at hy⟩
    · have h0 : ¬ (kidsOf l).2.length = 0 := fun e => h2 ((kids2_zero l).1 e)
      obtain ⟨n1, n2, n3⟩ := nodup_kids hn (by omega)
      obtain ⟨k1, k2⟩ := kidsOf_len l (by omega)
      have happ := kidsOf_append l h0
      rw [if_neg h0]
      by_cases hm : d ∈ (kidsOf l).1
      · rw [if_pos hm]
        refine (downF_bes f _ d (by omega) (by omega) n1 hm).cons (downF_ok f _ d (by omega) (by omega) hm).head (filter_sib happ n3).1
      · have hm2 : d ∈ (kidsOf l).2 := by
          rw [← happ, List.mem_append] at hd
          exact hd.resolve_left hm
        rw [if_neg hm]
        refine (downF_bes f _ d (by omega) (by omega) n2 hm2).cons (downF_ok f _ d (by omega) (by omega) hm2).head (filter_sib happ n3).2
theorem besideR_eq {zs : List Int} {d : Int} (h : zs.length ≤ 16) (hn : zs.Nodup) : besideR (pathR zs d) = besideOf zs d := by
  rw [pathR_eq h hn]
  unfold pathOf besideOf downOf
  by_cases hd : d ∈ zs
  · rw [if_pos hd]
    have hb := downF_bes 16 zs d h h hn hd
    generalize (downF 16 zs d).1 = D at hb ⊢
    generalize (downF 16 zs d).2 = Bd at hb ⊢
    have hl := hb.len
    apply List.ext_getElem?
    intro i
    rcases Nat.lt_or_ge i Bd.length with hi | hi
    · rw [List.getElem?_reverse hi]
      unfold besideR
      rw [List.getElem?_map, List.getElem?_range (by simp; omega)]
      obtain ⟨x, hx⟩ : ∃ x, D[Bd.length - 1 - i]? = some x := ⟨_, List.getElem?_eq_getElem (by omega)⟩
      obtain ⟨y, hy⟩ : ∃ y, D[Bd.length - 1 - i + 1]? = some y := ⟨_, List.getElem?_eq_getElem (by omega)⟩
      rw [hb.at' _ x y hx hy]
      simp only [Option.map_some, sibOf, List.getD_eq_getElem?_getD]
      rw [List.getElem?_reverse (by omega), List.getElem?_reverse (by omega), show D.length - 1 - (i + 1) = Bd.length - 1 - i by omega, show D.length - 1 - i = Bd.length - 1 - i + 1 by omega, hx, hy]
      rfl
    · rw [List.getElem?_eq_none (by simp [besideR]; omega), List.getElem?_eq_none (by simpa using hi)]
  · rw [if_neg hd]
    rfl
end Go.Proofs.Ytappaadadkoamaa
