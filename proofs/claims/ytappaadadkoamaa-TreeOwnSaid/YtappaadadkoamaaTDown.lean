/- The path down a tree, and what is beside it: slices.Clone and Reverse of rows of slices, down, Path, Beside, by their contracts. -/
import Derived.Test.YtappaadadkoamaaTSets
import Derived.RegionTactic
import Derived.ChangeAlike
import Derived.BigRegion
namespace Go.Proofs.Ytappaadadkoamaa
open Go.RowKit
set_option linter.unusedVariables false

theorem RowsT.vals {w : World} {lo hi : Nat} {a : Option Addr} {n cap : Nat} {ls : List (List Int)} (h : RowsT w lo hi (.slice a n cap) ls) :
    ∃ us, Each w lo hi us ls ∧ ∀ j u, us[j]? = some u → ∃ x, a = some x ∧ w.cell? (x.add j) = some u := by
  obtain ⟨a', cap', he, h2, h3, h5, h6⟩ := h
  simp at he
  obtain ⟨rfl, rfl, rfl⟩ := he
  clear h2 h3 h5
  suffices H : ∀ k, k ≤ ls.length → ∃ us : List Value, us.length = k ∧ ∀ j u, us[j]? = some u → (∃ x, a = some x ∧ w.cell? (x.add j) = some u) ∧ ∀ l, ls[j]? = some l → IntsT w lo hi u l by
    obtain ⟨us, q1, q2⟩ := H ls.length (Nat.le_refl _)
    exact ⟨us, ⟨q1, fun i u l hu hl => (q2 i u hu).2 l hl⟩, fun j u hu => (q2 j u hu).1⟩
  intro k
  induction k with
  | zero => intro _; exact ⟨[], rfl, by simp⟩
  | succ k ih =>
    intro hk
    obtain ⟨us, q1, q2⟩ := ih (by omega)
    obtain ⟨g, o, u, rfl, hc, hI⟩ := h6 k ls[k] (List.getElem?_eq_getElem (by omega))
    refine ⟨us ++ [u], by simp [q1], fun j u' hu => ?_⟩
    rcases Nat.lt_or_ge j us.length with hlt | hge
    · rw [List.getElem?_append_left hlt] at hu
      exact q2 j u' hu
    · have hj : j = us.length := by have := (List.getElem?_eq_some_iff.1 hu).1; simp at this; omega
      subst hj
      simp at hu
      subst hu
      rw [q1]
      exact ⟨⟨_, rfl, by rw [addr_add]; exact hc⟩, fun l hl => by rw [List.getElem?_eq_getElem (by omega)] at hl; cases hl; exact hI⟩

set_option maxHeartbeats 400000 in
theorem clone2_any (w : World) (lo hi : Nat) (v : Value) (ls : List (List Int)) (h : RowsT w lo hi v ls) (hhi : hi ≤ w.heap.size) (hl : ls.length ≤ 1000) :
    Calls Try.prog 36 #[v] w fun e w' => ∃ v', e = .returned v' ∧ OwnT w' w.heap.size lo v' ls ∧ Below w.heap.size w w' := by
  obtain ⟨i0, hi0, hz0, hz1, hz2⟩ := info_parts intsInfo3
  obtain ⟨a, cap, rfl, h2, h3⟩ := h.form
  obtain ⟨us, hE, hC⟩ := h.vals
  cases a with
  | none =>
    have hz : ls = [] := by
      cases ls with
      | nil => rfl
      | cons l r => obtain ⟨g, o, u, hx, _⟩ := h.at' (i := 0) (l := l) (by simp); cases hx
    subst hz
    clear h hE hC
    have he := fun W => Lib.run_eql_slice_nil (P := Try.prog) W 24 22 none 0 cap 0 0 Try.underlying24
    go_enter Try.func36, Try.ntmps36
    go_wp2
    go_ret
    exact ⟨_, rfl, OwnT.nil _ _ _, Below.refl _ _⟩
  | some a =>
    have he := fun W => Lib.run_eql_slice_nil (P := Try.prog) W 24 22 (some a) ls.length cap 0 0 Try.underlying24
    have HC : Hid (∀ W, Keeps (fun _ => False) w W → ∀ j u, us[j]? = some u → ∃ x, (some a) = some x ∧ W.cell? (x.add j) = some u) := Lib.hid (fun W hW j u hu => by
      obtain ⟨x, hx, hc⟩ := hC j u hu
      exact ⟨x, hx, by rw [hW.cell (World.block_lt_of_cell? _ _ hc) (fun x => x)]; exact hc⟩)
    have HQ : Hid (us.length = ls.length * 1) := Lib.hid (by rw [hE.1, Nat.mul_one])
    have HC3 := Lib.hid hE.one
    have HC4 : Hid (0 + ls.length ≤ maxLen) := Lib.hid (by unfold maxLen; omega)
    have HC5 : Hid ((0 + ls.length) * 24 ≤ 140737488355328) := Lib.hid (by omega)
    have HE : Hid (Each w lo w.heap.size us ls) := Lib.hid (hE.mono (Nat.le_refl _) hhi)
    have Hz0 := Lib.hid hz0
    have Hz1 := Lib.hid hz1
    have Hz2 := Lib.hid hz2
    have Hi0 := Lib.hid hi0
    clear hz0 hz1 hz2 hi0 h hE hC
    go_enter Try.func36, Try.ntmps36
    go_wp2_with (first | (refine wpL_buildNone 24 22 i0 1 Try.underlying24 Hi0.out rfl rfl ?_; intro w1 O1 K1 S1; have HO1 := Lib.hid O1; have HK1 := Lib.hid K1; have HS1 := Lib.hid S1; clear O1 K1 S1) | (at_builtin; (refine wpL_append0 rfl (.tmp 5) (.tmp 6) 24 rfl w.heap.size 22 i0 (.slice none 0 0) 1 24 Try.underlying24 Hi0.out Hz0.out Hz1.out Hz2.out rfl Nat.one_pos (.slice (some ⟨w.heap.size, 0, none⟩) 0 0) 0 [] rfl HO1.out (some a) ls.length cap us rfl HQ.out (HC.out w1 HK1.out) HC3.out HC4.out HC5.out HK1.out.size ?_); intro v' w2 hown hg; have HO := Lib.hid hown; have HG := Lib.hid hg; clear hown hg))
    go_ret
    refine ⟨_, rfl, OwnT.push (ls := []) (us := []) HO1.out (Each.nil _ _ _) (((HE.out).keepsOwn HK1.out (fun _ _ x => x)).mono (Nat.le_refl _) HK1.out.size) HO.out (by simp) HG.out, (HK1.out.toBelow (Nat.le_refl _) (fun _ _ x => x)).grown HG.out HK1.out.size (fun k hk => by simp [Value.ownBlock] at hk; omega)⟩

/-! ### Reverse -/
def revTo (us : List Value) (k : Nat) : List Value := (List.range us.length).map fun p => if p < k ∨ us.length ≤ p + k then us.getD (us.length - 1 - p) undef else us.getD p undef
theorem revTo_len (us : List Value) (k : Nat) : (revTo us k).length = us.length := by simp [revTo]
theorem revTo_at {us : List Value} {k p : Nat} (hp : p < us.length) : (revTo us k)[p]? = if p < k ∨ us.length ≤ p + k then us[us.length - 1 - p]? else us[p]? := by
  unfold revTo
  rw [List.getElem?_map, List.getElem?_range hp]
  simp only [Option.map_some]
  split
  · rw [List.getD_eq_getElem?_getD, List.getElem?_eq_getElem (by omega)]; rfl
  · rw [List.getD_eq_getElem?_getD, List.getElem?_eq_getElem hp]; rfl
theorem revTo_zero (us : List Value) : revTo us 0 = us := by
  apply List.ext_getElem?
  intro p
  rcases Nat.lt_or_ge p us.length with hp | hp
  · rw [revTo_at hp, if_neg (by omega)]
  · rw [List.getElem?_eq_none (by rw [revTo_len]; exact hp), List.getElem?_eq_none hp]
theorem revTo_all {us : List Value} {k : Nat} (h : us.length ≤ 2 * k + 1) (hk : 2 * k ≤ us.length) : revTo us k = us.reverse := by
  apply List.ext_getElem?
  intro p
  rcases Nat.lt_or_ge p us.length with hp | hp
  · rw [revTo_at hp, List.getElem?_reverse hp]
    split
    · rfl
    · congr 1; omega
  · rw [List.getElem?_eq_none (by rw [revTo_len]; exact hp), List.getElem?_eq_none (by simpa using hp)]
theorem revTo_succ {us : List Value} {k m : Nat} {x y : Value} (hm : m + k + 1 = us.length) (hkm : k < m) (hx : us[k]? = some x) (hy : us[m]? = some y) : revTo us (k + 1) = ((revTo us k).set k y).set m x := by
  apply List.ext_getElem?
  intro p
  rcases Nat.lt_or_ge p us.length with hp | hp
  · rw [revTo_at hp, List.getElem?_set, List.getElem?_set, revTo_at hp]
    by_cases h1 : m = p
    · subst h1
      rw [if_pos (show m < k + 1 ∨ us.length ≤ m + (k + 1) by omega), if_pos rfl, if_pos (by rw [List.length_set, revTo_len]; exact hp), ← hx]
      congr 1; omega
    · rw [if_neg h1]
      by_cases h2 : k = p
      · subst h2
        rw [if_pos (show k < k + 1 ∨ us.length ≤ k + (k + 1) by omega), if_pos rfl, if_pos (by rw [revTo_len]; exact hp), ← hy]
        congr 1; omega
      · rw [if_neg h2]
        by_cases h3 : p < k ∨ us.length ≤ p + k
        · rw [if_pos h3, if_pos (by omega)]
        · rw [if_neg h3, if_neg (by omega)]
  · rw [List.getElem?_eq_none (by rw [revTo_len]; exact hp), List.getElem?_eq_none (by rw [List.length_set, List.length_set, revTo_len]; exact hp)]

theorem own_set {w : World} {base e g n cap : Nat} {xs : List Value} (h : w.ownsRow base e 1 (.slice (some ⟨g, 0, none⟩) n cap) n xs) {i : Nat} (hi : i < n) (u : Value) : (w.setCell ⟨g, i, none⟩ u).ownsRow base e 1 (.slice (some ⟨g, 0, none⟩) n cap) n (xs.set i u) := by
  refine ⟨by simpa using h.1, ?_⟩
  rcases h.2 with ⟨hv, _⟩ | ⟨g', cap', cur, hv, hb, hg, hle, hm, hs, ht⟩
  · simp at hv
  · simp only [Value.slice.injEq, Option.some.injEq, Addr.mk.injEq] at hv
    obtain ⟨⟨rfl, _⟩, _, rfl⟩ := hv
    refine .inr ⟨g, cap, cur.setIfInBounds i u, rfl, hb, heap_setCell_same w g i cur e u hg, hle, hm, by simpa using hs, ?_⟩
    rw [Nat.mul_one] at ht ⊢
    rw [← ht, Array.toList_setIfInBounds, List.take_set]

def RevRel (w : World) (base g n cap : Nat) (us : List Value) (i j : Value) (wr : World) : Prop :=
  ∃ k : Nat, 2 * k ≤ n ∧ i = .int .i64 k ∧ j = .int .i64 ((n : Int) - 1 - k) ∧ wr.ownsRow base 22 1 (.slice (some ⟨g, 0, none⟩) n cap) n (revTo us k) ∧ Keeps (fun b => b = g) w wr

set_option maxHeartbeats 1000000 in
theorem reverse_some (w : World) (base g n cap : Nat) (us : List Value) (h : w.ownsRow base 22 1 (.slice (some ⟨g, 0, none⟩) n cap) n us) (hs : ∀ u ∈ us, IsSlice u) (hn : n ≤ 1000) :
    Calls Try.prog 37 #[.slice (some ⟨g, 0, none⟩) n cap] w fun e w' => (∃ v, e = .returned v) ∧ w'.ownsRow base 22 1 (.slice (some ⟨g, 0, none⟩) n cap) n us.reverse ∧ Keeps (fun b => b = g) w w' := by
  have hul : us.length = n := by have := h.1; simpa using this
  have H := Lib.hid h
  have HS := Lib.hid hs
  have HUL := Lib.hid hul
  clear h hs hul
  go_enter Try.func37, Try.ntmps37
  go_wp2
  go_loopw [2, 3] (RevRel w base g n cap us) (fun i _ _ => n - (intOf i).toNat)
  case atStart => exact ⟨0, by omega, rfl, by first | rfl | (congr 1; omega) | simp, by rw [revTo_zero]; exact H.out, Keeps.refl _ _⟩
  case round =>
    obtain ⟨k, hk, rfl, rfl, hO, hK⟩ := hrel
    have HO := Lib.hid hO
    have HK := Lib.hid hK
    clear hO hK
    by_cases hlt : 2 * k + 1 < n
    · obtain ⟨m, hm⟩ : ∃ m, m + k + 1 = n := ⟨n - 1 - k, by omega⟩
      have hmi : (n : Int) - 1 - k = m := by omega
      have hkm : k < m := by omega
      rw [hmi]
      obtain ⟨x, hx⟩ : ∃ x, us[k]? = some x := ⟨_, List.getElem?_eq_getElem (by rw [HUL.out]; omega)⟩
      obtain ⟨y, hy⟩ : ∃ y, us[m]? = some y := ⟨_, List.getElem?_eq_getElem (by rw [HUL.out]; omega)⟩
      have hxr : (revTo us k)[k]? = some x := by rw [revTo_at (by rw [HUL.out]; omega), if_neg (by rw [HUL.out]; omega)]; exact hx
      have hyr : (revTo us k)[m]? = some y := by rw [revTo_at (by rw [HUL.out]; omega), if_neg (by rw [HUL.out]; omega)]; exact hy
      have ck := HO.out.cells (g := g) rfl k x hxr
      have cm := HO.out.cells (g := g) rfl m y hyr
      rw [addr_add, Nat.zero_add] at ck cm
      obtain ⟨xa, xn, xc, rfl⟩ := HS.out x (List.mem_of_getElem? hx)
      obtain ⟨ya, yn, yc, rfl⟩ := HS.out y (List.mem_of_getElem? hy)
      have fr : ∀ i, wr.frozen? ⟨g, i, none⟩ = false := fun i => by
        obtain ⟨cur, hc⟩ := own_tag HO.out (b := g) rfl
        exact frozen_of_row wr g i _ _ hc
      have fk := fr k
      have fm := fr m
      have HR : Hid ((((wr.setCell ⟨g, k, none⟩ (.slice ya yn yc)).setCell ⟨g, m, none⟩ (.slice xa xn xc))).ownsRow base 22 1 (.slice (some ⟨g, 0, none⟩) n cap) n (revTo us (k + 1))) := Lib.hid (by
        rw [revTo_succ (by rw [HUL.out]; omega) hkm hx hy]
        exact own_set (own_set HO.out (by omega) _) (by omega) _)
      have HKK : Hid (Keeps (fun b => b = g) w ((wr.setCell ⟨g, k, none⟩ (.slice ya yn yc)).setCell ⟨g, m, none⟩ (.slice xa xn xc))) := Lib.hid ((HK.out.setCell (p := ⟨g, k, none⟩) (fun _ => rfl) _).setCell (p := ⟨g, m, none⟩) (fun _ => rfl) _)
      have hne : (⟨g, k, none⟩ : Addr) ≠ ⟨g, m, none⟩ := fun e => by injection e; omega
      have hne' : k ≠ m := by omega
      have hk0 : (0 : Int) ≤ (k : Int) := by omega
      have hk1 : (k : Int) < (n : Int) := by omega
      have hm0 : (0 : Int) ≤ (m : Int) := by omega
      have hm1 : (m : Int) < (n : Int) := by omega
      have hkm' : (k : Int) < (m : Int) := by omega
      clear hx hy hxr hyr fr hmi
      go_wp2
      go_region
      all_goals
        go_wp2
        go_roundw
        case rel => exact ⟨k + 1, by omega, rfl, by first | rfl | (congr 1; omega) | (congr 1; push_cast; omega), ownsRow_keeps HR.out ((Keeps.refl (fun _ => False) _).drew) (fun _ _ x => x), HKK.out.drew⟩
        case measure => simp [intOf]; omega
    · have hd : decide ((k : Int) < (n : Int) - 1 - k) = false := decide_eq_false (by omega)
      have hge : ¬ (k : Int) < (n : Int) - 1 - k := by omega
      have HE : Hid (revTo us k = us.reverse) := Lib.hid (revTo_all (by rw [HUL.out]; omega) (by rw [HUL.out]; omega))
      go_wp2
      go_end0
      exact ⟨⟨_, rfl⟩, by rw [← HE.out]; exact HO.out, HK.out⟩

set_option maxHeartbeats 400000 in
theorem reverse_none (w : World) : Calls Try.prog 37 #[.slice none 0 0] w fun e w' => (∃ v, e = .returned v) ∧ w = w' := by
  go_enter Try.func37, Try.ntmps37
  go_wp2
  go_loopw [2, 3] (fun i j wr => i = .int .i64 0 ∧ j = .int .i64 (-1) ∧ w = wr) (fun _ _ _ => 0)
  case atStart => exact ⟨rfl, rfl, rfl⟩
  case round =>
    obtain ⟨rfl, rfl, rfl⟩ := hrel
    go_wp2
    go_end0
    exact ⟨⟨_, rfl⟩, rfl⟩

theorem reverse_any (w : World) (base n : Nat) (v : Value) (us : List Value) (h : w.ownsRow base 22 1 v n us) (hs : ∀ u ∈ us, IsSlice u) (hn : n ≤ 1000) :
    Calls Try.prog 37 #[v] w fun e w' => (∃ x, e = .returned x) ∧ w'.ownsRow base 22 1 v n us.reverse ∧ Keeps (fun b => v.ownBlock = some b) w w' := by
  rcases id h.2 with ⟨rfl, rfl⟩ | ⟨g, cap, cur, rfl, _⟩
  · have hu : us = [] := List.eq_nil_of_length_eq_zero (by have := h.1; simpa using this)
    subst hu
    exact (reverse_none w).mono fun e w' ⟨h1, h2⟩ => by subst h2; exact ⟨h1, h, Keeps.refl _ _⟩
  · exact (reverse_some w base g n cap us h hs hn).mono fun e w' ⟨h1, h2, h3⟩ => ⟨h1, h2, h3.mono fun b _ e => by subst e; rfl⟩

/-! ### turned -/
theorem Each.reverse {w : World} {lo hi : Nat} {us : List Value} {ls : List (List Int)} (h : Each w lo hi us ls) : Each w lo hi us.reverse ls.reverse := by
  refine ⟨by simp [h.1], fun i u l a b => ?_⟩
  have hi := (List.getElem?_eq_some_iff.1 a).1
  simp only [List.length_reverse] at hi
  rw [List.getElem?_reverse hi] at a
  rw [List.getElem?_reverse (by rw [← h.1]; exact hi), ← h.1] at b
  exact h.2 _ u l a b
theorem Each.slices {w : World} {lo hi : Nat} {us : List Value} {ls : List (List Int)} (h : Each w lo hi us ls) : ∀ u ∈ us, IsSlice u := by
  intro u hu
  obtain ⟨i, hi⟩ := List.mem_iff_getElem?.1 hu
  have hlt := (List.getElem?_eq_some_iff.1 hi).1
  exact (h.2 i u _ hi (List.getElem?_eq_getElem (by rw [← h.1]; exact hlt))).isSlice

set_option maxHeartbeats 400000 in
theorem turned_any (w : World) (lo hi : Nat) (v : Value) (ls : List (List Int)) (h : RowsT w lo hi v ls) (hhi : hi ≤ w.heap.size) (hl : ls.length ≤ 1000) :
    Calls Try.prog 32 #[v] w fun e w' => ∃ v', e = .returned v' ∧ OwnT w' w.heap.size lo v' ls.reverse ∧ Below w.heap.size w w' := by
  have HC := Lib.hid (clone2_any w lo hi v ls h hhi hl)
  have HL := Lib.hid hl
  clear h hhi hl
  go_enter Try.func32, Try.ntmps32
  go_wp2_with (go_at_call 36; refine HC.out.mono ?_; rintro e w1 ⟨v1, rfl, h1, h2⟩; have H1 := Lib.hid h1; have H2 := Lib.hid h2; clear h1 h2)
  obtain ⟨us, ho, he⟩ := H1.out
  have HO := Lib.hid ho
  have HE := Lib.hid he
  clear ho he
  refine (reverse_any w1 w.heap.size ls.length v1 us HO.out HE.out.slices HL.out).mono ?_
  rintro e w2 ⟨⟨x, rfl⟩, h3, h4⟩
  have H3 := Lib.hid h3
  have H4 := Lib.hid h4
  clear h3 h4
  go_wp2
  go_ret
  refine ⟨_, rfl, ⟨us.reverse, by rw [List.length_reverse]; exact H3.out, ?_⟩, H2.out.trans (H4.out.toBelow H2.out.size (fun k hk hb => by have := (HO.out.lt k hb).1; omega))⟩
  exact (HE.out.reverse.keepsOwn H4.out (fun b hb => intRow_ne_own HO.out hb)).mono (Nat.le_refl _) H4.out.size
end Go.Proofs.Ytappaadadkoamaa
