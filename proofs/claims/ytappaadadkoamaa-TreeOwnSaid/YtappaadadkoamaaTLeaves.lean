/- The reference's Leaves: unlike numbers made of numbers, by its contract. -/
import Derived.Test.YtappaadadkoamaaTSmall
namespace Go.Proofs.Ytappaadadkoamaa
open Go.RowKit
set_option linter.unusedVariables false

def leafStep (acc : List Int) (z : Int) : List Int := if 1 + around z 20 ∈ acc then acc else acc ++ [1 + around z 20]
def leavesTo (zs : List Int) (k : Nat) : List Int := (zs.take k).foldl leafStep []
def leavesOf (zs : List Int) : List Int := leavesTo zs 14
theorem leavesTo_succ {zs : List Int} {k : Nat} {z : Int} (h : zs[k]? = some z) : leavesTo zs (k + 1) = leafStep (leavesTo zs k) z := by
  obtain ⟨hk, rfl⟩ := List.getElem?_eq_some_iff.1 h
  unfold leavesTo
  rw [List.take_succ_eq_append_getElem hk, List.foldl_append]
  rfl
theorem leafStep_good {acc : List Int} (h : acc.Nodup ∧ ∀ x ∈ acc, 1 ≤ x ∧ x ≤ 20) (z : Int) : (leafStep acc z).Nodup ∧ ∀ x ∈ leafStep acc z, 1 ≤ x ∧ x ≤ 20 := by
  have h1 := around_lo z 20 (by omega)
  have h2 := around_hi z 20 (by omega)
  unfold leafStep
  split
  · exact h
  · rename_i hn
    refine ⟨?_, fun x hx => ?_⟩
    · rw [List.nodup_append]
      exact ⟨h.1, by simp, fun a ha b hb => by simp only [List.mem_singleton] at hb; subst hb; exact fun e => hn (e ▸ ha)⟩
    · rcases List.mem_append.1 hx with hx | hx
      · exact h.2 x hx
      · simp only [List.mem_singleton] at hx; omega
theorem foldl_good : ∀ (l : List Int) (acc : List Int), (acc.Nodup ∧ ∀ x ∈ acc, 1 ≤ x ∧ x ≤ 20) → ((l.foldl leafStep acc).Nodup ∧ ∀ x ∈ l.foldl leafStep acc, 1 ≤ x ∧ x ≤ 20) ∧ (l.foldl leafStep acc).length ≤ acc.length + l.length
  | [], acc, h => ⟨h, by simp⟩
  | z :: r, acc, h => by
    obtain ⟨h1, h2⟩ := foldl_good r (leafStep acc z) (leafStep_good h z)
    refine ⟨h1, Nat.le_trans h2 ?_⟩
    have : (leafStep acc z).length ≤ acc.length + 1 := by unfold leafStep; split <;> simp
    simp; omega
theorem leavesTo_good (zs : List Int) (k : Nat) : (leavesTo zs k).Nodup ∧ (∀ x ∈ leavesTo zs k, 1 ≤ x ∧ x ≤ 20) ∧ (leavesTo zs k).length ≤ k := by
  obtain ⟨⟨h1, h2⟩, h3⟩ := foldl_good (zs.take k) [] ⟨by simp, by simp⟩
  refine ⟨h1, h2, Nat.le_trans h3 ?_⟩
  simp; omega
theorem leavesOf_nodup (zs : List Int) : (leavesOf zs).Nodup := (leavesTo_good zs 14).1
theorem leavesOf_range (zs : List Int) : ∀ x ∈ leavesOf zs, 1 ≤ x ∧ x ≤ 20 := (leavesTo_good zs 14).2.1
theorem leavesOf_len (zs : List Int) : (leavesOf zs).length ≤ 14 := (leavesTo_good zs 14).2.2

def LeafRel (w : World) (zs : List Int) (s i : Value) (wr : World) : Prop :=
  ∃ k : Nat, k ≤ zs.length ∧ k ≤ 14 ∧ i = .int .i64 k ∧ wr.ownsRow w.heap.size 3 1 s (leavesTo zs k).length ((leavesTo zs k).map (Value.int .i64)) ∧ Below w.heap.size w wr

theorem leaf_wf (zs : List Int) (k : Nat) : ∀ z ∈ leavesTo zs k, (Lit.int .i64 z).wf = true := fun z hz => by
  have := (leavesTo_good zs k).2.1 z hz
  exact WalkArith.wf_i64 (by omega)

set_option maxRecDepth 100000 in
set_option maxHeartbeats 1000000 in
theorem leaves_any (w : World) (v : Value) (zs : List Int) (h : ArgInts w v zs) :
    Calls Try.prog 11 #[v] w (NewInts w.heap.size (leavesOf zs) w) := by
  obtain ⟨i0, hi0, hz0, hz1, hz2⟩ := info_parts intInfo3
  obtain ⟨a, cap, rfl, h2, h3, h4, h6⟩ := h
  have hl : zs.length ≤ 9223372036854775807 := by omega
  have H4 := Lib.hid h4
  have H6 := Lib.hid h6
  have Hz0 := Lib.hid hz0
  have Hz1 := Lib.hid hz1
  have Hz2 := Lib.hid hz2
  have Hi0 := Lib.hid hi0
  clear h4 h6 hz0 hz1 hz2 hi0
  go_enter Try.func11, Try.ntmps11
  go_wp2
  go_loopw [3, 4] (LeafRel w zs) (fun _ i _ => zs.length - (intOf i).toNat)
  case atStart => exact ⟨0, Nat.zero_le _, by omega, rfl, World.ownsRow_nil w _ _ _, Below.refl _ _⟩
  case round =>
    obtain ⟨k, hk, h14, rfl, hO, hb⟩ := hrel
    obtain ⟨sa, sc, rfl⟩ := own_form hO
    have HO := Lib.hid hO
    have HB := Lib.hid hb
    clear hO hb
    obtain ⟨L, hL⟩ : ∃ L, L = leavesTo zs k := ⟨_, rfl⟩
    have hLl : L.length ≤ 14 := by rw [hL]; exact Nat.le_trans (leavesTo_good zs k).2.2 h14
    have HWF : Hid (∀ z ∈ L, (Lit.int .i64 z).wf = true) := Lib.hid (by rw [hL]; exact leaf_wf zs k)
    have HL := Lib.hid hL
    rw [← hL] at HO ⊢
    clear hL
    have HI : Hid (IntsT wr w.heap.size wr.heap.size (.slice sa L.length sc) L) := Lib.hid (IntsT.ofOwn HO.out HWF.out (Nat.le_refl _))
    by_cases hlt : k < zs.length ∧ k < 14
    · obtain ⟨hl1, hl2⟩ := hlt
      obtain ⟨z, hz⟩ : ∃ z, zs[k]? = some z := ⟨_, List.getElem?_eq_getElem hl1⟩
      obtain ⟨g, o, rfl, hc⟩ := H6.out k z hz
      have hcr : wr.cell? ⟨g, o + k, none⟩ = some (.int .i64 z) := by rw [HB.out.cell (p := ⟨g, o + k, none⟩) (World.block_lt_of_cell? _ _ hc)]; exact hc
      have HST := Lib.hid (leavesTo_succ hz)
      have HA := Lib.hid (around_any z 20 wr (H4.out z (List.mem_of_getElem? hz)) (by omega) (by omega))
      obtain ⟨n, hn⟩ : ∃ n, n = around z 20 := ⟨_, rfl⟩
      have hn0 := around_lo z 20 (by omega)
      have hn1 := around_hi z 20 (by omega)
      rw [← hn] at HA hn0 hn1
      have HN := Lib.hid hn
      clear hc hz hn
      by_cases hm : 1 + n ∈ L
      · have HH := Lib.hid (has_yes wr w.heap.size wr.heap.size (.slice sa L.length sc) L (1 + n) HI.out.1 hm)
        have HS : Hid (leavesTo zs (k + 1) = L) := Lib.hid (by rw [HST.out, ← HL.out, leafStep, if_pos (by rw [← HN.out]; exact hm)])
        clear hm
        go_wp2_with (first | (go_at_call 19; refine HA.out.mono ?_; rintro e w' ⟨rfl, rfl⟩) | (go_at_call 24; refine HH.out.mono ?_; rintro e w' ⟨rfl, rfl⟩))
        go_roundw
        case rel => exact ⟨k + 1, hl1, hl2, rfl, by rw [HS.out]; exact HO.out, HB.out⟩
        case measure => simp [intOf]; omega
      · have HH := Lib.hid (has_no wr w.heap.size wr.heap.size (.slice sa L.length sc) L (1 + n) HI.out.1 hm)
        have HS : Hid (leavesTo zs (k + 1) = L ++ [1 + n]) := Lib.hid (by rw [HST.out, ← HL.out, leafStep, if_neg (by rw [← HN.out]; exact hm), ← HN.out])
        clear hm
        go_wp2_with (first | (go_at_call 19; refine HA.out.mono ?_; rintro e w' ⟨rfl, rfl⟩) | (go_at_call 24; refine HH.out.mono ?_; rintro e w' ⟨rfl, rfl⟩) | (at_builtin; (refine wpL_append rfl (.tmp 26) (.tmp 28) 22 rfl w.heap.size 3 i0 (.int .i64 0) 1 8 Try.underlying22 Hi0.out Hz0.out Hz1.out Hz2.out rfl Nat.one_pos (.slice sa L.length sc) L.length (L.map (Value.int .i64)) rfl (HO.out.alloc _) ⟨wr.heap.size, 0, none⟩ 1 1 [.int .i64 (1 + n)] rfl rfl (fun j x hx => cell_add (Blk.new wr 3 [.int .i64 (1 + n)]) hx) ?q1 Nat.one_pos ?q2 ?q3 ?q4 ?_); rotate_right; intro v' w2 hown hg hv; have HO2 := Lib.hid hown; have HG2 := Lib.hid hg; clear hown hg hv))
        case q1 => simp [Value.oneCell']
        case q2 => unfold maxLen; omega
        case q3 => omega
        case q4 => have := HB.out.size; simp; omega
        go_roundw
        case rel => exact ⟨k + 1, hl1, hl2, rfl, by rw [HS.out]; simpa using HO2.out, (HB.out.alloc HB.out.size _).grown HG2.out (by have := HB.out.size; simp; omega) (fun b hb => (HO.out.lt b hb).1)⟩
        case measure => simp [intOf]; omega
    · have HE : Hid (L = leavesOf zs) := Lib.hid (by
        rw [HL.out]
        unfold leavesOf leavesTo
        rcases (show k = 14 ∨ k = zs.length by omega) with rfl | rfl
        · rfl
        · rw [List.take_of_length_le (Nat.le_refl _), List.take_of_length_le h14])
      by_cases hl1 : k < zs.length
      · obtain rfl : k = 14 := by omega
        go_wp2
        go_ret
        exact ⟨_, rfl, by rw [← HE.out]; exact HI.out, HB.out⟩
      · obtain rfl : k = zs.length := by omega
        go_wp2
        go_ret
        exact ⟨_, rfl, by rw [← HE.out]; exact HI.out, HB.out⟩
end Go.Proofs.Ytappaadadkoamaa
