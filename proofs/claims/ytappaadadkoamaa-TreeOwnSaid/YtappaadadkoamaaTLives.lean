/- The document's example, 'lives': it answers true. -/
import Derived.Test.YtappaadadkoamaaTRefs
namespace Go.Proofs.Ytappaadadkoamaa
open Go.RowKit
set_option linter.unusedVariables false

theorem intsT_blk {w : World} {g : Nat} {lo hi : Nat} {zs : List Int} (hB : Blk w g 3 (zs.map (Value.int .i64))) (hl : zs.length ≤ 1000) (hw : (zs.all fun z => (Lit.int .i64 z).wf) = true) (hg : lo ≤ g ∧ g < hi) : IntsT w lo hi (.slice (some ⟨g, 0, none⟩) zs.length zs.length) zs := by
  refine ⟨⟨some ⟨g, 0, none⟩, zs.length, rfl, Nat.le_refl _, by omega, fun z hz => List.all_eq_true.1 hw z hz, fun x hx => by cases hx; exact hg, fun i z hz => ⟨g, 0, rfl, ?_⟩⟩, fun b hb => ?_⟩
  · rw [Nat.zero_add, hB.cell i]
    simp [hz]
  · simp [Value.ownBlock] at hb
    subst hb
    exact ⟨_, hB⟩

/-- Lists written out, one block each; then the row of them. -/
def litW (X : World) : List (List Int) → World
  | [] => X
  | zs :: r => litW (X.alloc (.cells (zs.map (Value.int .i64)).toArray 3)) r
def litV (n : Nat) : List (List Int) → List Value
  | [] => []
  | zs :: r => .slice (some ⟨n, 0, none⟩) zs.length zs.length :: litV (n + 1) r
def litR (X : World) (ls : List (List Int)) : World := (litW X ls).alloc (.cells (litV X.heap.size ls).toArray 22)
def litOK (ls : List (List Int)) : Bool := ls.all fun zs => decide (zs.length ≤ 1000) && zs.all fun z => (Lit.int .i64 z).wf
theorem lit_each : ∀ (ls : List (List Int)) (X : World), litOK ls = true → Each (litW X ls) X.heap.size (litW X ls).heap.size (litV X.heap.size ls) ls ∧ Below X.heap.size X (litW X ls) ∧ (litW X ls).heap.size = X.heap.size + ls.length
  | [], X, _ => ⟨Each.nil _ _ _, Below.refl _ _, rfl⟩
  | zs :: r, X, h => by
    have h' := h
    unfold litOK at h'
    rw [List.all_cons, Bool.and_eq_true, Bool.and_eq_true] at h'
    obtain ⟨⟨h1, h2⟩, h3⟩ := h'
    have hb : Below X.heap.size X (X.alloc (.cells (zs.map (Value.int .i64)).toArray 3)) := (Below.refl _ _).alloc (Nat.le_refl _) _
    have hs : (X.alloc (.cells (zs.map (Value.int .i64)).toArray 3)).heap.size = X.heap.size + 1 := by simp
    obtain ⟨e1, e2, e3⟩ := lit_each r (X.alloc (.cells (zs.map (Value.int .i64)).toArray 3)) h3
    rw [hs] at e1 e3
    have hi := intsT_blk (lo := X.heap.size) (hi := (X.alloc (.cells (zs.map (Value.int .i64)).toArray 3)).heap.size) (Blk.new X 3 (zs.map (Value.int .i64))) (of_decide_eq_true h1) h2 ⟨Nat.le_refl _, by rw [hs]; omega⟩
    have hi2 := (hi.below e2).mono (Nat.le_refl _) e2.size
    refine ⟨?_, hb.trans (e2.mono (by rw [hs]; omega)), by show (litW _ r).heap.size = _; rw [e3]; simp; omega⟩
    have := (Each.single hi2).append (e1.mono (by omega) (Nat.le_refl _))
    simpa [litV, litW] using this
theorem lit_rows (X : World) (ls : List (List Int)) (h : litOK ls = true) (hl : ls.length ≤ 1000) : RowsT (litR X ls) X.heap.size (litR X ls).heap.size (.slice (some ⟨X.heap.size + ls.length, 0, none⟩) ls.length ls.length) ls ∧ Below X.heap.size X (litR X ls) := by
  obtain ⟨e1, e2, e3⟩ := lit_each ls X h
  have hb : Below (litW X ls).heap.size (litW X ls) (litR X ls) := (Below.refl _ _).alloc (Nat.le_refl _) _
  have hB : Blk (litR X ls) (litW X ls).heap.size 22 (litV X.heap.size ls) := Blk.new _ _ _
  have hlen : (litV X.heap.size ls).length = ls.length := e1.1
  have ho := own_block (B := X.heap.size) hB (by rw [e3]; omega) (by rw [hlen]; exact hl)
  have he := (e1.keepsOwn (Keeps.below hb) (fun b hb x => by have := hb.lt; omega)).mono (Nat.le_refl _) hb.size
  rw [e3, hlen] at ho
  exact ⟨OwnT.rows ⟨_, ho, he⟩ (Nat.le_refl _), e2.trans (hb.mono e2.size)⟩

theorem ex_sets : setsOf [5, 3, 9] = [[5, 3, 9], [5, 3], [5], [3], [9]] := by decide
theorem ex_path : pathOf [5, 3, 9] 3 = [[3], [5, 3], [5, 3, 9]] := by decide
theorem ex_beside : besideOf [5, 3, 9] 3 = [[5], [9]] := by decide

set_option maxRecDepth 100000 in
set_option maxHeartbeats 2000000 in
theorem lives_any (w : World) : Calls Try.prog 18 #[] w fun e w' => e = .returned (.bool true) ∧ Below w.heap.size w w' := by
  obtain ⟨W1, hW1⟩ : ∃ W1, w.alloc (.cells #[.int .i64 5, .int .i64 3, .int .i64 9] 3) = W1 := ⟨_, rfl⟩
  have HB1 : Hid (Below w.heap.size w W1) := Lib.hid (by rw [← hW1]; exact (Below.refl w.heap.size w).alloc (Nat.le_refl _) _)
  have HI1 : Hid (IntsT W1 w.heap.size W1.heap.size (.slice (some ⟨w.heap.size, 0, none⟩) 3 3) [5, 3, 9]) := Lib.hid (by rw [← hW1]; exact intsT_blk (zs := [5, 3, 9]) (Blk.new w 3 _) (by simp) (by decide) ⟨Nat.le_refl _, by simp⟩)
  have HW1 := Lib.hid hW1
  clear hW1
  go_enter Try.func18, Try.ntmps18
  go_upto_region 2 with (fail)
  rw [HW1.out]
  go_wp2_with (go_at_call 12; refine (sets_any W1 w.heap.size W1.heap.size (.slice (some ⟨w.heap.size, 0, none⟩) 3 3) [5, 3, 9] HI1.out (by simp)).mono ?_; rintro e w2 ⟨v2, rfl, h2, hB2⟩; have H2 := Lib.hid h2; have HB2 := Lib.hid hB2; clear h2 hB2)
  have S2 : Hid (Calls Try.prog 13 #[v2, .slice (some ⟨w2.heap.size + 5, 0, none⟩) 5 5] (litR w2 [[5, 3, 9], [5, 3], [5], [3], [9]]) fun e w' => e = .returned (.bool true) ∧ Below W1.heap.size W1 w') := Lib.hid (by
    obtain ⟨r1, r2⟩ := lit_rows w2 [[5, 3, 9], [5, 3], [5], [3], [9]] (by decide) (by simp)
    have hm := HB2.out
    have hR := (OwnT.rows H2.out (Nat.le_refl _)).below r2
    rw [ex_sets] at hR
    refine (same2_any _ _ _ _ _ _ _ _ _ hR r1).mono fun e w' ⟨h1, h2⟩ => ⟨by simpa using h1, (hm.trans (r2.mono hm.size)).trans (h2.mono (Nat.le_trans hm.size r2.size))⟩)
  refine (S2.out).mono ?_
  rintro e w3 ⟨rfl, hB3⟩
  have HB3 := Lib.hid hB3
  have HI3 := Lib.hid (HI1.out.below hB3)
  have HL3 : Hid (W1.heap.size ≤ w3.heap.size) := Lib.hid hB3.size
  clear hB3 S2 H2 HB2
  go_wp2_with (go_at_call 20; refine (path_any w3 w.heap.size W1.heap.size (.slice (some ⟨w.heap.size, 0, none⟩) 3 3) [5, 3, 9] 3 HI3.out HL3.out (by simp)).mono ?_; rintro e w4 ⟨v4, rfl, h4, hB4⟩; have H4 := Lib.hid h4; have HB4 := Lib.hid hB4; clear h4 hB4)
  have S4 : Hid (Calls Try.prog 13 #[v4, .slice (some ⟨w4.heap.size + 3, 0, none⟩) 3 3] (litR w4 [[3], [5, 3], [5, 3, 9]]) fun e w' => e = .returned (.bool true) ∧ Below W1.heap.size W1 w') := Lib.hid (by
    obtain ⟨r1, r2⟩ := lit_rows w4 [[3], [5, 3], [5, 3, 9]] (by decide) (by simp)
    have hm := (HB3.out.trans (HB4.out.mono HB3.out.size))
    have hR := (OwnT.rows H4.out (Nat.le_refl _)).below r2
    rw [ex_path] at hR
    refine (same2_any _ _ _ _ _ _ _ _ _ hR r1).mono fun e w' ⟨h1, h2⟩ => ⟨by simpa using h1, (hm.trans (r2.mono hm.size)).trans (h2.mono (Nat.le_trans hm.size r2.size))⟩)
  refine (S4.out).mono ?_
  rintro e w5 ⟨rfl, hB5⟩
  have HB5 := Lib.hid hB5
  have HI5 := Lib.hid (HI1.out.below hB5)
  have HL5 : Hid (W1.heap.size ≤ w5.heap.size) := Lib.hid hB5.size
  clear hB5 S4 H4 HB4 HB3 HI3 HL3
  go_wp2_with (go_at_call 22; refine (beside_any w5 w.heap.size W1.heap.size (.slice (some ⟨w.heap.size, 0, none⟩) 3 3) [5, 3, 9] 3 HI5.out HL5.out (by simp)).mono ?_; rintro e w6 ⟨v6, rfl, h6, hB6⟩; have H6 := Lib.hid h6; have HB6 := Lib.hid hB6; clear h6 hB6)
  have S6 : Hid (Calls Try.prog 13 #[v6, .slice (some ⟨w6.heap.size + 2, 0, none⟩) 2 2] (litR w6 [[5], [9]]) fun e w' => e = .returned (.bool true) ∧ Below W1.heap.size W1 w') := Lib.hid (by
    obtain ⟨r1, r2⟩ := lit_rows w6 [[5], [9]] (by decide) (by simp)
    have hm := (HB5.out.trans (HB6.out.mono HB5.out.size))
    have hR := (OwnT.rows H6.out (Nat.le_refl _)).below r2
    rw [ex_beside] at hR
    refine (same2_any _ _ _ _ _ _ _ _ _ hR r1).mono fun e w' ⟨h1, h2⟩ => ⟨by simpa using h1, (hm.trans (r2.mono hm.size)).trans (h2.mono (Nat.le_trans hm.size r2.size))⟩)
  refine (S6.out).mono ?_
  rintro e w7 ⟨rfl, hB7⟩
  have HB7 := Lib.hid hB7
  clear hB7
  go_wp2
  go_ret
  exact ⟨rfl, HB1.out.trans (HB7.out.mono HB1.out.size)⟩
end Go.Proofs.Ytappaadadkoamaa
