/- LinkEach, walked: it answers true, and changes nothing that was there. -/
import Derived.Test.YtmgjccalpdlbbaaPlays
namespace Go.Proofs.Ytmgjccalpdlbbaa
open Go.RowKit
set_option linter.unusedVariables false

/-- The link of this statement, what it counted being c. -/
def eaFlt (dk E c : Int) : List Flt := [{ dk := dk, fr := 2, til := 9, each := E, set := fun _ => false, count := c }]

theorem ea_over (dk E c r : Int) (hdk : dk = 4 ∨ dk = 5) (h1 : 2 ≤ r) (h2 : r < 9) : overVal (eaFlt dk E c) r = if (c + 1) % E = 0 then (if dk = 4 then 0 else 2) else 1 := by
  unfold overVal eaFlt
  rcases hdk with rfl | rfl <;> by_cases h : (c + 1) % E = 0 <;> simp [Flt.lose, Flt.twice, Flt.hit, Flt.counts, Flt.there, h, h1, h2]
theorem ea_tick (dk E c r : Int) (hdk : dk = 4 ∨ dk = 5) (h1 : 2 ≤ r) (h2 : r < 9) : (eaFlt dk E c).map (Flt.tick r) = eaFlt dk E (c + 1) := by
  unfold eaFlt
  rcases hdk with rfl | rfl <;> simp [Flt.tick, Flt.counts, Flt.there, h1, h2]
theorem ea_over1 (dk E c : Int) : overVal (eaFlt dk E c) 1 = 1 := by
  unfold overVal eaFlt
  simp [Flt.lose, Flt.twice, Flt.hit, Flt.counts, Flt.there]
theorem ea_tick1 (dk E c : Int) : (eaFlt dk E c).map (Flt.tick 1) = eaFlt dk E c := by
  unfold eaFlt
  simp [Flt.tick, Flt.counts, Flt.there]

theorem ea_new (dk E : Int) (h : dk = 4 ∨ dk = 5) : newOf [⟨dk, 2, 9, E, []⟩] = eaFlt dk E 0 := by
  unfold newOf eaFlt
  rcases h with rfl | rfl <;> simp [toFlt]

theorem ea_any (W : World) (lo hi : Nat) (pbs : List Nat) (dk E c r d v c' : Int) (h : LinkAt W lo hi lo pbs (eaFlt dk E c)) (hc : c < 1000000) (hv : overVal (eaFlt dk E c) r = v) (hc' : (eaFlt dk E c).map (Flt.tick r) = eaFlt dk E c') :
    Calls Try.prog 11 #[.pointer (some ⟨lo, 0, none⟩), .int .i64 r, .int .i64 d] W fun e w' => e = .returned (.int .i64 v) ∧ LinkAt w' lo hi lo pbs (eaFlt dk E c') ∧ Keeps (fun b => lo ≤ b ∧ b < hi) W w' := by
  have := over_any W lo hi lo pbs (eaFlt dk E c) r d h (by intro f hf; simp [eaFlt] at hf; subst hf; exact hc)
  rwa [hv, hc'] at this

/-- How often E divides a number from 1 to c: one more just where it divides c + 1. -/
theorem div_step (c E : Int) (h0 : 0 ≤ c) (hE : 1 ≤ E) : (c + 1) / E = c / E + if (c + 1) % E = 0 then 1 else 0 := by
  have a1 := Int.mul_ediv_add_emod c E
  have a2 := Int.emod_nonneg c (show E ≠ 0 by omega)
  have a3 := Int.emod_lt_of_pos c (show 0 < E by omega)
  have a4 := Int.mul_ediv_add_emod (c + 1) E
  have a5 := Int.emod_nonneg (c + 1) (show E ≠ 0 by omega)
  have a6 := Int.emod_lt_of_pos (c + 1) (show 0 < E by omega)
  by_cases hl : c % E + 1 < E
  · have e1 : (c + 1) / E = c / E := by
      rw [Int.ediv_eq_iff_of_pos (by omega)]
      constructor
      · rw [Int.mul_comm]; omega
      · rw [Int.mul_comm]; omega
    have e2 : (c + 1) % E = c % E + 1 := by rw [e1] at a4; omega
    rw [e1, e2, if_neg (by omega)]; omega
  · have e0 : c % E = E - 1 := by omega
    have e1 : (c + 1) / E = c / E + 1 := by
      rw [Int.ediv_eq_iff_of_pos (by omega)]
      constructor
      · rw [Int.add_mul, Int.mul_comm]; omega
      · rw [Int.add_mul, Int.mul_comm]; omega
    have e2 : (c + 1) % E = 0 := by
      rw [e1, Int.mul_add] at a4
      omega
    rw [e1, e2, if_pos rfl]

theorem stepMk_set0 (dk fr til n x : Int) (sv : Value) : (stepMk dk fr til n sv).toList.set 0 (.int .i64 x) = (stepMk x fr til n sv).toList := rfl

def EaRel (w3 : World) (lo hi : Nat) (pbs : List Nat) (dk E s K : Int) (sum i : Value) (wr : World) : Prop :=
  ∃ c : Int, 0 ≤ c ∧ c ≤ K ∧ i = .int .i64 (c + 1) ∧ sum = .int .i64 (c + s * (c / E)) ∧ LinkAt wr lo hi lo pbs (eaFlt dk E c) ∧ Keeps (fun b => lo ≤ b ∧ b < hi) w3 wr

set_option maxRecDepth 100000 in
set_option maxHeartbeats 4000000 in
theorem each_lose (w : World) (n many : Int) (hn : (Lit.int .i64 n).wf = true) (hm : (Lit.int .i64 many).wf = true) :
    Calls Try.prog 3 #[.int .i64 n, .int .i64 many, .bool false] w fun e w' => e = .returned (.bool true) ∧ Below w.heap.size w w' := by
  have a1 := around_lo n 20 (by omega)
  have a2 := around_hi n 20 (by omega)
  obtain ⟨A, hA⟩ : ∃ A, A = around n 20 := ⟨_, rfl⟩
  rw [← hA] at a1 a2
  have HA := Lib.hid hA
  have k1 := around_lo many 61 (by omega)
  have k2 := around_hi many 61 (by omega)
  obtain ⟨K, hK⟩ : ∃ K, K = around many 61 := ⟨_, rfl⟩
  rw [← hK] at k1 k2
  have HK := Lib.hid hK
  have Hn := Lib.hid hn
  have Hm := Lib.hid hm
  clear hA hK hn hm
  go_enter Try.func3, Try.ntmps3
  go_wp2_with (first | (go_at_call 9; refine (around_any n 20 _ Hn.out (by omega) (by omega)).mono ?_; rintro e w' ⟨rfl, rfl⟩; rw [← HA.out]) | (refine wpList_store_blk rfl 38 (.tmp 8) (.tmp 19) rfl w.heap.size (stepMk 4 2 9 (1 + A) (.slice none 0 0)) rfl rfl 38 (stepMk 0 0 0 0 (.slice none 0 0)).toList (Blk.new w 38 (stepMk 0 0 0 0 (.slice none 0 0)).toList) stepInfo rfl (stepMk_one _ _ _ _ _ rfl) ?_))
  intro w1 B1 K1 S1
  have c0 := cell_of_blk B1 (stepMk_0 _ _ _ _ _)
  have z0 := B1.frozen 0
  have HB1 := Lib.hid B1
  have HS1 : Hid (w1.heap.size = w.heap.size + 1) := Lib.hid (by first | (rw [S1]; done) | (rw [S1]; simp))
  have HK1 : Hid (Below w.heap.size w w1) := Lib.hid (((Below.refl w.heap.size w).alloc (Nat.le_refl _) _).trans (K1.toBelow (by simp) (fun b hb e => by omega)))
  clear B1 K1 S1
  go_upto_region 7 with (fail)
  have HB2 : Hid (Blk w1 w.heap.size 38 (stepMk 4 2 9 (1 + A) (.slice none 0 0)).toList) := Lib.hid HB1.out
  have HK2 := Lib.hid HK1.out
  clear c0 z0 HB1 HK1
  go_wp2_with (first | (refine load_blk rfl 38 (.tmp 8) rfl w.heap.size rfl 38 (stepMk 4 2 9 (1 + A) (.slice none 0 0)) _ HB2.out Try.underlying38 rfl stepInfo ?_) | (refine wpL_buildOne rfl (.tmp 22) rfl (stepMk 4 2 9 (1 + A) (.slice none 0 0)) rfl rfl ?_; intro w2 B3 K3 S3; have HB3 := Lib.hid B3; have HK3 := Lib.hid K3; have HS3 := Lib.hid S3; clear B3 K3 S3) | fail)
  have HW2 : Hid (Below w.heap.size w w2) := Lib.hid (HK2.out.trans (HK3.out.toBelow (by have := HS1.out; first | omega | (simp; omega)) (fun _ _ x => x)))
  have HT : Hid (w.heap.size < w2.heap.size) := Lib.hid (by have h1 := HS3.out; have h2 := HS1.out; first | omega | (simp at h1; omega))
  have HB3' : Hid (Blk w2 w1.heap.size 38 (stepMk 4 2 9 (1 + A) (.slice none 0 0)).toList) := Lib.hid (by have h := HB3.out; exact h)
  have HSA := Lib.hid (stepsAt_one (lo := w.heap.size) (hi := w2.heap.size) HB3'.out (stepMk_arr (s := ⟨4, 2, 9, 1 + A, []⟩) (sv := .slice none 0 0) rfl (IntsAt.nil _ _ _)) (by have h1 := HS3.out; have h2 := HT.out; have := HS1.out; first | omega | (simp at h1; omega)))
  refine (new_any w2 w.heap.size w2.heap.size _ [⟨4, 2, 9, 1 + A, []⟩] HSA.out (Nat.le_refl _) (by simp; omega) (by simp) (by simp)).mono ?_
  rintro e w3 ⟨pbs, rfl, hL, hB⟩
  have HL : Hid (LinkAt w3 w2.heap.size w3.heap.size w2.heap.size pbs (eaFlt 4 (1 + A) 0)) := Lib.hid (by rw [← ea_new 4 (1 + A) (by decide)]; exact hL)
  have HB4 : Hid (Below w.heap.size w w3) := Lib.hid (HW2.out.trans (hB.mono HW2.out.size))
  clear hL hB HB2 HK2 HB3 HK3 HS3 HSA HS1 HW2
  go_wp2_with fail
  refine (ea_any _ _ _ pbs 4 (1 + A) 0 1 3 1 0 HL.out (by omega) (ea_over1 _ _ _) (ea_tick1 _ _ _)).mono ?_
  rintro e w4 ⟨rfl, hL, hK⟩
  have HL4 := Lib.hid hL
  have HB5 : Hid (Below w.heap.size w w4) := Lib.hid (HB4.out.trans (hK.toBelow HB4.out.size (fun b hb x => by have := HT.out; omega)))
  have HZ : Hid (w3.heap.size ≤ w4.heap.size) := Lib.hid hK.size
  clear hL hK HB4 HL
  go_wp2_with (go_at_call 9; refine (around_any many 61 _ Hm.out (by omega) (by omega)).mono ?_; rintro e w' ⟨rfl, rfl⟩; rw [← HK.out])
  go_loopw [12, 13] (EaRel w4 w2.heap.size w3.heap.size pbs 4 (1 + A) (-1) K) (fun _ i _ => (K + 1 - intOf i).toNat)
  case atStart => exact ⟨0, by omega, k1, rfl, by simp, HL4.out, Keeps.refl _ _⟩
  case round =>
    obtain ⟨c, c0, c1, rfl, rfl, hL, hK'⟩ := hrel
    have HL := Lib.hid hL
    have HKr := Lib.hid hK'
    clear hL hK'
    have d1 : 0 ≤ c / (1 + A) := Int.ediv_nonneg c0 (by omega)
    have d2 : c / (1 + A) ≤ c := Int.ediv_le_self _ c0
    have hds := div_step c (1 + A) c0 (by omega)
    obtain ⟨D, hD⟩ : ∃ D, D = c / (1 + A) := ⟨_, rfl⟩
    rw [← hD] at d1 d2 hds ⊢
    have HD := Lib.hid hD
    have Hds := Lib.hid hds
    clear hD hds
    by_cases hlt : c + 1 ≤ K
    · have r1 : 0 ≤ (c + 1) / 10 ∧ (c + 1) / 10 ≤ 6 := by omega
      obtain ⟨r1, r2⟩ := r1
      have m0 : 0 ≤ c + 1 := by omega
      by_cases hm : (c + 1) % (1 + A) = 0
      · have HV : Hid (overVal (eaFlt 4 (1 + A) c) (2 + (c + 1) / 10) = 0) := Lib.hid (by rw [ea_over _ _ _ _ (by omega) (by omega) (by omega), if_pos hm]; rfl)
        have hm1 : ((c + 1) % (1 + A) == 0) = true := by simpa using hm
        have hm2 : ((c + 1) % (1 + A) != 0) = false := by simpa using hm
        have HN : Hid ((c + 1) / (1 + A) = D + 1) := Lib.hid (by rw [Hds.out, if_pos hm])
        clear hm
        go_wp2_with (go_at_call 11; refine (ea_any _ _ _ pbs 4 (1 + A) c (2 + (c + 1) / 10) (c + 1) 0 (c + 1) HL.out (by omega) HV.out (ea_tick _ _ _ _ (by omega) (by omega) (by omega))).mono ?_; rintro e w5 ⟨rfl, hL5, hK5⟩; have HL5 := Lib.hid hL5; have HK5 := Lib.hid hK5; clear hL5 hK5)
        go_roundw
        case rel => exact ⟨c + 1, by omega, by omega, rfl, by rw [HN.out]; congr 1; omega, HL5.out, HKr.out.trans HK5.out⟩
        case measure => simp [intOf]; omega
      · have HV : Hid (overVal (eaFlt 4 (1 + A) c) (2 + (c + 1) / 10) = 1) := Lib.hid (by rw [ea_over _ _ _ _ (by omega) (by omega) (by omega), if_neg hm])
        have hm1 : ((c + 1) % (1 + A) == 0) = false := by simpa using hm
        have hm2 : ((c + 1) % (1 + A) != 0) = true := by simpa using hm
        have HN : Hid ((c + 1) / (1 + A) = D) := Lib.hid (by rw [Hds.out, if_neg hm]; omega)
        clear hm
        go_wp2_with (go_at_call 11; refine (ea_any _ _ _ pbs 4 (1 + A) c (2 + (c + 1) / 10) (c + 1) 1 (c + 1) HL.out (by omega) HV.out (ea_tick _ _ _ _ (by omega) (by omega) (by omega))).mono ?_; rintro e w5 ⟨rfl, hL5, hK5⟩; have HL5 := Lib.hid hL5; have HK5 := Lib.hid hK5; clear hL5 hK5)
        go_roundw
        case rel => exact ⟨c + 1, by omega, by omega, rfl, by rw [HN.out]; congr 1; omega, HL5.out, HKr.out.trans HK5.out⟩
        case measure => simp [intOf]; omega
    · obtain rfl : c = K := by omega
      have hdd : c / (1 + A) = D := HD.out.symm
      go_wp2_with (go_at_call 12; refine (lives_any _).mono ?_; rintro e w7 ⟨rfl, hB⟩; have HB7 := Lib.hid hB; clear hB)
      go_ret
      have hb1 : Below w.heap.size w wr := HB5.out.trans (HKr.out.toBelow HB5.out.size (fun b hb x => by have := HT.out; omega))
      exact ⟨rfl, hb1.trans (HB7.out.mono hb1.size)⟩

set_option maxRecDepth 100000 in
set_option maxHeartbeats 4000000 in
theorem each_twice (w : World) (n many : Int) (hn : (Lit.int .i64 n).wf = true) (hm : (Lit.int .i64 many).wf = true) :
    Calls Try.prog 3 #[.int .i64 n, .int .i64 many, .bool true] w fun e w' => e = .returned (.bool true) ∧ Below w.heap.size w w' := by
  have a1 := around_lo n 20 (by omega)
  have a2 := around_hi n 20 (by omega)
  obtain ⟨A, hA⟩ : ∃ A, A = around n 20 := ⟨_, rfl⟩
  rw [← hA] at a1 a2
  have HA := Lib.hid hA
  have k1 := around_lo many 61 (by omega)
  have k2 := around_hi many 61 (by omega)
  obtain ⟨K, hK⟩ : ∃ K, K = around many 61 := ⟨_, rfl⟩
  rw [← hK] at k1 k2
  have HK := Lib.hid hK
  have Hn := Lib.hid hn
  have Hm := Lib.hid hm
  clear hA hK hn hm
  go_enter Try.func3, Try.ntmps3
  go_wp2_with (first | (go_at_call 9; refine (around_any n 20 _ Hn.out (by omega) (by omega)).mono ?_; rintro e w' ⟨rfl, rfl⟩; rw [← HA.out]) | (refine wpList_store_blk rfl 38 (.tmp 8) (.tmp 19) rfl w.heap.size (stepMk 4 2 9 (1 + A) (.slice none 0 0)) rfl rfl 38 (stepMk 0 0 0 0 (.slice none 0 0)).toList (Blk.new w 38 (stepMk 0 0 0 0 (.slice none 0 0)).toList) stepInfo rfl (stepMk_one _ _ _ _ _ rfl) ?_))
  intro w1 B1 K1 S1
  have c0 := cell_of_blk B1 (stepMk_0 _ _ _ _ _)
  have z0 := B1.frozen 0
  have HB1 := Lib.hid B1
  have HS1 : Hid (w1.heap.size = w.heap.size + 1) := Lib.hid (by first | (rw [S1]; done) | (rw [S1]; simp))
  have HK1 : Hid (Below w.heap.size w w1) := Lib.hid (((Below.refl w.heap.size w).alloc (Nat.le_refl _) _).trans (K1.toBelow (by simp) (fun b hb e => by omega)))
  clear B1 K1 S1
  go_upto_region 7 with (fail)
  have HB2 : Hid (Blk (w1.setCell ⟨w.heap.size, 0, none⟩ (.int .i64 5)) w.heap.size 38 (stepMk 5 2 9 (1 + A) (.slice none 0 0)).toList) := Lib.hid (by have h := HB1.out.set 0 (.int .i64 5); rw [stepMk_set0] at h; exact h)
  have HK2 := Lib.hid (HK1.out.setCell (p := ⟨w.heap.size, 0, none⟩) (Nat.le_refl _) (.int .i64 5))
  clear c0 z0 HB1 HK1
  go_wp2_with (first | (refine load_blk rfl 38 (.tmp 8) rfl w.heap.size rfl 38 (stepMk 5 2 9 (1 + A) (.slice none 0 0)) _ HB2.out Try.underlying38 rfl stepInfo ?_) | (refine wpL_buildOne rfl (.tmp 22) rfl (stepMk 5 2 9 (1 + A) (.slice none 0 0)) rfl rfl ?_; intro w2 B3 K3 S3; have HB3 := Lib.hid B3; have HK3 := Lib.hid K3; have HS3 := Lib.hid S3; clear B3 K3 S3) | fail)
  have HW2 : Hid (Below w.heap.size w w2) := Lib.hid (HK2.out.trans (HK3.out.toBelow (by have := HS1.out; first | omega | (simp; omega)) (fun _ _ x => x)))
  have HT : Hid (w.heap.size < w2.heap.size) := Lib.hid (by have h1 := HS3.out; have h2 := HS1.out; first | omega | (simp at h1; omega))
  have HB3' : Hid (Blk w2 w1.heap.size 38 (stepMk 5 2 9 (1 + A) (.slice none 0 0)).toList) := Lib.hid (by have h := HB3.out; simp only [World.size_setCell] at h; exact h)
  have HSA := Lib.hid (stepsAt_one (lo := w.heap.size) (hi := w2.heap.size) HB3'.out (stepMk_arr (s := ⟨5, 2, 9, 1 + A, []⟩) (sv := .slice none 0 0) rfl (IntsAt.nil _ _ _)) (by have h1 := HS3.out; have h2 := HT.out; have := HS1.out; first | omega | (simp at h1; omega)))
  refine (new_any w2 w.heap.size w2.heap.size _ [⟨5, 2, 9, 1 + A, []⟩] HSA.out (Nat.le_refl _) (by simp; omega) (by simp) (by simp)).mono ?_
  rintro e w3 ⟨pbs, rfl, hL, hB⟩
  have HL : Hid (LinkAt w3 w2.heap.size w3.heap.size w2.heap.size pbs (eaFlt 5 (1 + A) 0)) := Lib.hid (by rw [← ea_new 5 (1 + A) (by decide)]; exact hL)
  have HB4 : Hid (Below w.heap.size w w3) := Lib.hid (HW2.out.trans (hB.mono HW2.out.size))
  clear hL hB HB2 HK2 HB3 HK3 HS3 HSA HS1 HW2
  go_wp2_with fail
  refine (ea_any _ _ _ pbs 5 (1 + A) 0 1 3 1 0 HL.out (by omega) (ea_over1 _ _ _) (ea_tick1 _ _ _)).mono ?_
  rintro e w4 ⟨rfl, hL, hK⟩
  have HL4 := Lib.hid hL
  have HB5 : Hid (Below w.heap.size w w4) := Lib.hid (HB4.out.trans (hK.toBelow HB4.out.size (fun b hb x => by have := HT.out; omega)))
  have HZ : Hid (w3.heap.size ≤ w4.heap.size) := Lib.hid hK.size
  clear hL hK HB4 HL
  go_wp2_with (go_at_call 9; refine (around_any many 61 _ Hm.out (by omega) (by omega)).mono ?_; rintro e w' ⟨rfl, rfl⟩; rw [← HK.out])
  go_loopw [12, 13] (EaRel w4 w2.heap.size w3.heap.size pbs 5 (1 + A) (1) K) (fun _ i _ => (K + 1 - intOf i).toNat)
  case atStart => exact ⟨0, by omega, k1, rfl, by simp, HL4.out, Keeps.refl _ _⟩
  case round =>
    obtain ⟨c, c0, c1, rfl, rfl, hL, hK'⟩ := hrel
    have HL := Lib.hid hL
    have HKr := Lib.hid hK'
    clear hL hK'
    have d1 : 0 ≤ c / (1 + A) := Int.ediv_nonneg c0 (by omega)
    have d2 : c / (1 + A) ≤ c := Int.ediv_le_self _ c0
    have hds := div_step c (1 + A) c0 (by omega)
    obtain ⟨D, hD⟩ : ∃ D, D = c / (1 + A) := ⟨_, rfl⟩
    rw [← hD] at d1 d2 hds ⊢
    have HD := Lib.hid hD
    have Hds := Lib.hid hds
    clear hD hds
    by_cases hlt : c + 1 ≤ K
    · have r1 : 0 ≤ (c + 1) / 10 ∧ (c + 1) / 10 ≤ 6 := by omega
      obtain ⟨r1, r2⟩ := r1
      have m0 : 0 ≤ c + 1 := by omega
      by_cases hm : (c + 1) % (1 + A) = 0
      · have HV : Hid (overVal (eaFlt 5 (1 + A) c) (2 + (c + 1) / 10) = 2) := Lib.hid (by rw [ea_over _ _ _ _ (by omega) (by omega) (by omega), if_pos hm]; rfl)
        have hm1 : ((c + 1) % (1 + A) == 0) = true := by simpa using hm
        have hm2 : ((c + 1) % (1 + A) != 0) = false := by simpa using hm
        have HN : Hid ((c + 1) / (1 + A) = D + 1) := Lib.hid (by rw [Hds.out, if_pos hm])
        clear hm
        go_wp2_with (go_at_call 11; refine (ea_any _ _ _ pbs 5 (1 + A) c (2 + (c + 1) / 10) (c + 1) 2 (c + 1) HL.out (by omega) HV.out (ea_tick _ _ _ _ (by omega) (by omega) (by omega))).mono ?_; rintro e w5 ⟨rfl, hL5, hK5⟩; have HL5 := Lib.hid hL5; have HK5 := Lib.hid hK5; clear hL5 hK5)
        go_roundw
        case rel => exact ⟨c + 1, by omega, by omega, rfl, by rw [HN.out]; congr 1; omega, HL5.out, HKr.out.trans HK5.out⟩
        case measure => simp [intOf]; omega
      · have HV : Hid (overVal (eaFlt 5 (1 + A) c) (2 + (c + 1) / 10) = 1) := Lib.hid (by rw [ea_over _ _ _ _ (by omega) (by omega) (by omega), if_neg hm])
        have hm1 : ((c + 1) % (1 + A) == 0) = false := by simpa using hm
        have hm2 : ((c + 1) % (1 + A) != 0) = true := by simpa using hm
        have HN : Hid ((c + 1) / (1 + A) = D) := Lib.hid (by rw [Hds.out, if_neg hm]; omega)
        clear hm
        go_wp2_with (go_at_call 11; refine (ea_any _ _ _ pbs 5 (1 + A) c (2 + (c + 1) / 10) (c + 1) 1 (c + 1) HL.out (by omega) HV.out (ea_tick _ _ _ _ (by omega) (by omega) (by omega))).mono ?_; rintro e w5 ⟨rfl, hL5, hK5⟩; have HL5 := Lib.hid hL5; have HK5 := Lib.hid hK5; clear hL5 hK5)
        go_roundw
        case rel => exact ⟨c + 1, by omega, by omega, rfl, by rw [HN.out]; congr 1; omega, HL5.out, HKr.out.trans HK5.out⟩
        case measure => simp [intOf]; omega
    · obtain rfl : c = K := by omega
      have hdd : c / (1 + A) = D := HD.out.symm
      go_wp2_with (go_at_call 12; refine (lives_any _).mono ?_; rintro e w7 ⟨rfl, hB⟩; have HB7 := Lib.hid hB; clear hB)
      go_ret
      have hb1 : Below w.heap.size w wr := HB5.out.trans (HKr.out.toBelow HB5.out.size (fun b hb x => by have := HT.out; omega))
      exact ⟨rfl, hb1.trans (HB7.out.mono hb1.size)⟩

end Go.Proofs.Ytmgjccalpdlbbaa
