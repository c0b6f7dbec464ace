/- LinkPlays, walked: it answers true, and changes nothing that was there. -/
import Derived.Test.YtmgjccalpdlbbaaPlain
import Derived.Test.YtmgjccalpdlbbaaLives
import Derived.Deep.RegionHeld3
namespace Go.Proofs.Ytmgjccalpdlbbaa
open Go.RowKit
set_option linter.unusedVariables false

theorem stepV_fit (x : Int) : (stepV x).dk = 4 ∨ (stepV x).dk = 5 → 1 ≤ (stepV x).n ∧ (stepV x).n ≤ 9223372036854775807 := by
  unfold stepV
  generalize around x 10000000 = k
  simp only [doOf]
  intro h
  have h0 : ¬ k % 6 = 0 := by intro e; simp [e] at h
  rw [if_neg h0]
  omega
theorem stepV_set (x : Int) : (stepV x).set.length ≤ 1000000 := by
  unfold stepV setOf
  simp only
  repeat' split
  all_goals simp
theorem stepsOf_fit (zs : List Int) : ∀ s ∈ stepsOf zs, s.dk = 4 ∨ s.dk = 5 → 1 ≤ s.n ∧ s.n ≤ 9223372036854775807 := by
  intro s hs
  obtain ⟨x, _, rfl⟩ := List.mem_map.1 hs
  exact stepV_fit x
theorem stepsOf_set (zs : List Int) : ∀ s ∈ stepsOf zs, s.set.length ≤ 1000000 := by
  intro s hs
  obtain ⟨x, _, rfl⟩ := List.mem_map.1 hs
  exact stepV_set x
theorem stepsOf_len (zs : List Int) : (stepsOf zs).length ≤ 6 := by simp [stepsOf]; omega
theorem roundsOf_len (zs : List Int) : (roundsOf zs).length ≤ 40 := by rw [roundsOf, roundsFrom_len]; simp; omega

theorem ints_take {w : World} {lo hi : Nat} {a : Option Addr} {n cap k : Nat} {zs : List Int} (h : IntsAt w lo hi (.slice a n cap) zs) (hk : k ≤ n) : IntsAt w lo hi (.slice a k cap) (zs.take k) := by
  obtain ⟨a', cap', he, p2, p3, p4, p5, p6⟩ := h
  simp at he
  obtain ⟨rfl, rfl, rfl⟩ := he
  have hl : (zs.take k).length = k := by simp; omega
  refine ⟨a, cap, by rw [hl], by omega, p3, fun z hz => p4 z (List.mem_of_mem_take hz), p5, fun i z hz => p6 i z ?_⟩
  rw [List.getElem?_take] at hz
  split at hz
  · exact hz
  · cases hz

def PlRel (w3 : World) (lo hi : Nat) (pbs : List Nat) (ss : List StepV) (all : List Int) (i : Value) (wr : World) : Prop :=
  ∃ k : Nat, k ≤ all.length ∧ i = .int .i64 k ∧ LinkAt wr lo hi lo pbs ((newOf ss).map (after (all.take k))) ∧ Keeps (fun b => lo ≤ b ∧ b < hi) w3 wr
def PlIn (w3 : World) (lo hi : Nat) (pbs : List Nat) (ss : List StepV) (ahead : List Int) (i : Value) (wr : World) : Prop :=
  ∃ j : Nat, j ≤ 14 ∧ i = .int .i64 j ∧ LinkAt wr lo hi lo pbs ((newOf ss).map (after ahead)) ∧ Keeps (fun b => lo ≤ b ∧ b < hi) w3 wr

set_option maxRecDepth 100000 in
set_option maxHeartbeats 4000000 in
theorem plays_walk (w : World) (v0 v1 : Value) (zs rs : List Int) (d : Int) (h0 : ArgInts w v0 zs) (h1 : ArgInts w v1 rs) (hd : (Lit.int .i64 d).wf = true) :
    Calls Try.prog 4 #[v0, v1, .int .i64 d] w fun e w' => e = .returned (.bool true) ∧ Below w.heap.size w w' := by
  have H0 := Lib.hid h0
  have H1 := Lib.hid h1
  have Hd := Lib.hid hd
  clear h0 h1 hd
  go_enter Try.func4, Try.ntmps4
  go_wp2_with fail
  refine (steps_any w v0 zs H0.out).mono ?_
  rintro e w1 ⟨vs, rfl, hS, hB⟩
  have HS := Lib.hid hS
  have HB1 := Lib.hid hB
  clear hS hB
  go_wp2_with fail
  refine (new_any w1 w.heap.size w1.heap.size vs (stepsOf zs) HS.out (Nat.le_refl _) (stepsOf_fit zs) (stepsOf_set zs) (by have := stepsOf_len zs; omega)).mono ?_
  rintro e w2 ⟨pbs, rfl, hL, hB⟩
  have HL := Lib.hid hL
  have HB2 := Lib.hid hB
  clear hL hB
  go_wp2_with fail
  refine (rounds_any w2 v1 rs (H1.out.below (HB1.out.trans (HB2.out.mono HB1.out.size)))).mono ?_
  rintro e w3 ⟨va, rfl, hA, hB⟩
  have HA := Lib.hid hA
  have HB3 := Lib.hid hB
  have HL3 : Hid (LinkAt w3 w1.heap.size w2.heap.size w1.heap.size pbs (newOf (stepsOf zs))) := Lib.hid (HL.out.keeps (Keeps.below hB) (fun b _ hb x => by omega))
  have HS3 : Hid (StepsAt w3 w.heap.size w1.heap.size vs (stepsOf zs)) := Lib.hid (HS.out.keeps (Keeps.below (HB2.out.trans (HB3.out.mono HB2.out.size))) (fun b _ hb x => by omega))
  have HB4 : Hid (Below w.heap.size w w3) := Lib.hid ((HB1.out.trans (HB2.out.mono HB1.out.size)).trans (HB3.out.mono (Nat.le_trans HB1.out.size HB2.out.size)))
  have S1 : Hid (w.heap.size ≤ w1.heap.size ∧ w1.heap.size ≤ w2.heap.size ∧ w2.heap.size ≤ w3.heap.size) := Lib.hid ⟨HB1.out.size, HB2.out.size, HB3.out.size⟩
  clear hA hB HL HS HB1 HB2 HB3 H0 H1
  obtain ⟨a, cap, hva, p2, p3, p4, p5, p6⟩ := id HA.out
  rw [hva] at HA ⊢
  have P5 := Lib.hid p5
  have P6 := Lib.hid p6
  have P4 := Lib.hid p4
  have hal := roundsOf_len rs
  clear p4 p5 p6 hva
  obtain ⟨all, hall⟩ : ∃ all, all = roundsOf rs := ⟨_, rfl⟩
  rw [← hall] at HA P4 P6 hal p2 ⊢
  clear hall
  obtain ⟨ss, hss⟩ : ∃ ss, ss = stepsOf zs := ⟨_, rfl⟩
  have HF : Hid (∀ s ∈ ss, s.dk = 4 ∨ s.dk = 5 → 1 ≤ s.n) := Lib.hid (by rw [hss]; exact fun s hs h => (stepsOf_fit zs s hs h).1)
  rw [← hss] at HL3 HS3
  clear hss
  have hal63 : all.length ≤ 9223372036854775807 := by omega
  go_wp2_with fail
  go_loopw [10] (PlRel w3 w1.heap.size w2.heap.size pbs ss all) (fun i _ => all.length - (intOf i).toNat)
  case atStart => exact ⟨0, Nat.zero_le _, rfl, by rw [List.take_zero, after_nil]; exact HL3.out, Keeps.refl _ _⟩
  case round =>
    obtain ⟨k, hk, rfl, hL, hK⟩ := hrel
    have HL := Lib.hid hL
    have HK := Lib.hid hK
    clear hL hK
    by_cases hlt : k < all.length
    · obtain ⟨r, hr⟩ : ∃ r, all[k]? = some r := ⟨_, List.getElem?_eq_getElem hlt⟩
      obtain ⟨g, o, rfl, hc⟩ := P6.out k r hr
      have hg : w2.heap.size ≤ g ∧ g < w3.heap.size := P5.out _ rfl
      have hc' : wr.cell? ⟨g, o + k, none⟩ = some (.int .i64 r) := by rw [HK.out.cell (p := ⟨g, o + k, none⟩) (World.block_lt_of_cell? _ _ hc) (by show ¬ (_ ≤ g ∧ g < _); omega)]; exact hc
      have HCW : Hid (w3.cell? ⟨g, o + k, none⟩ = some (.int .i64 r)) := Lib.hid hc
      have Hr := Lib.hid hr
      have Hg : Hid (w2.heap.size ≤ g ∧ g < wr.heap.size) := Lib.hid ⟨hg.1, Nat.lt_of_lt_of_le hg.2 HK.out.size⟩
      have hk0 : (0 : Int) ≤ (k : Int) := by omega
      have hk1 : (k : Int) < (all.length : Int) := by omega
      have hk2 : (k : Int) ≤ (cap : Int) := by omega
      clear hc hr hg
      go_upto_region 9 with (fail)
      have HLd : Hid (∀ n, LinkAt (wr.drewN n) w1.heap.size w2.heap.size w1.heap.size pbs ((newOf ss).map (after (all.take k)))) := Lib.hid (fun n => HL.out.keeps ((Keeps.refl (fun _ => False) wr).drewN n) (fun _ _ _ x => x))
      have HC : Hid (∀ f ∈ (newOf ss).map (after (all.take k)), f.count < 1000000) := Lib.hid (fun f hf => by have h1 := count_bd ss (all.take k) f hf; have h2 : (all.take k).length ≤ k := List.length_take_le _ _; omega)
      obtain ⟨V, hV⟩ : ∃ V, V = overOf ss (all.take k) r := ⟨_, rfl⟩
      have HV := Lib.hid hV
      clear hV
      have HOV : Hid (∀ W, LinkAt W w1.heap.size w2.heap.size w1.heap.size pbs ((newOf ss).map (after (all.take k))) → Calls Try.prog 11 #[.pointer (some ⟨w1.heap.size, 0, none⟩), .int .i64 r, .int .i64 d] W fun e w' => e = .returned (.int .i64 V) ∧ LinkAt w' w1.heap.size w2.heap.size w1.heap.size pbs ((newOf ss).map (after (all.take (k + 1)))) ∧ Keeps (fun b => w1.heap.size ≤ b ∧ b < w2.heap.size) W w') := Lib.hid (fun W hW => by
        have h := over_any W _ _ _ pbs _ r d hW HC.out
        rw [over_eq, ← map_after_snoc, ← HV.out] at h
        have e : all.take (k + 1) = all.take k ++ [r] := by obtain ⟨_, rfl⟩ := List.getElem?_eq_some_iff.1 Hr.out; exact List.take_succ_eq_append_getElem hlt
        rw [e]
        exact h)
      have HQ3 : Hid ((all.take k).length ≤ 1000000) := Lib.hid (by have h2 : (all.take k).length ≤ k := List.length_take_le _ _; omega)
      go_region_held3 (fun w' => w'.cell? ⟨g, o + k, none⟩ = some (.int .i64 r)) (first | go_keep | exact (HK4.out.cell (p := ⟨g, o + k, none⟩) Hg.out.2 (fun x => absurd x.2 (Nat.not_lt.2 Hg.out.1))).trans hc' | exact (HB5.out.cell (p := ⟨g, o + k, none⟩) (Nat.lt_of_lt_of_le Hg.out.2 HK4.out.size)).trans ((HK4.out.cell (p := ⟨g, o + k, none⟩) Hg.out.2 (fun x => absurd x.2 (Nat.not_lt.2 Hg.out.1))).trans hc')) (first | (go_at_call 11; refine (HOV.out _ (HLd.out _)).mono ?_; rintro e w4 ⟨rfl, hL, hK⟩; have HL4 := Lib.hid hL; have HK4 := Lib.hid hK; clear hL hK) | (go_at_call 15; have HW4 : Keeps (fun b => w1.heap.size ≤ b ∧ b < w2.heap.size) w3 w4 := (HK.out.drew).trans HK4.out; refine (rover_any w4 w.heap.size w1.heap.size w2.heap.size w3.heap.size vs (.slice (some ⟨g, o, none⟩) k cap) ss (all.take k) r (HS3.out.keeps HW4 (fun b _ hb x => by omega)) (by have := S1.out; have := HW4.size; omega) (ints_take (HA.out.keeps HW4 (fun b hb _ x => by omega)) (by omega)) HW4.size HF.out HQ3.out).mono ?_; rw [← HV.out]; rintro e w5 ⟨rfl, hB⟩; have HB5 := Lib.hid hB; clear hB))
      have HLI : Hid (LinkAt w5 w1.heap.size w2.heap.size w1.heap.size pbs ((newOf ss).map (after (all.take (k + 1))))) := Lib.hid (HL4.out.keeps (Keeps.below HB5.out) (fun b _ hb x => by have := S1.out; have := HK4.out.size; have h8 := HK.out.size; have h9 : wr.heap.size ≤ w4.heap.size := HK4.out.size; omega))
      have HKI : Hid (Keeps (fun b => w1.heap.size ≤ b ∧ b < w2.heap.size) w3 w5) := Lib.hid (((HK.out.drew).trans HK4.out).trans ((Keeps.below HB5.out).mono (fun b hb x => absurd hb (by omega))))
      have hc5 : w5.cell? ⟨g, o + k, none⟩ = some (.int .i64 r) := (HB5.out.cell (p := ⟨g, o + k, none⟩) (Nat.lt_of_lt_of_le Hg.out.2 HK4.out.size)).trans ((HK4.out.cell (p := ⟨g, o + k, none⟩) Hg.out.2 (fun x => absurd x.2 (Nat.not_lt.2 Hg.out.1))).trans hc')
      have Hg5 : Hid (w2.heap.size ≤ g ∧ g < w5.heap.size) := Lib.hid ⟨Hg.out.1, Nat.lt_of_lt_of_le Hg.out.2 (Nat.le_trans HK4.out.size HB5.out.size)⟩
      clear HL HLd HC HOV HL4 HB5 HK4 HK hc' hc5 Hg
      go_wp2_with fail
      go_loopw [11] (PlIn w3 w1.heap.size w2.heap.size pbs ss (all.take (k + 1))) (fun i _ => 14 - (intOf i).toNat)
      case atStart => exact ⟨0, by omega, rfl, HLI.out, HKI.out⟩
      case round =>
        obtain ⟨j, hj, rfl, hL, hK⟩ := hrel
        have HL := Lib.hid hL
        have HK := Lib.hid hK
        clear hL hK
        by_cases hj14 : j < 14
        · have hcj : wr.cell? ⟨g, o + k, none⟩ = some (.int .i64 r) := by
            have e1 := HKI.out.size
            have e2 := S1.out
            have e3 := HCW.out
            rw [HK.out.cell (p := ⟨g, o + k, none⟩) (World.block_lt_of_cell? _ _ e3) (fun x => absurd x.2 (Nat.not_lt.2 Hg5.out.1))]
            exact e3
          have hgw : Hid (g < wr.heap.size) := Lib.hid (World.block_lt_of_cell? _ _ hcj)
          obtain ⟨M, hM⟩ : ∃ M, M = metOf ss r (j : Int) := ⟨_, rfl⟩
          have HM := Lib.hid hM
          clear hM
          have HLM : Hid (∀ W, LinkAt W w1.heap.size w2.heap.size w1.heap.size pbs ((newOf ss).map (after (all.take (k + 1)))) → Calls Try.prog 16 #[.pointer (some ⟨w1.heap.size, 0, none⟩), .int .i64 r, .int .i64 (j : Int)] W fun e w' => e = .returned (.bool M) ∧ W = w') := Lib.hid (fun W hW => by
            have h := lmet_any W _ _ _ pbs _ r (j : Int) hW (WalkArith.wf_i64 (by omega))
            rw [met_eq, ← HM.out] at h
            exact h)
          go_upto_region 14 with (fail)
          go_region_held3 (fun w' => w'.cell? ⟨g, o + k, none⟩ = some (.int .i64 r)) (first | go_keep | exact (HB6.out.cell (p := ⟨g, o + k, none⟩) hgw.out).trans hcj) (first | (go_at_call 16; refine (HLM.out _ (HL.out.keeps ((Keeps.refl (fun _ => False) wr).drew) (fun _ _ _ x => x))).mono ?_; rintro e w6 ⟨rfl, rfl⟩) | (go_at_call 17; refine (rmet_any _ w.heap.size w1.heap.size vs ss r (j : Int) ((HS3.out.keeps HK.out (fun b _ hb x => by omega)).keeps ((Keeps.refl (fun _ => False) wr).drew) (fun _ _ _ x => x)) (by have h1 := S1.out; have h2 := HK.out.size; show _ ≤ wr.heap.size; omega)).mono ?_; rw [← HM.out]; rintro e w6 ⟨rfl, hB⟩; have HB6 : Hid (Below wr.heap.size wr w6) := Lib.hid (((Below.refl wr.heap.size wr).drew).trans hB); clear hB))
          go_wp2
          go_roundw
          case rel => exact ⟨j + 1, hj14, rfl, HL.out.keeps (Keeps.below HB6.out) (fun b _ hb x => by have h1 := S1.out; have h2 := HK.out.size; omega), HK.out.trans ((Keeps.below HB6.out).mono (fun b hb x => absurd hb (by omega)))⟩
          case measure => simp [intOf]; omega
        · obtain rfl : j = 14 := by omega
          go_wp2
          go_roundw
          case rel => exact ⟨k + 1, hlt, rfl, HL.out, HK.out⟩
          case measure => simp [intOf]; omega
    · obtain rfl : k = all.length := by omega
      rw [List.take_length] at HL
      obtain ⟨V, hV⟩ : ∃ V, V = quietOf ss := ⟨_, rfl⟩
      have HV := Lib.hid hV
      clear hV
      have HLQ : Hid (Calls Try.prog 18 #[.pointer (some ⟨w1.heap.size, 0, none⟩)] wr fun e w' => e = .returned (.int .i64 V) ∧ wr = w') := Lib.hid (by
        have h := lquiet_any wr _ _ _ pbs _ HL.out
        rw [quiet_eq, ← HV.out] at h
        exact h)
      go_wp2_with (first | (go_at_call 18; refine HLQ.out.mono ?_; rintro e w' ⟨rfl, rfl⟩) | (go_at_call 19; refine (rquiet_any _ w.heap.size w1.heap.size vs ss (HS3.out.keeps HK.out (fun b _ hb x => by omega)) (by have h1 := S1.out; have h2 := HK.out.size; omega)).mono ?_; rw [← HV.out]; rintro e w6 ⟨rfl, hB⟩; have HB6 := Lib.hid hB; clear hB) | (go_at_call 12; refine (lives_any _).mono ?_; rintro e w7 ⟨rfl, hB⟩; have HB7 := Lib.hid hB; clear hB))
      go_ret
      refine ⟨rfl, ?_⟩
      have h1 := S1.out
      have hb1 : Below w.heap.size w wr := HB4.out.trans (HK.out.toBelow (by omega) (fun b hb x => by omega))
      exact (hb1.trans (HB6.out.mono hb1.size)).trans (HB7.out.mono (Nat.le_trans hb1.size HB6.out.size))
end Go.Proofs.Ytmgjccalpdlbbaa
