/- TreeSets, walked: it answers true, and changes nothing that was there. -/
import Derived.Test.YtappaadadkoamaaTLives
namespace Go.Proofs.Ytappaadadkoamaa
open Go.RowKit
set_option linter.unusedVariables false

theorem setsF_mem : ∀ (f : Nat) (zs x : List Int), x ∈ setsF f zs → x.length ≤ zs.length ∧ 1 ≤ x.length
  | 0, zs, x, h => by simp [setsF] at h
  | f + 1, zs, x, h => by
    unfold setsF at h
    split at h
    · simp at h
    · rename_i h0
      obtain ⟨k1, k2⟩ := kidsOf_len zs h0
      rcases List.mem_cons.1 h with rfl | h
      · omega
      · rcases List.mem_append.1 h with h | h
        · have := setsF_mem f _ x h; omega
        · have := setsF_mem f _ x h; omega
theorem setsOf_mem {zs x : List Int} (h : x ∈ setsOf zs) : x.length ≤ zs.length ∧ 1 ≤ x.length := setsF_mem 16 zs x h

def WalkRel (w : World) (n : Nat) (i : Value) (wr : World) : Prop := ∃ k : Nat, k ≤ n ∧ i = .int .i64 k ∧ Below w.heap.size w wr

set_option maxRecDepth 100000 in
set_option maxHeartbeats 4000000 in
theorem treesets_walk (w : World) (v : Value) (l : List Int) (h : ArgInts w v l) :
    Calls Try.prog 3 #[v] w fun e w' => e = .returned (.bool true) ∧ Below w.heap.size w w' := by
  obtain ⟨i1, hi1, _, hy1, _⟩ := info_parts intInfo3
  have HP1 := Lib.hid (fun a n cap k hk => run_slice_pre (P := Try.prog) 22 3 i1 Try.underlying22 hi1 a n cap k hk)
  have HP2 := Lib.hid (fun a n cap k hk => run_slice_suf (P := Try.prog) 22 3 i1 Try.underlying22 hi1 a n cap k hk)
  have HY1 := Lib.hid hy1
  have H := Lib.hid h
  clear h hi1 hy1
  go_enter Try.func3, Try.ntmps3
  go_wp2_with fail
  refine (leaves_any w v l H.out).mono ?_
  rintro e w1 ⟨vl, rfl, hI, hB⟩
  have HI1 := Lib.hid hI
  have HB1 := Lib.hid hB
  clear hI hB
  obtain ⟨zs, hzs⟩ : ∃ zs, zs = leavesOf l := ⟨_, rfl⟩
  have hz14 : zs.length ≤ 14 := by rw [hzs]; exact leavesOf_len l
  rw [← hzs] at HI1
  clear hzs
  go_wp2_with fail
  refine (sets_any w1 w.heap.size w1.heap.size vl zs HI1.out (by omega)).mono ?_
  rintro e w2 ⟨va, rfl, hT, hB⟩
  have HT2 := Lib.hid hT
  have HB2 := Lib.hid hB
  clear hT hB
  go_wp2_with fail
  refine (rsets_any 15 w2 w.heap.size w1.heap.size vl zs (by omega) (by omega) (HI1.out.below HB2.out) HB2.out.size (Nat.le_trans HB1.out.size HB2.out.size)).mono ?_
  rintro e w3 ⟨vr, rfl, hT, hB⟩
  have HT3 := Lib.hid hT
  have HB3 := Lib.hid hB
  clear hT hB
  obtain ⟨S, hS⟩ : ∃ S, S = setsOf zs := ⟨_, rfl⟩
  have HMem : Hid (∀ x ∈ S, x.length ≤ 14 ∧ 1 ≤ x.length) := Lib.hid (fun x hx => by rw [hS] at hx; have := setsOf_mem hx; omega)
  have HSL : Hid (S.length ≤ 100) := Lib.hid (by rw [hS]; have := setsF_len 16 zs; unfold setsOf; omega)
  have hS' : setsF (15 + 1) zs = S := hS.symm
  rw [← hS] at HT2
  rw [hS'] at HT3
  clear hS hS'
  have HR2 : Hid (RowsT w3 w1.heap.size w3.heap.size va S) := Lib.hid (((OwnT.rows HT2.out (Nat.le_refl _)).below HB3.out).mono (Nat.le_refl _) HB3.out.size)
  have HR3 : Hid (RowsT w3 w.heap.size w3.heap.size vr S) := Lib.hid (OwnT.rows HT3.out (Nat.le_trans HB1.out.size HB2.out.size))
  have HBW : Hid (Below w.heap.size w w3) := Lib.hid ((HB1.out.trans (HB2.out.mono HB1.out.size)).trans (HB3.out.mono (Nat.le_trans HB1.out.size HB2.out.size)))
  clear HT2 HT3 HB1 HB2 HB3 HI1 H
  go_wp2_with fail
  refine (same2_any w3 _ _ _ _ va vr S S HR2.out HR3.out).mono ?_
  rw [show decide (S = S) = true from decide_eq_true rfl]
  rintro e w4 ⟨rfl, hB⟩
  have HR4 : Hid (RowsT w4 w1.heap.size w4.heap.size va S) := Lib.hid ((HR2.out.below hB).mono (Nat.le_refl _) hB.size)
  have HBW4 : Hid (Below w.heap.size w w4) := Lib.hid (HBW.out.trans (hB.mono HBW.out.size))
  clear hB HR2 HR3 HBW
  obtain ⟨sa, sc, rfl, hs1, hs2⟩ := HR4.out.form
  have h63 : S.length ≤ 9223372036854775807 := by omega
  go_wp2_with fail
  go_loopw [5] (WalkRel w4 S.length) (fun i _ => S.length - (intOf i).toNat)
  case atStart => exact ⟨0, Nat.zero_le _, rfl, Below.refl _ _⟩
  case round =>
    obtain ⟨k, hk, rfl, hb⟩ := hrel
    have HB := Lib.hid hb
    clear hb
    by_cases hlt : k < S.length
    · obtain ⟨x, hx⟩ : ∃ x, S[k]? = some x := ⟨_, List.getElem?_eq_getElem hlt⟩
      obtain ⟨hx14, hx1⟩ := HMem.out x (List.mem_of_getElem? hx)
      obtain ⟨g, o, u, rfl, hc, hI⟩ := (HR4.out.below HB.out).at' hx
      obtain ⟨xa, xc, rfl, hxc, _⟩ := hI.form
      have HI := Lib.hid hI
      have hgl := World.block_lt_of_cell? _ _ hc
      have HC := Lib.hid hc
      have hk0 : (0 : Int) ≤ (k : Int) := by omega
      have hk1 : (k : Int) < (S.length : Int) := by omega
      clear hx hI
      obtain ⟨k1, hk1'⟩ : ∃ k1, k1 = (kidsOf x).1 := ⟨_, rfl⟩
      obtain ⟨k2, hk2'⟩ : ∃ k2, k2 = (kidsOf x).2 := ⟨_, rfl⟩
      have HKa := Lib.hid hk1'
      have HKb := Lib.hid hk2'
      clear hk1' hk2'
      go_upto_region 9 with (go_at_call 15; refine (kids_any wr w1.heap.size w4.heap.size (.slice xa x.length xc) x HI.out (by omega)).mono ?_; rintro e w5 ⟨one, two, rfl, q1, q2, hB⟩; rw [← HKa.out] at q1; rw [← HKb.out] at q2; obtain ⟨a1, c1, rfl, _, _⟩ := q1.form; obtain ⟨a2, c2, rfl, _, _⟩ := q2.form; have hc5 : w5.cell? ⟨g, o + k, none⟩ = some (.slice xa x.length xc) := (hB.cell (p := ⟨g, o + k, none⟩) hgl).trans HC.out; have HQ1 := Lib.hid q1; have HQ2 := Lib.hid q2; have HB5 := Lib.hid hB; clear q1 q2 hB hc)
      have HBR : Hid (∀ q, Below w4.heap.size w4 (w5.drewN q)) := Lib.hid (fun q => by
        have h := HB.out.trans (HB5.out.mono HB.out.size)
        exact ⟨h.os, h.tape, h.output, h.size, h.block⟩)
      have HIx : Hid (IntsT w5 w1.heap.size w4.heap.size (.slice xa x.length xc) x) := Lib.hid (HI.out.below HB5.out)
      by_cases hx2 : x.length < 2
      · have e1 : k1 = [] := by rw [HKa.out, kidsOf, if_pos hx2]
        have e2 : k2 = [] := by rw [HKb.out, kidsOf, if_pos hx2]
        subst e1 e2
        have hl1 : x.length = 1 := by omega
        have HL1 := Lib.hid hl1
        clear HKa HKb hl1
        go_wp2
        go_roundw
        case rel => exact ⟨k + 1, hlt, rfl, HBR.out 0⟩
        case measure => simp [intOf]; omega
      · obtain ⟨m, hm⟩ : ∃ m, m = leftOf x.length := ⟨_, rfl⟩
        have hm1 : m < x.length := by rw [hm]; exact leftOf_lt (by omega)
        have HK1 : Hid (k1 = x.take m) := Lib.hid (by rw [HKa.out, kidsOf, if_neg hx2, hm])
        have HK2 : Hid (k2 = x.drop m) := Lib.hid (by rw [HKb.out, kidsOf, if_neg hx2, hm])
        have HLf : Hid (Calls Try.prog 16 #[.int .i64 x.length] w5 fun e w' => e = .returned (.int .i64 m) ∧ w5 = w') := Lib.hid (by rw [hm]; exact rleft_any x.length w5 (by omega))
        have hp1 := HP1.out xa x.length xc m (by omega)
        have hp2 := HP2.out xa x.length xc m (by omega)
        rw [HY1.out] at hp2
        have HT1 := Lib.hid (HIx.out.take (k := m) (by omega))
        have HT2 := Lib.hid (HIx.out.drop (k := m) (by omega))
        obtain ⟨a3, ha3⟩ : ∃ a3, a3 = (if xc = m then xa else xa.map (·.add (m * 1))) := ⟨_, rfl⟩
        rw [← ha3] at HT2 hp2
        have HS1 : Hid (Calls Try.prog 17 #[.slice a1 k1.length c1, .slice xa m xc] w5 fun e w' => e = .returned (.bool true) ∧ ∃ q, w' = w5.drewN q) := Lib.hid (by
          have h := same_any w5 _ _ _ _ _ _ _ _ HQ1.out.1 HT1.out.1
          rwa [decide_eq_true HK1.out] at h)
        have HS2 : Hid (∀ q, Calls Try.prog 17 #[.slice a2 k2.length c2, .slice a3 (x.length - m) (xc - m)] (w5.drewN q) fun e w' => e = .returned (.bool true) ∧ ∃ q', w' = (w5.drewN q).drewN q') := Lib.hid (fun q => by
          have h := same_any (w5.drewN q) _ _ _ _ _ _ _ _ (HQ2.out.keeps ((Keeps.refl (fun _ => False) w5).drewN q) (fun _ _ _ x => x)).1 (HT2.out.keeps ((Keeps.refl (fun _ => False) w5).drewN q) (fun _ _ _ x => x)).1
          rwa [decide_eq_true HK2.out] at h)
        clear hm ha3 HKa HKb
        go_wp2_with (first | (go_at_call 16; refine HLf.out.mono ?_; rintro e w' ⟨rfl, rfl⟩) | (go_at_call 17; (with_reducible refine HS1.out.mono ?_); rintro e w6 ⟨rfl, q6, rfl⟩) | (go_at_call 17; (with_reducible refine (HS2.out _).mono ?_); rintro e w7 ⟨rfl, q7, rfl⟩))
        go_roundw
        case rel => exact ⟨k + 1, hlt, rfl, HBR.out _⟩
        case measure => simp [intOf]; omega
    · obtain rfl : k = S.length := by omega
      go_wp2_with (go_at_call 18; refine (lives_any wr).mono ?_; rintro e w9 ⟨rfl, hB9⟩; have HB9 := Lib.hid hB9; clear hB9)
      go_ret
      have hm := HBW4.out.trans (HB.out.mono HBW4.out.size)
      exact ⟨rfl, hm.trans (HB9.out.mono hm.size)⟩
end Go.Proofs.Ytappaadadkoamaa
