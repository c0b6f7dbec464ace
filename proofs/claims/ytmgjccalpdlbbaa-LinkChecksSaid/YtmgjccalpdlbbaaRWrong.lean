/- How one line of faults is wrong: the reference's, by its contract. -/
import Derived.Test.YtmgjccalpdlbbaaWrong
import Derived.Test.YtmgjccalpdlbbaaPlays
import Derived.BigQuiet
namespace Go.Proofs.Ytmgjccalpdlbbaa
open Go.RowKit
set_option linter.unusedVariables false

theorem blk_range {w : World} {b : Nat} {t : TypeId} {xs : List Value} (h : Blk w b t xs) : w.rangeAt b 0 xs := fun j v hv => by
  rw [Nat.zero_add, h.cell j]
  exact hv
theorem fault_is {dk : Int} (h : dk = 3 ∨ dk = 4 ∨ dk = 5) : decide (dk = 3 ∨ dk = 4 ∨ dk = 5) = true := decide_eq_true h

set_option maxRecDepth 100000 in
set_option maxHeartbeats 1000000 in
theorem rwrong_none (w : World) (arr : Array Value) (dk : Int) (hs : arr.size = 34) (h0 : arr[0]? = some (.int .i64 dk)) (h : ¬ (dk = 3 ∨ dk = 4 ∨ dk = 5)) :
    Calls Try.prog 29 #[.agg arr] w fun e w' => e = .returned (.int .i64 0) ∧ Below w.heap.size w w' := by
  have hf := Lib.hid (decide_eq_false h)
  have HR : Hid (∀ X : World, (X.alloc (.cells arr 38)).rangeAt X.heap.size 0 arr.toList) := Lib.hid (fun X => blk_range (Blk.new X 38 arr.toList))
  clear h
  go_enter Try.func29, Try.ntmps29
  go_wp2_with (first | (refine wpL_load rfl (.tmp 1) rfl _ _ rfl arr (HR.out _) hs ?_) | (go_at_call 27; refine (rfault_any arr dk _ h0).mono ?_; rw [hf.out]; rintro e w' ⟨rfl, rfl⟩))
  go_ret
  exact ⟨rfl, ((Below.refl _ _).alloc (Nat.le_refl _) _).alloc (by simp) _⟩

set_option maxRecDepth 100000 in
set_option maxHeartbeats 1000000 in
theorem rwrong_range (w : World) (arr : Array Value) (dk fr til n : Int) (hs : arr.size = 34) (h : Nums arr dk fr til n) (hd : dk = 3 ∨ dk = 4 ∨ dk = 5) (hr : fr < 0 ∨ til ≤ fr ∨ 200 < til) :
    Calls Try.prog 29 #[.agg arr] w fun e w' => e = .returned (.int .i64 8) ∧ Below w.heap.size w w' := by
  obtain ⟨h0, h1, h2, h4⟩ := h
  have HSZ := Lib.hid hs
  clear hs
  clear h4
  have hf := Lib.hid (fault_is hd)
  have HR : Hid (∀ X : World, (X.alloc (.cells arr 38)).rangeAt X.heap.size 0 arr.toList) := Lib.hid (fun X => blk_range (Blk.new X 38 arr.toList))
  clear hd
  by_cases r1 : fr < 0
  · clear hr
    go_enter Try.func29, Try.ntmps29
    go_wp2_with (first | (refine wpL_load rfl (.tmp 1) rfl _ _ rfl arr (HR.out _) HSZ.out ?_) | (go_at_call 27; refine (rfault_any arr dk _ h0).mono ?_; rw [hf.out]; rintro e w' ⟨rfl, rfl⟩))
    go_ret
    exact ⟨rfl, ((Below.refl _ _).alloc (Nat.le_refl _) _).alloc (by simp) _⟩
  by_cases r2 : til ≤ fr
  · clear hr
    go_enter Try.func29, Try.ntmps29
    go_wp2_with (first | (refine wpL_load rfl (.tmp 1) rfl _ _ rfl arr (HR.out _) HSZ.out ?_) | (go_at_call 27; refine (rfault_any arr dk _ h0).mono ?_; rw [hf.out]; rintro e w' ⟨rfl, rfl⟩))
    go_ret
    exact ⟨rfl, ((Below.refl _ _).alloc (Nat.le_refl _) _).alloc (by simp) _⟩
  have r3 : 200 < til := by omega
  clear hr
  go_enter Try.func29, Try.ntmps29
  go_wp2_with (first | (refine wpL_load rfl (.tmp 1) rfl _ _ rfl arr (HR.out _) HSZ.out ?_) | (go_at_call 27; refine (rfault_any arr dk _ h0).mono ?_; rw [hf.out]; rintro e w' ⟨rfl, rfl⟩))
  go_ret
  exact ⟨rfl, ((Below.refl _ _).alloc (Nat.le_refl _) _).alloc (by simp) _⟩

set_option maxRecDepth 100000 in
set_option maxHeartbeats 1000000 in
theorem rwrong_num (w : World) (arr : Array Value) (dk fr til n : Int) (hs : arr.size = 34) (h : Nums arr dk fr til n) (hd : dk = 4 ∨ dk = 5) (hr : ¬ (fr < 0 ∨ til ≤ fr ∨ 200 < til)) (V : Int) (hV : V = if n < 1 ∨ 1000 < n then 1 else 0) :
    Calls Try.prog 29 #[.agg arr] w fun e w' => e = .returned (.int .i64 V) ∧ Below w.heap.size w w' := by
  obtain ⟨h0, h1, h2, h4⟩ := h
  have HSZ := Lib.hid hs
  clear hs
  obtain ⟨r1, r2, r3⟩ : ¬ fr < 0 ∧ ¬ til ≤ fr ∧ ¬ 200 < til := by omega
  have hf := Lib.hid (fault_is (.inr hd))
  have HR : Hid (∀ X : World, (X.alloc (.cells arr 38)).rangeAt X.heap.size 0 arr.toList) := Lib.hid (fun X => blk_range (Blk.new X 38 arr.toList))
  have d3 : (dk == 3) = false := by simp; omega
  clear hr hd
  by_cases q1 : n < 1
  · obtain rfl : V = 1 := by rw [hV, if_pos (.inl q1)]
    clear hV
    go_enter Try.func29, Try.ntmps29
    go_wp2_with (first | (refine wpL_load rfl (.tmp 1) rfl _ _ rfl arr (HR.out _) HSZ.out ?_) | (go_at_call 27; refine (rfault_any arr dk _ h0).mono ?_; rw [hf.out]; rintro e w' ⟨rfl, rfl⟩))
    go_ret
    exact ⟨rfl, ((Below.refl _ _).alloc (Nat.le_refl _) _).alloc (by simp) _⟩
  by_cases q2 : 1000 < n
  · obtain rfl : V = 1 := by rw [hV, if_pos (.inr q2)]
    clear hV
    go_enter Try.func29, Try.ntmps29
    go_wp2_with (first | (refine wpL_load rfl (.tmp 1) rfl _ _ rfl arr (HR.out _) HSZ.out ?_) | (go_at_call 27; refine (rfault_any arr dk _ h0).mono ?_; rw [hf.out]; rintro e w' ⟨rfl, rfl⟩))
    go_ret
    exact ⟨rfl, ((Below.refl _ _).alloc (Nat.le_refl _) _).alloc (by simp) _⟩
  obtain rfl : V = 0 := by rw [hV, if_neg (by omega)]
  clear hV
  go_enter Try.func29, Try.ntmps29
  go_wp2_with (first | (refine wpL_load rfl (.tmp 1) rfl _ _ rfl arr (HR.out _) HSZ.out ?_) | (go_at_call 27; refine (rfault_any arr dk _ h0).mono ?_; rw [hf.out]; rintro e w' ⟨rfl, rfl⟩))
  go_ret
  exact ⟨rfl, ((Below.refl _ _).alloc (Nat.le_refl _) _).alloc (by simp) _⟩

def RWRel (W : World) (zs : List Int) (i : Value) (wr : World) : Prop := ∃ j : Nat, j ≤ zs.length ∧ i = .int .i64 j ∧ Keeps (fun _ => False) W wr ∧ ∀ q, q < j → badAt zs q = false
theorem callee_still {P : Program} {f : FuncId} {args : Array Value} {w : World} {n : Nat} {v : Value} (h : Calls P f args (w.drewN n) fun e w' => e = .returned v ∧ w.drewN n = w') : Calls P f args (w.drewN n) fun e w'' => e = .returned v ∧ ∃ m, w'' = w.drewN m :=
  h.mono fun _ _ x => ⟨x.1, n, x.2.symm⟩

set_option maxRecDepth 100000 in
set_option maxHeartbeats 1000000 in
theorem rwrong_cut (w : World) (lo hi : Nat) (arr : Array Value) (s : StepV) (h : StepArr w lo hi s arr) (h3 : s.dk = 3) (hr : ¬ (s.fr < 0 ∨ s.til ≤ s.fr ∨ 200 < s.til)) (V : Int) (hV : V = if badSet s.set = true then 17 else 0) :
    Calls Try.prog 29 #[.agg arr] w fun e w' => e = .returned (.int .i64 V) ∧ Below w.heap.size w w' := by
  have h0 := h.dk
  have hfr := h.fr
  have htil := h.til
  have HSZ := Lib.hid h.size
  obtain ⟨sv, hsv, hset⟩ := h.set
  rw [h3] at h0
  obtain ⟨r1, r2, r3⟩ : ¬ s.fr < 0 ∧ ¬ s.til ≤ s.fr ∧ ¬ 200 < s.til := by omega
  have HI := Lib.hid hset
  obtain ⟨sa, caps, rfl, p2, p3, p4, p5, p6⟩ := hset
  obtain ⟨dk, fr, til, n, set⟩ := s
  simp only at *
  have HV := Lib.hid hV
  have P6 := Lib.hid p6
  have hl63 : set.length ≤ 9223372036854775807 := by omega
  have hf : Hid (decide ((3 : Int) = 3 ∨ (3 : Int) = 4 ∨ (3 : Int) = 5) = true) := Lib.hid (fault_is (.inl rfl))
  have HR : Hid (∀ X : World, (X.alloc (.cells arr 38)).rangeAt X.heap.size 0 arr.toList) := Lib.hid (fun X => blk_range (Blk.new X 38 arr.toList))
  clear h p4 p5 p6 hr h3 hV
  by_cases he : set = []
  · have HE : Hid (V = 17) := Lib.hid (by rw [HV.out, if_pos]; rw [he]; rfl)
    have hl0 : ((set.length : Int) == 0) = true := by rw [he]; rfl
    clear he
    go_enter Try.func29, Try.ntmps29
    go_wp2_with (first | (refine wpL_load rfl (.tmp 1) rfl _ _ rfl arr (HR.out _) HSZ.out ?_) | (go_at_call 27; refine (rfault_any arr 3 _ h0).mono ?_; rw [hf.out]; rintro e w' ⟨rfl, rfl⟩))
    go_ret
    exact ⟨by rw [HE.out]; rfl, ((Below.refl _ _).alloc (Nat.le_refl _) _).alloc (by simp) _⟩
  have hne : ((set.length : Int) == 0) = false := by
    have : set.length ≠ 0 := fun h => he (List.eq_nil_of_length_eq_zero h)
    simp; exact he
  have He := Lib.hid he
  clear he
  go_enter Try.func29, Try.ntmps29
  go_wp2_with (first | (refine wpL_load rfl (.tmp 1) rfl _ _ rfl arr (HR.out _) HSZ.out ?_) | (go_at_call 27; refine (rfault_any arr 3 _ h0).mono ?_; rw [hf.out]; rintro e w' ⟨rfl, rfl⟩))
  have HI2 : Hid (IntsAt ((w.alloc (.cells arr 38)).alloc (.cells arr 38)) lo hi (.slice sa set.length caps) set) := Lib.hid ((HI.out.keeps ((Keeps.refl (fun _ => False) w).alloc _) (fun _ _ _ x => x)).keeps ((Keeps.refl (fun _ => False) _).alloc _) (fun _ _ _ x => x))
  have HBel : Hid (Below w.heap.size w ((w.alloc (.cells arr 38)).alloc (.cells arr 38))) := Lib.hid (((Below.refl _ _).alloc (Nat.le_refl _) _).alloc (by simp) _)
  have hcell : ((w.alloc (.cells arr 38)).alloc (.cells arr 38)).cell? ⟨w.heap.size, 5, none⟩ = some (.slice sa set.length caps) := by
    rw [← hsv]
    have h1 := (Blk.new w 38 arr.toList).alloc (.cells arr 38)
    have h2 := h1.cell 5
    simp only [Array.getElem?_toList, Array.toArray_toList] at h2
    exact h2
  obtain ⟨_, _, he0, _, _, _, _, P6b⟩ := id HI2.out
  simp only [Value.slice.injEq] at he0
  obtain ⟨rfl, -, rfl⟩ := he0
  have HP6 := Lib.hid P6b
  clear P6b P6 HI r1 r2 r3 h0 hfr htil hsv
  generalize ((w.alloc (.cells arr 38)).alloc (.cells arr 38)) = W at HI2 HBel hcell HP6 ⊢
  have HC5 := Lib.hid hcell
  clear hcell
  go_loopw [4] (RWRel W set) (fun i _ => set.length - (intOf i).toNat)
  case atStart => exact ⟨0, Nat.zero_le _, rfl, Keeps.refl _ _, fun q hq => absurd hq (Nat.not_lt_zero q)⟩
  case round =>
    obtain ⟨j, hj, rfl, hK, hbad⟩ := hrel
    have Hbad := Lib.hid hbad
    have HK := Lib.hid hK
    have hcw : wr.cell? ⟨w.heap.size, 5, none⟩ = some (.slice sa set.length caps) := by rw [HK.out.cell (p := ⟨w.heap.size, 5, none⟩) (World.block_lt_of_cell? _ _ HC5.out) (fun x => x)]; exact HC5.out
    have HBw : Hid (∀ q, Below w.heap.size w (wr.drewN q)) := Lib.hid (fun q => HBel.out.trans ((HK.out.drewN q).toBelow HBel.out.size (fun _ _ x => x)))
    clear hbad hK
    by_cases hjl : j < set.length
    · obtain ⟨x, hx⟩ : ∃ x, set[j]? = some x := ⟨_, List.getElem?_eq_getElem hjl⟩
      obtain ⟨g2, o2, rfl, cx0⟩ := HP6.out j x hx
      have cx : wr.cell? ⟨g2, o2 + j, none⟩ = some (.int .i64 x) := by rw [HK.out.cell (p := ⟨g2, o2 + j, none⟩) (World.block_lt_of_cell? _ _ cx0) (fun x => x)]; exact cx0
      clear cx0
      have HB := Lib.hid (badAt_of hx)
      have hj0 : (0 : Int) ≤ (j : Int) := by omega
      have hj1 : (j : Int) < (set.length : Int) := by omega
      have hj2 : (j : Int) ≤ (caps : Int) := by omega
      have hj3 : (j : Int).toNat = j := by omega
      have HT : Hid (∀ q, IntsAt (wr.drewN q) lo hi (.slice (some ⟨g2, o2, none⟩) j caps) (set.take j)) := Lib.hid (fun q => (ints_take HI2.out (by omega)).keeps (HK.out.drewN q) (fun _ _ _ x => x))
      clear hx
      by_cases hx1 : x < 1
      · have HE : Hid (V = 17) := Lib.hid (by rw [HV.out, if_pos]; exact badSet_hit hjl (by rw [HB.out]; exact decide_eq_true (.inl hx1)))
        have d1 : decide (x < 1) = true := decide_eq_true hx1
        clear hx1
        go_wp2_with fail
        go_quiet (fail)
        go_wp2
        go_ret
        exact ⟨by rw [HE.out]; rfl, HBw.out _⟩
      have d1 : decide (x < 1) = false := decide_eq_false hx1
      by_cases hx2 : 12 < x
      · have HE : Hid (V = 17) := Lib.hid (by rw [HV.out, if_pos]; exact badSet_hit hjl (by rw [HB.out]; exact decide_eq_true (.inr (.inl hx2))))
        have d2 : decide (12 < x) = true := decide_eq_true hx2
        clear hx1 hx2
        go_wp2_with fail
        go_quiet (fail)
        go_wp2
        go_ret
        exact ⟨by rw [HE.out]; rfl, HBw.out _⟩
      have d2 : decide (12 < x) = false := decide_eq_false hx2
      by_cases hx3 : x ∈ set.take j
      · have HE : Hid (V = 17) := Lib.hid (by rw [HV.out, if_pos]; exact badSet_hit hjl (by rw [HB.out]; exact decide_eq_true (.inr (.inr hx3))))
        have HX3 := Lib.hid hx3
        clear hx1 hx2 hx3
        go_wp2_with fail
        go_quiet ((go_at_call 20; exact callee_still (has_yes _ lo hi _ (set.take j) x (HT.out _) HX3.out)))
        go_wp2
        go_ret
        exact ⟨by rw [HE.out]; rfl, HBw.out _⟩
      · have HF : Hid (badAt set j = false) := Lib.hid (by rw [HB.out]; exact decide_eq_false (fun h => by rcases h with h | h | h; exact hx1 h; exact hx2 h; exact hx3 h))
        have HX3 := Lib.hid hx3
        clear hx1 hx2 hx3
        have hR : Hid (∀ q, RWRel W set (.int .i64 ((j : Int) + 1)) (wr.drewN q)) := Lib.hid (fun m' => ⟨j + 1, hjl, rfl, HK.out.drewN m', fun q hq => by
          rcases Nat.lt_or_ge q j with h | h
          · exact Hbad.out q h
          · obtain rfl : q = j := by omega
            exact HF.out⟩)
        go_wp2_with fail
        go_quiet ((go_at_call 20; exact callee_still (has_no _ lo hi _ (set.take j) x (HT.out _) HX3.out)))
        go_wp2
        first | exact ⟨hR.out _, by simp [intOf]; omega⟩ | (go_roundw; exact hR.out _; (simp [intOf]; omega))
    · obtain rfl : j = set.length := by omega
      have HE : Hid (V = 0) := Lib.hid (by rw [HV.out, if_neg]; rw [badSet_fine He.out Hbad.out]; simp)
      go_wp2
      go_ret
      exact ⟨by rw [HE.out]; rfl, HBw.out 0⟩

theorem rwrong_any (w : World) (lo hi : Nat) (arr : Array Value) (s : StepV) (h : StepArr w lo hi s arr) :
    Calls Try.prog 29 #[.agg arr] w fun e w' => e = .returned (.int .i64 (wrongOf s)) ∧ Below w.heap.size w w' := by
  have hn : Nums arr s.dk s.fr s.til s.n := ⟨h.dk, h.fr, h.til, h.n⟩
  by_cases hf : s.dk = 3 ∨ s.dk = 4 ∨ s.dk = 5
  · have hF : ¬ isFault s = false := by simp [isFault, hf]
    by_cases hr : s.fr < 0 ∨ s.til ≤ s.fr ∨ 200 < s.til
    · have e : wrongOf s = 8 := by unfold wrongOf; rw [if_neg hF, if_pos hr]
      rw [e]
      exact rwrong_range w arr _ _ _ _ h.size hn hf hr
    · by_cases h3 : s.dk = 3
      · refine rwrong_cut w lo hi arr s h h3 hr _ ?_
        unfold wrongOf
        rw [if_neg hF, if_neg hr, if_pos h3]
      · refine rwrong_num w arr _ _ _ _ h.size hn (by omega) hr _ ?_
        unfold wrongOf
        rw [if_neg hF, if_neg hr, if_neg h3]
  · have e : wrongOf s = 0 := by unfold wrongOf; rw [if_pos (by simp [isFault]; omega)]
    rw [e]
    exact rwrong_none w arr _ h.size h.dk hf
end Go.Proofs.Ytmgjccalpdlbbaa
