/- LinkQuiet, walked: it answers true, and changes nothing that was there. -/
import Derived.Test.YtmgjccalpdlbbaaPlays
namespace Go.Proofs.Ytmgjccalpdlbbaa
open Go.RowKit
set_option linter.unusedVariables false

theorem foldl_max_ge (fs : List Flt) : ∀ b : Int, b ≤ fs.foldl (fun m f => max m f.til) b ∧ ∀ f ∈ fs, f.til ≤ fs.foldl (fun m f => max m f.til) b := by
  induction fs with
  | nil => intro b; simp
  | cons f r ih =>
    intro b
    obtain ⟨h1, h2⟩ := ih (max b f.til)
    simp only [List.foldl_cons, List.mem_cons]
    exact ⟨by omega, fun g hg => by
      rcases hg with rfl | hg
      · omega
      · exact h2 g hg⟩
theorem quiet_there {fs : List Flt} {r : Int} (h : lquietOf fs ≤ r) : ∀ f ∈ fs, f.there r = false := by
  intro f hf
  have := (foldl_max_ge fs 0).2 f hf
  unfold lquietOf at h
  unfold Flt.there
  exact decide_eq_false (by omega)
theorem any_false {α : Type} {l : List α} {g : α → Bool} (h : ∀ x ∈ l, g x = false) : l.any g = false := by
  rw [List.any_eq_false]
  intro x hx
  rw [h x hx]; simp
theorem over_quiet {fs : List Flt} {r : Int} (h : lquietOf fs ≤ r) : overVal fs r = 1 := by
  have ht := quiet_there h
  unfold overVal
  rw [any_false (g := Flt.lose r) (fun f hf => by simp [Flt.lose, Flt.hit, Flt.counts, ht f hf]), any_false (g := Flt.twice r) (fun f hf => by simp [Flt.twice, Flt.hit, Flt.counts, ht f hf])]
  rfl
theorem met_quiet {fs : List Flt} {r : Int} (h : lquietOf fs ≤ r) (d : Int) : lmetOf fs r d = true := by
  have ht := quiet_there h
  unfold lmetOf
  rw [any_false (g := lcuts r d) (fun f hf => by simp [lcuts, ht f hf])]
  rfl
theorem over_range (fs : List Flt) (r : Int) : 0 ≤ overVal fs r ∧ overVal fs r ≤ 2 := by
  unfold overVal
  split
  · omega
  · split <;> omega
theorem stepV_til (x : Int) : (stepV x).til ≤ 20 := by
  unfold stepV
  generalize around x 10000000 = k
  simp only
  omega
theorem quietOf_bd (zs : List Int) : 0 ≤ quietOf (stepsOf zs) ∧ quietOf (stepsOf zs) ≤ 20 := by
  have H : ∀ (ss : List StepV) (b : Int), (∀ s ∈ ss, s.til ≤ 20) → 0 ≤ b → b ≤ 20 → 0 ≤ ss.foldl (fun m s => if isFault s then max m s.til else m) b ∧ ss.foldl (fun m s => if isFault s then max m s.til else m) b ≤ 20 := by
    intro ss
    induction ss with
    | nil => intro b _ h1 h2; exact ⟨h1, h2⟩
    | cons s r ih =>
      intro b hs h1 h2
      have h3 := hs s (by simp)
      simp only [List.foldl_cons]
      refine ih _ (fun t ht => hs t (by simp [ht])) ?_ ?_ <;> split <;> omega
  refine H _ 0 (fun s hs => ?_) (by omega) (by omega)
  obtain ⟨x, _, rfl⟩ := List.mem_map.1 hs
  exact stepV_til x

/-- Over, once more, of a link that is behind some rounds: whatever comes of it. -/
theorem over_after (W : World) (lo hi : Nat) (pbs : List Nat) (ss : List StepV) (ahead : List Int) (r d : Int) (h : LinkAt W lo hi lo pbs ((newOf ss).map (after ahead))) (hl : ahead.length < 1000000) :
    Calls Try.prog 11 #[.pointer (some ⟨lo, 0, none⟩), .int .i64 r, .int .i64 d] W fun e w' => e = .returned (.int .i64 (overVal ((newOf ss).map (after ahead)) r)) ∧ LinkAt w' lo hi lo pbs ((newOf ss).map (after (ahead ++ [r]))) ∧ Keeps (fun b => lo ≤ b ∧ b < hi) W w' := by
  have := over_any W lo hi lo pbs _ r d h (fun f hf => by have := count_bd ss ahead f hf; omega)
  rwa [← map_after_snoc] at this

def Q1 (w3 : World) (lo hi : Nat) (pbs : List Nat) (ss : List StepV) (all : List Int) (i : Value) (wr : World) : Prop :=
  ∃ k : Nat, k ≤ all.length ∧ i = .int .i64 k ∧ LinkAt wr lo hi lo pbs ((newOf ss).map (after (all.take k))) ∧ Keeps (fun b => lo ≤ b ∧ b < hi) w3 wr
def Q2 (w3 : World) (lo hi : Nat) (pbs : List Nat) (ss : List StepV) (more : List Int) (Q : Int) (t i : Value) (wr : World) : Prop :=
  ∃ (j : Nat) (last : Int) (ahead : List Int), j ≤ more.length ∧ j ≤ 10 ∧ i = .int .i64 j ∧ t = .int .i64 last ∧ Q ≤ last ∧ last ≤ 100 + 20 * j ∧ ahead.length ≤ 40 + j ∧ LinkAt wr lo hi lo pbs ((newOf ss).map (after ahead)) ∧ Keeps (fun b => lo ≤ b ∧ b < hi) w3 wr

set_option maxRecDepth 100000 in
set_option maxHeartbeats 4000000 in
theorem quiet_walk (w : World) (v0 v1 v2 : Value) (zs rs ms : List Int) (h0 : ArgInts w v0 zs) (h1 : ArgInts w v1 rs) (h2 : ArgInts w v2 ms) :
    Calls Try.prog 5 #[v0, v1, v2] w fun e w' => e = .returned (.bool true) ∧ Below w.heap.size w w' := by
  have H0 := Lib.hid h0
  have H1 := Lib.hid h1
  obtain ⟨am, capm, rfl, m2, m3, m4, m6⟩ := h2
  have M4 := Lib.hid m4
  have M6 := Lib.hid m6
  have hm63 : ms.length ≤ 9223372036854775807 := by omega
  clear h0 h1 m4 m6
  go_enter Try.func5, Try.ntmps5
  go_wp2_with fail
  refine (steps_any w v0 zs H0.out).mono ?_
  rintro e w1 ⟨vs, rfl, hS, hB⟩
  have HS := Lib.hid hS
  have HB1 := Lib.hid hB
  clear hS hB
  go_wp2_with fail
  refine (new_any w1 w.heap.size w1.heap.size vs (stepsOf zs) HS.out (Nat.le_refl _) (stepsOf_fit zs) (stepsOf_set zs) (by have := stepsOf_len zs; omega)).mono ?_
  rintro e w2 ⟨pbs, rfl, hL, hB⟩
  have HL := Lib.hid hL
  have HB2 := Lib.hid hB
  clear hL hB
  go_wp2_with fail
  refine (rounds_any w2 v1 rs (H1.out.below (HB1.out.trans (HB2.out.mono HB1.out.size)))).mono ?_
  rintro e w3 ⟨va, rfl, hA, hB⟩
  have HA := Lib.hid hA
  have HB3 := Lib.hid hB
  have HL3 : Hid (LinkAt w3 w1.heap.size w2.heap.size w1.heap.size pbs (newOf (stepsOf zs))) := Lib.hid (HL.out.keeps (Keeps.below hB) (fun b _ hb x => by omega))
  have HB4 : Hid (Below w.heap.size w w3) := Lib.hid ((HB1.out.trans (HB2.out.mono HB1.out.size)).trans (HB3.out.mono (Nat.le_trans HB1.out.size HB2.out.size)))
  have S1 : Hid (w.heap.size ≤ w1.heap.size ∧ w1.heap.size ≤ w2.heap.size ∧ w2.heap.size ≤ w3.heap.size) := Lib.hid ⟨HB1.out.size, HB2.out.size, HB3.out.size⟩
  clear hA hB HL HS HB1 HB2 HB3 H0 H1
  obtain ⟨a, cap, hva, p2, p3, p4, p5, p6⟩ := id HA.out
  rw [hva] at HA ⊢
  have P5 := Lib.hid p5
  have P6 := Lib.hid p6
  have hal := roundsOf_len rs
  have hab : Hid (∀ x ∈ roundsOf rs, 0 ≤ x ∧ x ≤ 80) := Lib.hid (fun x hx => by
    have h1 := roundsFrom_bd _ _ x hx
    have h2 : (rs.take 40).length ≤ 40 := List.length_take_le _ _
    omega)
  clear p4 p5 p6 hva
  obtain ⟨all, hall⟩ : ∃ all, all = roundsOf rs := ⟨_, rfl⟩
  rw [← hall] at HA P6 hal hab p2 ⊢
  clear hall
  have hqb := quietOf_bd zs
  obtain ⟨ss, hss⟩ : ∃ ss, ss = stepsOf zs := ⟨_, rfl⟩
  rw [← hss] at HL3 hqb
  clear hss
  obtain ⟨Q, hQ⟩ : ∃ Q, Q = quietOf ss := ⟨_, rfl⟩
  rw [← hQ] at hqb
  have HQ := Lib.hid hQ
  clear hQ
  obtain ⟨q1, q2⟩ := hqb
  have hal63 : all.length ≤ 9223372036854775807 := by omega
  go_wp2_with fail
  refine (lquiet_any w3 _ _ _ pbs _ HL3.out).mono ?_
  rw [show lquietOf (newOf ss) = Q from by rw [HQ.out, ← quiet_eq ss [], after_nil]]
  rintro e w' ⟨rfl, rfl⟩
  go_wp2_with fail
  go_loopw [10] (Q1 w3 w1.heap.size w2.heap.size pbs ss all) (fun i _ => all.length - (intOf i).toNat)
  case atStart => exact ⟨0, Nat.zero_le _, rfl, by rw [List.take_zero, after_nil]; exact HL3.out, Keeps.refl _ _⟩
  case round =>
    obtain ⟨k, hk, rfl, hL, hK⟩ := hrel
    have HL := Lib.hid hL
    have HK := Lib.hid hK
    clear hL hK
    by_cases hlt : k < all.length
    · obtain ⟨r, hr⟩ : ∃ r, all[k]? = some r := ⟨_, List.getElem?_eq_getElem hlt⟩
      obtain ⟨g, o, rfl, hc⟩ := P6.out k r hr
      have hg : w2.heap.size ≤ g ∧ g < w3.heap.size := P5.out _ rfl
      have hc' : wr.cell? ⟨g, o + k, none⟩ = some (.int .i64 r) := by rw [HK.out.cell (p := ⟨g, o + k, none⟩) (World.block_lt_of_cell? _ _ hc) (by show ¬ (_ ≤ g ∧ g < _); omega)]; exact hc
      have hrl : (all.take k).length ≤ k := List.length_take_le _ _
      have HT : Hid (all.take (k + 1) = all.take k ++ [r]) := Lib.hid (by obtain ⟨_, rfl⟩ := List.getElem?_eq_some_iff.1 hr; exact List.take_succ_eq_append_getElem hlt)
      have HQr : Hid (Q ≤ r → overVal ((newOf ss).map (after (all.take k))) r = 1) := Lib.hid (fun h => over_quiet (by rw [quiet_eq, ← HQ.out]; exact h))
      have hvr := over_range ((newOf ss).map (after (all.take k))) r
      obtain ⟨V, hV⟩ : ∃ V, V = overVal ((newOf ss).map (after (all.take k))) r := ⟨_, rfl⟩
      rw [← hV] at hvr HQr
      obtain ⟨hv1, hv2⟩ := hvr
      have HV := Lib.hid hV
      have Hg : Hid (w2.heap.size ≤ g ∧ g < wr.heap.size) := Lib.hid ⟨hg.1, Nat.lt_of_lt_of_le hg.2 HK.out.size⟩
      have Hc := Lib.hid hc'
      clear hc hr hV hg
      by_cases hq : Q ≤ r
      · obtain rfl := HQr.out hq
        have hq' : ¬ r < Q := by omega
        go_wp2_with (go_at_call 11; refine (over_after _ _ _ pbs ss (all.take k) r 1 HL.out (by omega)).mono ?_; rw [← HV.out]; rintro e w4 ⟨rfl, hL4, hK4⟩; have HL4 := Lib.hid hL4; have HK4 := Lib.hid hK4; have hc4 := (HK4.out.cell (p := ⟨g, o + k, none⟩) Hg.out.2 (fun x => absurd x.2 (Nat.not_lt.2 Hg.out.1))).trans Hc.out; clear hL4 hK4 hc')
        go_roundw
        case rel => exact ⟨k + 1, hlt, rfl, by rw [HT.out]; exact HL4.out, HK.out.trans HK4.out⟩
        case measure => simp [intOf]; omega
      · have hq' : r < Q := by omega
        clear hq
        go_wp2_with (go_at_call 11; refine (over_after _ _ _ pbs ss (all.take k) r 1 HL.out (by omega)).mono ?_; rw [← HV.out]; rintro e w4 ⟨rfl, hL4, hK4⟩; have HL4 := Lib.hid hL4; have HK4 := Lib.hid hK4; have hc4 := (HK4.out.cell (p := ⟨g, o + k, none⟩) Hg.out.2 (fun x => absurd x.2 (Nat.not_lt.2 Hg.out.1))).trans Hc.out; clear hL4 hK4 hc')
        go_roundw
        case rel => exact ⟨k + 1, hlt, rfl, by rw [HT.out]; exact HL4.out, HK.out.trans HK4.out⟩
        case measure => simp [intOf]; omega
    · obtain rfl : k = all.length := by omega
      rw [List.take_length] at HL
      by_cases hz : all.length = 0
      · have hz' : ¬ ((0 : Int) < (all.length : Int)) := by omega
        clear hz
        go_wp2_with fail
        go_loopw [12, 13] (Q2 w3 w1.heap.size w2.heap.size pbs ss ms Q) (fun _ i _ => ms.length - (intOf i).toNat)
        case atStart => exact ⟨0, Q, all, Nat.zero_le _, by omega, rfl, rfl, Int.le_refl _, by omega, by omega, HL.out, HK.out⟩
        case round =>
          obtain ⟨j, last, ahead, hj, hj10, rfl, rfl, hQl, hlb, hal2, hL2, hK2⟩ := hrel
          have HL2 := Lib.hid hL2
          have HK2 := Lib.hid hK2
          have hj10' : (j : Int) ≤ 10 := by omega
          clear hL2 hK2
          by_cases hjl : j < ms.length ∧ j < 10
          · obtain ⟨j1, j2⟩ := hjl
            obtain ⟨z, hz⟩ : ∃ z, ms[j]? = some z := ⟨_, List.getElem?_eq_getElem j1⟩
            obtain ⟨gm, om, rfl, hcm⟩ := M6.out j z hz
            have hgm : gm < w.heap.size := World.block_lt_of_cell? _ _ hcm
            have hcm' : wr.cell? ⟨gm, om + j, none⟩ = some (.int .i64 z) := by
              have h1 := S1.out
              rw [HK2.out.cell (p := ⟨gm, om + j, none⟩) (by show gm < _; omega) (by show ¬ (_ ≤ gm ∧ gm < _); omega), HB4.out.cell (p := ⟨gm, om + j, none⟩) hgm]; exact hcm
            have Hwf := Lib.hid (M4.out z (List.mem_of_getElem? hz))
            have a1 := around_lo z 20 (by omega)
            have a2 := around_hi z 20 (by omega)
            obtain ⟨A, hA⟩ : ∃ A, A = around z 20 := ⟨_, rfl⟩
            rw [← hA] at a1 a2
            have HAr := Lib.hid hA
            clear hz hcm hA hgm
            have HO : Hid (overVal ((newOf ss).map (after ahead)) (last + A) = 1) := Lib.hid (over_quiet (by rw [quiet_eq, ← HQ.out]; omega))
            have HMt : Hid (lmetOf ((newOf ss).map (after (ahead ++ [last + A]))) (last + A) (1 + j) = true) := Lib.hid (met_quiet (by rw [quiet_eq, ← HQ.out]; omega) _)
            go_wp2_with (first | (go_at_call 9; refine (around_any z 20 _ Hwf.out (by omega) (by omega)).mono ?_; rintro e w' ⟨rfl, rfl⟩; rw [← HAr.out]) | (go_at_call 11; refine (over_after _ _ _ pbs ss ahead (last + A) (1 + j) HL2.out (by omega)).mono ?_; rw [HO.out]; rintro e w4 ⟨rfl, hL4, hK4⟩; have HL4 := Lib.hid hL4; have HK4 := Lib.hid hK4; clear hL4 hK4) | (go_at_call 16; refine (lmet_any _ _ _ _ pbs _ (last + A) (1 + j) HL4.out (WalkArith.wf_i64 (by omega))).mono ?_; rw [HMt.out]; rintro e w' ⟨rfl, rfl⟩))
            have HR2 : Hid (Q2 w3 w1.heap.size w2.heap.size pbs ss ms Q (.int .i64 (last + A)) (.int .i64 (j + 1)) w4) := Lib.hid ⟨j + 1, last + A, ahead ++ [last + A], j1, by omega, rfl, rfl, by omega, by omega, by simp; omega, HL4.out, HK2.out.trans HK4.out⟩
            first | exact ⟨HR2.out, by simp [intOf]; omega⟩ | (go_roundw; exact HR2.out; (simp [intOf]; omega))
          · by_cases j1 : j < ms.length
            · have j2 : j = 10 := by omega
              subst j2
              go_wp2_with (go_at_call 12; refine (lives_any _).mono ?_; rintro e w7 ⟨rfl, hB⟩; have HB7 := Lib.hid hB; clear hB)
              go_ret
              refine ⟨rfl, ?_⟩
              have h1 := S1.out
              have hb1 : Below w.heap.size w wr := HB4.out.trans (HK2.out.toBelow (by omega) (fun b hb x => by omega))
              exact hb1.trans (HB7.out.mono hb1.size)
            · have j2 : j = ms.length := by omega
              subst j2
              go_wp2_with (go_at_call 12; refine (lives_any _).mono ?_; rintro e w7 ⟨rfl, hB⟩; have HB7 := Lib.hid hB; clear hB)
              go_ret
              refine ⟨rfl, ?_⟩
              have h1 := S1.out
              have hb1 : Below w.heap.size w wr := HB4.out.trans (HK2.out.toBelow (by omega) (fun b hb x => by omega))
              exact hb1.trans (HB7.out.mono hb1.size)
      · have hz' : (0 : Int) < (all.length : Int) := by omega
        obtain ⟨x, hx⟩ : ∃ x, all[all.length - 1]? = some x := ⟨_, List.getElem?_eq_getElem (by omega)⟩
        obtain ⟨g, o, rfl, hc⟩ := P6.out _ x hx
        have hg : w2.heap.size ≤ g ∧ g < w3.heap.size := P5.out _ rfl
        have hc' : wr.cell? ⟨g, o + (all.length - 1), none⟩ = some (.int .i64 x) := by rw [HK.out.cell (p := ⟨g, o + (all.length - 1), none⟩) (World.block_lt_of_cell? _ _ hc) (by show ¬ (_ ≤ g ∧ g < _); omega)]; exact hc
        have hxb := hab.out x (List.mem_of_getElem? hx)
        obtain ⟨x1, x2⟩ := hxb
        clear hz hx hc hg
        have hzb : decide (0 < all.length) = true := decide_eq_true (by omega)
        by_cases hQx : Q < x
        · go_wp2_with fail
          go_loopw [12, 13] (Q2 w3 w1.heap.size w2.heap.size pbs ss ms Q) (fun _ i _ => ms.length - (intOf i).toNat)
          case atStart => exact ⟨0, x, all, Nat.zero_le _, by omega, rfl, rfl, by omega, by omega, by omega, HL.out, HK.out⟩
          case round =>
            obtain ⟨j, last, ahead, hj, hj10, rfl, rfl, hQl, hlb, hal2, hL2, hK2⟩ := hrel
            have HL2 := Lib.hid hL2
            have HK2 := Lib.hid hK2
            have hj10' : (j : Int) ≤ 10 := by omega
            clear hL2 hK2
            by_cases hjl : j < ms.length ∧ j < 10
            · obtain ⟨j1, j2⟩ := hjl
              obtain ⟨z, hz⟩ : ∃ z, ms[j]? = some z := ⟨_, List.getElem?_eq_getElem j1⟩
              obtain ⟨gm, om, rfl, hcm⟩ := M6.out j z hz
              have hgm : gm < w.heap.size := World.block_lt_of_cell? _ _ hcm
              have hcm' : wr.cell? ⟨gm, om + j, none⟩ = some (.int .i64 z) := by
                have h1 := S1.out
                rw [HK2.out.cell (p := ⟨gm, om + j, none⟩) (by show gm < _; omega) (by show ¬ (_ ≤ gm ∧ gm < _); omega), HB4.out.cell (p := ⟨gm, om + j, none⟩) hgm]; exact hcm
              have Hwf := Lib.hid (M4.out z (List.mem_of_getElem? hz))
              have a1 := around_lo z 20 (by omega)
              have a2 := around_hi z 20 (by omega)
              obtain ⟨A, hA⟩ : ∃ A, A = around z 20 := ⟨_, rfl⟩
              rw [← hA] at a1 a2
              have HAr := Lib.hid hA
              clear hz hcm hA hgm
              have HO : Hid (overVal ((newOf ss).map (after ahead)) (last + A) = 1) := Lib.hid (over_quiet (by rw [quiet_eq, ← HQ.out]; omega))
              have HMt : Hid (lmetOf ((newOf ss).map (after (ahead ++ [last + A]))) (last + A) (1 + j) = true) := Lib.hid (met_quiet (by rw [quiet_eq, ← HQ.out]; omega) _)
              go_wp2_with (first | (go_at_call 9; refine (around_any z 20 _ Hwf.out (by omega) (by omega)).mono ?_; rintro e w' ⟨rfl, rfl⟩; rw [← HAr.out]) | (go_at_call 11; refine (over_after _ _ _ pbs ss ahead (last + A) (1 + j) HL2.out (by omega)).mono ?_; rw [HO.out]; rintro e w4 ⟨rfl, hL4, hK4⟩; have HL4 := Lib.hid hL4; have HK4 := Lib.hid hK4; clear hL4 hK4) | (go_at_call 16; refine (lmet_any _ _ _ _ pbs _ (last + A) (1 + j) HL4.out (WalkArith.wf_i64 (by omega))).mono ?_; rw [HMt.out]; rintro e w' ⟨rfl, rfl⟩))
              have HR2 : Hid (Q2 w3 w1.heap.size w2.heap.size pbs ss ms Q (.int .i64 (last + A)) (.int .i64 (j + 1)) w4) := Lib.hid ⟨j + 1, last + A, ahead ++ [last + A], j1, by omega, rfl, rfl, by omega, by omega, by simp; omega, HL4.out, HK2.out.trans HK4.out⟩
              first | exact ⟨HR2.out, by simp [intOf]; omega⟩ | (go_roundw; exact HR2.out; (simp [intOf]; omega))
            · by_cases j1 : j < ms.length
              · have j2 : j = 10 := by omega
                subst j2
                go_wp2_with (go_at_call 12; refine (lives_any _).mono ?_; rintro e w7 ⟨rfl, hB⟩; have HB7 := Lib.hid hB; clear hB)
                go_ret
                refine ⟨rfl, ?_⟩
                have h1 := S1.out
                have hb1 : Below w.heap.size w wr := HB4.out.trans (HK2.out.toBelow (by omega) (fun b hb x => by omega))
                exact hb1.trans (HB7.out.mono hb1.size)
              · have j2 : j = ms.length := by omega
                subst j2
                go_wp2_with (go_at_call 12; refine (lives_any _).mono ?_; rintro e w7 ⟨rfl, hB⟩; have HB7 := Lib.hid hB; clear hB)
                go_ret
                refine ⟨rfl, ?_⟩
                have h1 := S1.out
                have hb1 : Below w.heap.size w wr := HB4.out.trans (HK2.out.toBelow (by omega) (fun b hb x => by omega))
                exact hb1.trans (HB7.out.mono hb1.size)
        · go_wp2_with fail
          go_loopw [12, 13] (Q2 w3 w1.heap.size w2.heap.size pbs ss ms Q) (fun _ i _ => ms.length - (intOf i).toNat)
          case atStart => exact ⟨0, Q, all, Nat.zero_le _, by omega, rfl, rfl, Int.le_refl _, by omega, by omega, HL.out, HK.out⟩
          case round =>
            obtain ⟨j, last, ahead, hj, hj10, rfl, rfl, hQl, hlb, hal2, hL2, hK2⟩ := hrel
            have HL2 := Lib.hid hL2
            have HK2 := Lib.hid hK2
            have hj10' : (j : Int) ≤ 10 := by omega
            clear hL2 hK2
            by_cases hjl : j < ms.length ∧ j < 10
            · obtain ⟨j1, j2⟩ := hjl
              obtain ⟨z, hz⟩ : ∃ z, ms[j]? = some z := ⟨_, List.getElem?_eq_getElem j1⟩
              obtain ⟨gm, om, rfl, hcm⟩ := M6.out j z hz
              have hgm : gm < w.heap.size := World.block_lt_of_cell? _ _ hcm
              have hcm' : wr.cell? ⟨gm, om + j, none⟩ = some (.int .i64 z) := by
                have h1 := S1.out
                rw [HK2.out.cell (p := ⟨gm, om + j, none⟩) (by show gm < _; omega) (by show ¬ (_ ≤ gm ∧ gm < _); omega), HB4.out.cell (p := ⟨gm, om + j, none⟩) hgm]; exact hcm
              have Hwf := Lib.hid (M4.out z (List.mem_of_getElem? hz))
              have a1 := around_lo z 20 (by omega)
              have a2 := around_hi z 20 (by omega)
              obtain ⟨A, hA⟩ : ∃ A, A = around z 20 := ⟨_, rfl⟩
              rw [← hA] at a1 a2
              have HAr := Lib.hid hA
              clear hz hcm hA hgm
              have HO : Hid (overVal ((newOf ss).map (after ahead)) (last + A) = 1) := Lib.hid (over_quiet (by rw [quiet_eq, ← HQ.out]; omega))
              have HMt : Hid (lmetOf ((newOf ss).map (after (ahead ++ [last + A]))) (last + A) (1 + j) = true) := Lib.hid (met_quiet (by rw [quiet_eq, ← HQ.out]; omega) _)
              go_wp2_with (first | (go_at_call 9; refine (around_any z 20 _ Hwf.out (by omega) (by omega)).mono ?_; rintro e w' ⟨rfl, rfl⟩; rw [← HAr.out]) | (go_at_call 11; refine (over_after _ _ _ pbs ss ahead (last + A) (1 + j) HL2.out (by omega)).mono ?_; rw [HO.out]; rintro e w4 ⟨rfl, hL4, hK4⟩; have HL4 := Lib.hid hL4; have HK4 := Lib.hid hK4; clear hL4 hK4) | (go_at_call 16; refine (lmet_any _ _ _ _ pbs _ (last + A) (1 + j) HL4.out (WalkArith.wf_i64 (by omega))).mono ?_; rw [HMt.out]; rintro e w' ⟨rfl, rfl⟩))
              have HR2 : Hid (Q2 w3 w1.heap.size w2.heap.size pbs ss ms Q (.int .i64 (last + A)) (.int .i64 (j + 1)) w4) := Lib.hid ⟨j + 1, last + A, ahead ++ [last + A], j1, by omega, rfl, rfl, by omega, by omega, by simp; omega, HL4.out, HK2.out.trans HK4.out⟩
              first | exact ⟨HR2.out, by simp [intOf]; omega⟩ | (go_roundw; exact HR2.out; (simp [intOf]; omega))
            · by_cases j1 : j < ms.length
              · have j2 : j = 10 := by omega
                subst j2
                go_wp2_with (go_at_call 12; refine (lives_any _).mono ?_; rintro e w7 ⟨rfl, hB⟩; have HB7 := Lib.hid hB; clear hB)
                go_ret
                refine ⟨rfl, ?_⟩
                have h1 := S1.out
                have hb1 : Below w.heap.size w wr := HB4.out.trans (HK2.out.toBelow (by omega) (fun b hb x => by omega))
                exact hb1.trans (HB7.out.mono hb1.size)
              · have j2 : j = ms.length := by omega
                subst j2
                go_wp2_with (go_at_call 12; refine (lives_any _).mono ?_; rintro e w7 ⟨rfl, hB⟩; have HB7 := Lib.hid hB; clear hB)
                go_ret
                refine ⟨rfl, ?_⟩
                have h1 := S1.out
                have hb1 : Below w.heap.size w wr := HB4.out.trans (HK2.out.toBelow (by omega) (fun b hb x => by omega))
                exact hb1.trans (HB7.out.mono hb1.size)
end Go.Proofs.Ytmgjccalpdlbbaa
