/- TreePaths, walked: it answers true, and changes nothing that was there. -/
import Derived.Test.YtappaadadkoamaaTLives
import Derived.Test.YtappaadadkoamaaTPlain2
import Derived.Deep.RegionHeld3
namespace Go.Proofs.Ytappaadadkoamaa
open Go.RowKit
set_option linter.unusedVariables false

def PathsRel (w : World) (n : Nat) (i : Value) (wr : World) : Prop := ∃ k : Nat, k ≤ n ∧ i = .int .i64 k ∧ Below w.heap.size w wr

set_option maxRecDepth 100000 in
set_option maxHeartbeats 4000000 in
theorem treepaths_walk (w : World) (v : Value) (l : List Int) (dev : Int) (h : ArgInts w v l) (hwf : (Lit.int .i64 dev).wf = true) :
    Calls Try.prog 4 #[v, .int .i64 dev] w fun e w' => e = .returned (.bool true) ∧ Below w.heap.size w w' := by
  obtain ⟨i0, hi0, hz0, hz1, hz2⟩ := info_parts intInfo3
  have Hz0 := Lib.hid hz0
  have Hz1 := Lib.hid hz1
  have Hz2 := Lib.hid hz2
  have Hi0 := Lib.hid hi0
  have H := Lib.hid h
  have HW := Lib.hid hwf
  clear h hwf hz0 hz1 hz2 hi0
  go_enter Try.func4, Try.ntmps4
  go_wp2_with fail
  refine (leaves_any w v l H.out).mono ?_
  rintro e w1 ⟨vl, rfl, hI, hB⟩
  have HI1 := Lib.hid hI
  have HB1 := Lib.hid hB
  clear hI hB
  obtain ⟨zs, hzs⟩ : ∃ zs, zs = leavesOf l := ⟨_, rfl⟩
  have hz14 : zs.length ≤ 14 := by rw [hzs]; exact leavesOf_len l
  have HND : Hid (zs.Nodup) := Lib.hid (by rw [hzs]; exact leavesOf_nodup l)
  rw [← hzs] at HI1
  clear hzs
  obtain ⟨la, lc, rfl, hl1, hl2⟩ := HI1.out.form
  obtain ⟨n2, hn2⟩ : ∃ n2, n2 = around dev 22 := ⟨_, rfl⟩
  have hn0 := around_lo dev 22 (by omega)
  have hn1 := around_hi dev 22 (by omega)
  have HA : Hid (∀ W, Calls Try.prog 19 #[.int .i64 dev, .int .i64 22] W fun e w' => e = .returned (.int .i64 n2) ∧ W = w') := Lib.hid (fun W => by rw [hn2]; exact around_any dev 22 W HW.out (by omega) (by omega))
  rw [← hn2] at hn0 hn1
  clear hn2
  have HWF : Hid (∀ z ∈ zs ++ [dev, n2], (Lit.int .i64 z).wf = true) := Lib.hid (fun z hz => by
    rcases List.mem_append.1 hz with hz | hz
    · exact HI1.out.wf z hz
    · simp only [List.mem_cons, List.not_mem_nil, or_false] at hz
      rcases hz with rfl | rfl
      · exact HW.out
      · exact WalkArith.wf_i64 (by omega))
  have HC : Hid (∀ W, Keeps (fun _ => False) w1 W → ∀ j u, (zs.map (Value.int .i64))[j]? = some u → ∃ x, la = some x ∧ W.cell? (x.add j) = some u) := Lib.hid (fun W hW j u hu => by
    obtain ⟨x, hx, hc⟩ := HI1.out.cells j u hu
    exact ⟨x, hx, by rw [hW.cell (World.block_lt_of_cell? _ _ hc) (fun x => x)]; exact hc⟩)
  have HQ : Hid ((zs.map (Value.int .i64)).length = zs.length * 1) := Lib.hid (by simp)
  have HC3 := Lib.hid (ints_oneCell .i64 zs)
  have HC4 : Hid (0 + zs.length ≤ maxLen) := Lib.hid (by unfold maxLen; omega)
  have HC5 : Hid ((0 + zs.length) * 8 ≤ 140737488355328) := Lib.hid (by omega)
  have HC6 : Hid (zs.length + 2 ≤ maxLen) := Lib.hid (by unfold maxLen; omega)
  have HC7 : Hid ((zs.length + 2) * 8 ≤ 140737488355328) := Lib.hid (by omega)
  go_upto_region 3 with (first
    | (refine wpL_buildNone 22 3 i0 1 Try.underlying22 Hi0.out rfl rfl ?_; intro w2 O1 K1 S1; have HO1 := Lib.hid O1; have HK1 := Lib.hid K1; have HS1 := Lib.hid S1; clear O1 K1 S1)
    | (at_builtin; (refine wpL_append0 rfl (.tmp 10) (.tmp 11) 22 rfl w1.heap.size 3 i0 (.int .i64 0) 1 8 Try.underlying22 Hi0.out Hz0.out Hz1.out Hz2.out rfl Nat.one_pos (.slice (some ⟨w1.heap.size, 0, none⟩) 0 0) 0 [] rfl HO1.out la zs.length lc (zs.map (Value.int .i64)) rfl HQ.out (HC.out w2 HK1.out) HC3.out HC4.out HC5.out HK1.out.size ?_); intro v3 w3 hown hg; obtain ⟨a3, c3, hv3⟩ := own_form hown; rw [Nat.zero_add, List.nil_append] at hown; rw [Nat.zero_add] at hv3; subst hv3; have HO3 := Lib.hid hown; have HB3 : Hid (Below w1.heap.size w1 w3) := Lib.hid ((HK1.out.toBelow (Nat.le_refl _) (fun _ _ x => x)).grown hg HK1.out.size (fun b hb => by simp [Value.ownBlock] at hb; omega)); clear hown hg)
    | (go_at_call 19; refine (HA.out _).mono ?_; rintro e w' ⟨rfl, rfl⟩)
    | (at_builtin; (refine wpL_append rfl (.tmp 12) (.tmp 16) 22 rfl w1.heap.size 3 i0 (.int .i64 0) 1 8 Try.underlying22 Hi0.out Hz0.out Hz1.out Hz2.out rfl Nat.one_pos (.slice a3 zs.length c3) zs.length (zs.map (Value.int .i64)) rfl (HO3.out.alloc _) ⟨w3.heap.size, 0, none⟩ 2 2 [.int .i64 dev, .int .i64 n2] rfl rfl (fun j x hx => cell_add (Blk.new w3 3 [.int .i64 dev, .int .i64 n2]) hx) (by simp [Value.oneCell']) (Nat.succ_pos 1) HC6.out HC7.out (Nat.le_trans HB3.out.size (Nat.le_of_lt (Blk.new w3 3 [.int .i64 dev, .int .i64 n2]).lt)) ?_); intro v4 w4 hown hg hv; have HO4 := Lib.hid hown; have HG4 := Lib.hid hg; clear hown hg hv))
  obtain ⟨ss, hss⟩ : ∃ ss, ss = zs ++ [dev, n2] := ⟨_, rfl⟩
  have hssl : ss.length ≤ 16 := by rw [hss]; simp; omega
  have HS4 : Hid (IntsT w4 w1.heap.size w4.heap.size v4 ss) := Lib.hid (by rw [hss]; exact IntsT.ofOwn (n := zs.length + 2) (by simpa using HO4.out) HWF.out (Nat.le_refl _))
  have HB4 : Hid (Below w1.heap.size w1 w4) := Lib.hid ((HB3.out.alloc HB3.out.size _).grown HG4.out (by have := HB3.out.size; simp; omega) (fun b hb => (HO3.out.lt b hb).1))
  have HI4 : Hid (IntsT w4 w.heap.size w1.heap.size (.slice la zs.length lc) zs) := Lib.hid (HI1.out.below HB4.out)
  have HBW : Hid (Below w.heap.size w w4) := Lib.hid (HB1.out.trans (HB4.out.mono HB1.out.size))
  have HL4 : Hid (w.heap.size ≤ w1.heap.size ∧ w1.heap.size ≤ w4.heap.size) := Lib.hid ⟨HB1.out.size, HB4.out.size⟩
  clear hss HO4 HG4 HO3 HB3 HO1 HK1 HS1 HC HQ HC3 HC4 HC5 HC6 HC7 HWF HA HI1 HB1 HB4 hn0 hn1
  obtain ⟨sa, sc, rfl, _, _⟩ := HS4.out.form
  have h63 : ss.length ≤ 9223372036854775807 := by omega
  go_wp2_with fail
  go_loopw [7] (PathsRel w4 ss.length) (fun i _ => ss.length - (intOf i).toNat)
  case atStart => exact ⟨0, Nat.zero_le _, rfl, Below.refl _ _⟩
  case round =>
    obtain ⟨k, hk, rfl, hb⟩ := hrel
    have HB := Lib.hid hb
    clear hb
    by_cases hlt : k < ss.length
    · obtain ⟨d, hd⟩ : ∃ d, ss[k]? = some d := ⟨_, List.getElem?_eq_getElem hlt⟩
      obtain ⟨g, o, rfl, hc⟩ : ∃ g o, sa = some ⟨g, o, none⟩ ∧ wr.cell? ⟨g, o + k, none⟩ = some (.int .i64 d) := by
        obtain ⟨⟨a', cap', he, _, _, _, _, h6⟩, _⟩ := HS4.out.below HB.out
        simp at he
        obtain ⟨rfl, _⟩ := he
        exact h6 k d hd
      have hgl := Lib.hid (World.block_lt_of_cell? _ _ hc)
      have HCC := Lib.hid hc
      have hk0 : (0 : Int) ≤ (k : Int) := by omega
      have hk1 : (k : Int) < (ss.length : Int) := by omega
      have HI := Lib.hid (HI4.out.below HB.out)
      have HLr : Hid (w.heap.size ≤ wr.heap.size ∧ w1.heap.size ≤ wr.heap.size) := Lib.hid (by have := HL4.out; have := HB.out.size; omega)
      obtain ⟨PO, hPO⟩ : ∃ PO, PO = pathOf zs d := ⟨_, rfl⟩
      obtain ⟨BO, hBO⟩ : ∃ BO, BO = besideOf zs d := ⟨_, rfl⟩
      have hPR : pathR zs d = PO := by rw [hPO]; exact pathR_eq (by omega) HND.out
      have hBR : besideR (pathR zs d) = BO := by rw [hBO]; exact besideR_eq (by omega) HND.out
      have H20 : Hid (∀ W, Below wr.heap.size wr W → Calls Try.prog 20 #[.slice la zs.length lc, .int .i64 d] W fun e w' => ∃ v', e = .returned v' ∧ RowsT w' 0 w'.heap.size v' PO ∧ Below wr.heap.size wr w') := Lib.hid (fun W hW =>
        (path_any W w.heap.size w1.heap.size _ zs d (HI.out.below hW) (Nat.le_trans HLr.out.2 hW.size) (by omega)).mono fun e w' ⟨v', h1, h2, h3⟩ => ⟨v', h1, by rw [hPO]; exact (OwnT.rows h2 (Nat.le_refl _)).mono (Nat.zero_le _) (Nat.le_refl _), hW.trans (h3.mono hW.size)⟩)
      have H21 : Hid (∀ W, Below wr.heap.size wr W → Calls Try.prog 21 #[.slice la zs.length lc, .int .i64 d] W fun e w' => ∃ v', e = .returned v' ∧ RowsT w' 0 w'.heap.size v' PO ∧ Below wr.heap.size wr w' ∧ Below W.heap.size W w') := Lib.hid (fun W hW =>
        (rpath_any W w.heap.size w1.heap.size _ zs d (HI.out.below hW) (Nat.le_trans HLr.out.2 hW.size) (Nat.le_trans HLr.out.1 hW.size) (by omega)).mono fun e w' ⟨v', h1, h2, h3⟩ => ⟨v', h1, by rw [← hPR]; exact (OwnT.rows h2 (Nat.le_trans HLr.out.1 hW.size)).mono (Nat.zero_le _) (Nat.le_refl _), hW.trans (h3.mono hW.size), h3⟩)
      have H22 : Hid (∀ W, Below wr.heap.size wr W → Calls Try.prog 22 #[.slice la zs.length lc, .int .i64 d] W fun e w' => ∃ v', e = .returned v' ∧ RowsT w' 0 w'.heap.size v' BO ∧ Below wr.heap.size wr w') := Lib.hid (fun W hW =>
        (beside_any W w.heap.size w1.heap.size _ zs d (HI.out.below hW) (Nat.le_trans HLr.out.2 hW.size) (by omega)).mono fun e w' ⟨v', h1, h2, h3⟩ => ⟨v', h1, by rw [hBO]; exact (OwnT.rows h2 (Nat.le_refl _)).mono (Nat.zero_le _) (Nat.le_refl _), hW.trans (h3.mono hW.size)⟩)
      have H23 : Hid (∀ W, Below wr.heap.size wr W → Calls Try.prog 23 #[.slice la zs.length lc, .int .i64 d] W fun e w' => ∃ v', e = .returned v' ∧ RowsT w' 0 w'.heap.size v' BO ∧ Below wr.heap.size wr w' ∧ Below W.heap.size W w') := Lib.hid (fun W hW =>
        (rbeside_any W w.heap.size w1.heap.size _ zs d (HI.out.below hW) (Nat.le_trans HLr.out.2 hW.size) (Nat.le_trans HLr.out.1 hW.size) (by omega)).mono fun e w' ⟨v', h1, h2, h3⟩ => ⟨v', h1, by rw [← hBR]; exact (OwnT.rows h2 (Nat.le_refl _)).mono (Nat.zero_le _) (Nat.le_refl _), hW.trans (h3.mono hW.size), h3⟩)
      have H13 : Hid (∀ (W W0 : World) (u v : Value) (X : List (List Int)), RowsT W0 0 W0.heap.size u X → Below W0.heap.size W0 W → RowsT W 0 W.heap.size v X → Below wr.heap.size wr W → Calls Try.prog 13 #[u, v] W fun e w' => e = .returned (.bool true) ∧ Below wr.heap.size wr w') := Lib.hid (fun W W0 u v X h1 h2 h3 h4 => by
        have h := same2_any W _ _ _ _ u v X X (h1.below h2) h3
        rw [decide_eq_true rfl] at h
        exact h.mono fun e w' ⟨a, b⟩ => ⟨a, h4.trans (b.mono h4.size)⟩)
      clear hd hPO hBO hPR hBR HI
      go_upto_region 6 with (fail)
      go_region_held3 (fun w' => w'.cell? ⟨g, o + k, none⟩ = some (.int .i64 d)) (first | go_keep | exact HCC.out | exact (HBa.out.cell (p := ⟨g, o + k, none⟩) hgl.out).trans HCC.out | exact (HBb.out.cell (p := ⟨g, o + k, none⟩) hgl.out).trans HCC.out | exact (HBc.out.cell (p := ⟨g, o + k, none⟩) hgl.out).trans HCC.out | exact (HBd.out.cell (p := ⟨g, o + k, none⟩) hgl.out).trans HCC.out | exact (HBe.out.cell (p := ⟨g, o + k, none⟩) hgl.out).trans HCC.out | exact (HBf.out.cell (p := ⟨g, o + k, none⟩) hgl.out).trans HCC.out) (first
        | (go_at_call 20; refine (H20.out _ (Below.refl _ _).drew).mono ?_; rintro e wa ⟨va, rfl, hR, hB⟩; have HRa := Lib.hid hR; have HBa := Lib.hid hB; clear hR hB)
        | (go_at_call 21; refine (H21.out wa HBa.out).mono ?_; rintro e wb ⟨vb, rfl, hR, hB, hB'⟩; have HRb := Lib.hid hR; have HBb := Lib.hid hB; have HBb' := Lib.hid hB'; clear hR hB hB')
        | (go_at_call 13; (with_reducible refine (H13.out wb wa va vb PO HRa.out HBb'.out HRb.out HBb.out).mono ?_); rintro e wc ⟨rfl, hB⟩; have HBc := Lib.hid hB; clear hB)
        | (go_at_call 22; refine (H22.out wc HBc.out).mono ?_; rintro e wd ⟨vd, rfl, hR, hB⟩; have HRd := Lib.hid hR; have HBd := Lib.hid hB; clear hR hB)
        | (go_at_call 23; refine (H23.out wd HBd.out).mono ?_; rintro e we ⟨ve, rfl, hR, hB, hB'⟩; have HRe := Lib.hid hR; have HBe := Lib.hid hB; have HBe' := Lib.hid hB'; clear hR hB hB')
        | (go_at_call 13; (with_reducible refine (H13.out we wd vd ve BO HRd.out HBe'.out HRe.out HBe.out).mono ?_); rintro e wf ⟨rfl, hB⟩; have HBf := Lib.hid hB; clear hB))
      go_wp2
      go_roundw
      case rel => exact ⟨k + 1, hlt, rfl, HB.out.trans (HBf.out.mono HB.out.size)⟩
      case measure => simp [intOf]; omega
    · obtain rfl : k = ss.length := by omega
      go_wp2_with (go_at_call 18; refine (lives_any wr).mono ?_; rintro e w9 ⟨rfl, hB9⟩; have HB9 := Lib.hid hB9; clear hB9)
      go_ret
      have hm := HBW.out.trans (HB.out.mono HBW.out.size)
      exact ⟨rfl, hm.trans (HB9.out.mono hm.size)⟩
end Go.Proofs.Ytappaadadkoamaa
