/- TreeGrows, walked: it answers true, and changes nothing that was there. -/
import Derived.Test.YtappaadadkoamaaTWhole
import Derived.Deep.QuietTactic
import Derived.BigQuiet
namespace Go.Proofs.Ytappaadadkoamaa
open Go.RowKit
set_option linter.unusedVariables false

def GrowRel (w : World) (n : Nat) (i : Value) (wr : World) : Prop := ∃ k : Nat, k ≤ n ∧ i = .int .i64 k ∧ Keeps (fun _ => False) w wr
def GrowRel2 (w : World) (Z : List (List Int)) (x : List Int) (f k : Value) (wr : World) : Prop := ∃ j : Nat, j ≤ Z.length ∧ f = .bool (decide (x ∈ Z.take j)) ∧ k = .int .i64 j ∧ Keeps (fun _ => False) w wr
theorem quiet_q2 {P : Program} {f : FuncId} {args : Array Value} {w : World} {n : Nat} {v : Value} (h : Calls P f args (w.drewN n) fun e w' => e = .returned v ∧ ∃ q, w' = (w.drewN n).drewN q) : Calls P f args (w.drewN n) fun e w'' => e = .returned v ∧ ∃ m, w'' = w.drewN m :=
  h.mono fun _ _ ⟨he, m, hm⟩ => ⟨he, n + m, by rw [hm, World.drewN_drewN]⟩

set_option maxRecDepth 100000 in
set_option maxHeartbeats 4000000 in
theorem treegrows_walk (w : World) (v : Value) (l : List Int) (h : ArgInts w v l) :
    Calls Try.prog 8 #[v] w fun e w' => e = .returned (.bool true) ∧ Below w.heap.size w w' := by
  obtain ⟨i0, hi0, hz0, hz1, hz2⟩ := info_parts intInfo3
  have Hz0 := Lib.hid hz0
  have Hz1 := Lib.hid hz1
  have Hz2 := Lib.hid hz2
  have Hi0 := Lib.hid hi0
  have H := Lib.hid h
  clear h hz0 hz1 hz2 hi0
  go_enter Try.func8, Try.ntmps8
  go_wp2_with fail
  refine (leaves_any w v l H.out).mono ?_
  rintro e w0 ⟨vl, rfl, hI, hB⟩
  have HI0 := Lib.hid hI
  have HB0 := Lib.hid hB
  clear hI hB
  obtain ⟨zs, hzs⟩ : ∃ zs, zs = leavesOf l := ⟨_, rfl⟩
  have hz14 : zs.length ≤ 14 := by rw [hzs]; exact leavesOf_len l
  rw [← hzs] at HI0
  clear hzs
  obtain ⟨la, lc, rfl, hl1, hl2⟩ := HI0.out.form
  go_wp2_with fail
  refine (sets_any w0 w.heap.size w0.heap.size (.slice la zs.length lc) zs HI0.out (by omega)).mono ?_
  rintro e w1 ⟨va, rfl, hT, hB⟩
  obtain ⟨S, hS⟩ : ∃ S, S = setsOf zs := ⟨_, rfl⟩
  rw [← hS] at hT
  have HR1 := Lib.hid (OwnT.rows hT (Nat.le_refl _))
  have HB1 := Lib.hid hB
  obtain ⟨us, h3, _⟩ := hT
  obtain ⟨sa, sc, rfl⟩ := own_form h3
  have HI1 := Lib.hid (HI0.out.below hB)
  obtain ⟨Z, hZ⟩ : ∃ Z, Z = setsOf (zs ++ [50]) := ⟨_, rfl⟩
  have hSl : S.length = 2 * zs.length - 1 := by
    rw [hS]
    rcases Nat.eq_zero_or_pos zs.length with h0 | h0
    · have : zs = [] := List.eq_nil_of_length_eq_zero h0
      subst this
      rfl
    · exact (setsF_count 16 zs (by omega) h0).1
  have hZl : Z.length = 2 * zs.length + 1 := by
    rw [hZ]
    have := (setsF_count 16 (zs ++ [50]) (by simp; omega) (by simp)).1
    unfold setsOf
    rw [this]; simp; omega
  have HG : Hid (∀ x ∈ S, pw x.length = true → x ∈ Z) := Lib.hid (fun x hx hp => by
    rw [hS] at hx
    rw [hZ]
    exact setsF_grow 16 16 zs x 50 (by omega) (by omega) hx hp)
  have HMem : Hid (∀ x ∈ S, x.length ≤ 14 ∧ 1 ≤ x.length) := Lib.hid (fun x hx => by rw [hS] at hx; have := setsF_mem3 16 zs x hx; omega)
  have HZ := Lib.hid hZ
  obtain ⟨F, hF⟩ : ∃ F : Nat, F = if zs.length = 0 then 1 else 0 := ⟨_, rfl⟩
  have hF1 : F ≤ 1 := by rw [hF]; split <;> omega
  have hFZ : Z.length + F = S.length + 2 := by rw [hF]; split <;> omega
  have hS30 : S.length ≤ 30 := by omega
  have hZ30 : Z.length ≤ 30 := by omega
  have HFX : Hid (∀ W, Calls Try.prog 26 #[.int .i64 zs.length] W fun e w' => e = .returned (.int .i64 F) ∧ W = w') := Lib.hid (fun W => (fix_any W zs.length).mono fun e w' ⟨h1, h2⟩ => ⟨by rw [h1, hF]; split <;> rfl, h2⟩)
  clear hS hZ hF h3 hB hSl hZl
  have HWF : Hid (∀ z ∈ zs ++ [50], (Lit.int .i64 z).wf = true) := Lib.hid (fun z hz => by
    rcases List.mem_append.1 hz with hz | hz
    · exact HI1.out.wf z hz
    · simp only [List.mem_cons, List.not_mem_nil, or_false] at hz
      subst hz
      exact WalkArith.wf_i64 (by omega))
  have HC : Hid (∀ W, Keeps (fun _ => False) w1 W → ∀ j u, (zs.map (Value.int .i64))[j]? = some u → ∃ x, la = some x ∧ W.cell? (x.add j) = some u) := Lib.hid (fun W hW j u hu => by
    obtain ⟨x, hx, hc⟩ := HI1.out.cells j u hu
    exact ⟨x, hx, by rw [hW.cell (World.block_lt_of_cell? _ _ hc) (fun x => x)]; exact hc⟩)
  have HQ : Hid ((zs.map (Value.int .i64)).length = zs.length * 1) := Lib.hid (by simp)
  have HC3 := Lib.hid (ints_oneCell .i64 zs)
  have HC4 : Hid (0 + zs.length ≤ maxLen) := Lib.hid (by unfold maxLen; omega)
  have HC5 : Hid ((0 + zs.length) * 8 ≤ 140737488355328) := Lib.hid (by omega)
  have HC6 : Hid (zs.length + 1 ≤ maxLen) := Lib.hid (by unfold maxLen; omega)
  have HC7 : Hid ((zs.length + 1) * 8 ≤ 140737488355328) := Lib.hid (by omega)
  have HC8 : Hid ((zs ++ [50]).length ≤ 16) := Lib.hid (by simp; omega)
  go_upto_region 4 with (first
    | (refine wpL_buildNone 22 3 i0 1 Try.underlying22 Hi0.out rfl rfl ?_; intro w2 O1 K1 S1; have HO1 := Lib.hid O1; have HK1 := Lib.hid K1; have HS1 := Lib.hid S1; clear O1 K1 S1)
    | (at_builtin; (refine wpL_append0 rfl (.tmp 13) (.tmp 14) 22 rfl w1.heap.size 3 i0 (.int .i64 0) 1 8 Try.underlying22 Hi0.out Hz0.out Hz1.out Hz2.out rfl Nat.one_pos (.slice (some ⟨w1.heap.size, 0, none⟩) 0 0) 0 [] rfl HO1.out la zs.length lc (zs.map (Value.int .i64)) rfl HQ.out (HC.out w2 HK1.out) HC3.out HC4.out HC5.out HK1.out.size ?_); intro v3 w3 hown hg; obtain ⟨a3, c3, hv3⟩ := own_form hown; rw [Nat.zero_add, List.nil_append] at hown; rw [Nat.zero_add] at hv3; subst hv3; have HO3 := Lib.hid hown; have HB3 : Hid (Below w1.heap.size w1 w3) := Lib.hid ((HK1.out.toBelow (Nat.le_refl _) (fun _ _ x => x)).grown hg HK1.out.size (fun b hb => by simp [Value.ownBlock] at hb; omega)); clear hown hg)
    | (at_builtin; (refine wpL_append rfl (.tmp 15) (.tmp 16) 22 rfl w1.heap.size 3 i0 (.int .i64 0) 1 8 Try.underlying22 Hi0.out Hz0.out Hz1.out Hz2.out rfl Nat.one_pos (.slice a3 zs.length c3) zs.length (zs.map (Value.int .i64)) rfl (HO3.out.alloc _) ⟨w3.heap.size, 0, none⟩ 1 1 [.int .i64 50] rfl rfl (fun j x hx => cell_add (Blk.new w3 3 [.int .i64 50]) hx) (by simp [Value.oneCell']) (Nat.succ_pos 0) HC6.out HC7.out (Nat.le_trans HB3.out.size (Nat.le_of_lt (Blk.new w3 3 [.int .i64 50]).lt)) ?_); intro v4 w4 hown hg hv; have HO4 := Lib.hid hown; have HG4 := Lib.hid hg; clear hown hg hv)
    | (go_at_call 12; refine (sets_any w4 w1.heap.size w4.heap.size v4 (zs ++ [50]) (IntsT.ofOwn (n := zs.length + 1) (by simpa using HO4.out) HWF.out (Nat.le_refl _)) HC8.out).mono ?_; rw [← HZ.out]; rintro e w5 ⟨vz, rfl, hT5, hB5⟩; have HR5 := Lib.hid (OwnT.rows hT5 (Nat.le_refl _)); have HB5 := Lib.hid hB5; obtain ⟨us5, h35, _⟩ := hT5; obtain ⟨za, zc, rfl⟩ := own_form h35; clear h35 hB5))
  have HB4 : Hid (Below w1.heap.size w1 w4) := Lib.hid ((HB3.out.alloc HB3.out.size _).grown HG4.out (by have := HB3.out.size; simp; omega) (fun b hb => (HO3.out.lt b hb).1))
  have HB15 : Hid (Below w1.heap.size w1 w5) := Lib.hid (HB4.out.trans (HB5.out.mono HB4.out.size))
  have HS5 : Hid (RowsT w5 0 w5.heap.size (.slice sa S.length sc) S) := Lib.hid ((HR1.out.below HB15.out).mono (Nat.zero_le _) HB15.out.size)
  have HZ5 : Hid (RowsT w5 0 w5.heap.size (.slice za Z.length zc) Z) := Lib.hid (HR5.out.mono (Nat.zero_le _) (Nat.le_refl _))
  have hm1 := HB0.out.trans (HB1.out.mono HB0.out.size)
  have HBW : Hid (Below w.heap.size w w5) := Lib.hid (hm1.trans (HB15.out.mono hm1.size))
  clear hm1 HB4 HB15 HR1 HR5 HB5 HG4 HO4 HB3 HO3 HO1 HK1 HS1 HC HQ HC3 HC4 HC5 HC6 HC7 HC8 HWF HI1 HI0 HB0 HB1 HZ H
  go_wp2_with fail
  go_loopw [6] (GrowRel w5 S.length) (fun i _ => S.length - (intOf i).toNat)
  case atStart => exact ⟨0, Nat.zero_le _, rfl, Keeps.refl _ _⟩
  case round =>
    obtain ⟨i, hi, rfl, hK⟩ := hrel
    have HK := Lib.hid hK
    clear hK
    by_cases hlt : i < S.length
    · obtain ⟨x, hx⟩ : ∃ x, S[i]? = some x := ⟨_, List.getElem?_eq_getElem hlt⟩
      have hxS := List.mem_of_getElem? hx
      obtain ⟨hx14, hx1⟩ := HMem.out x hxS
      obtain ⟨g, o, u, rfl, hc0, hI⟩ := HS5.out.at' hx
      obtain ⟨xa, xc, rfl, _, _⟩ := hI.form
      have HXI := Lib.hid hI
      have HC0 := Lib.hid hc0
      have HXS := Lib.hid hxS
      have hi0 : (0 : Int) ≤ (i : Int) := by omega
      have hi1 : (i : Int) < (S.length : Int) := by omega
      have hit : (i : Int).toNat = i := by omega
      clear hx hI hc0 hxS
      go_wp2_with fail
      go_loopw [7, 8] (GrowRel2 w5 Z x) (fun _ j _ => Z.length - (intOf j).toNat)
      case atStart => exact ⟨0, Nat.zero_le _, by simp, rfl, HK.out⟩
      case round =>
        obtain ⟨j, hj, rfl, rfl, hK6⟩ := hrel
        have HK6 := Lib.hid hK6
        clear hK6
        have hc : wr.cell? ⟨g, o + i, none⟩ = some (.slice xa x.length xc) := by rw [HK6.out.cell (p := ⟨g, o + i, none⟩) (World.block_lt_of_cell? _ _ HC0.out) (fun x => x)]; exact HC0.out
        by_cases hjz : j < Z.length
        · obtain ⟨z, hz⟩ : ∃ z, Z[j]? = some z := ⟨_, List.getElem?_eq_getElem hjz⟩
          obtain ⟨gz, oz, u, rfl, hd0, hIz⟩ := HZ5.out.at' hz
          obtain ⟨ya, yc, rfl, _, _⟩ := hIz.form
          have hd : wr.cell? ⟨gz, oz + j, none⟩ = some (.slice ya z.length yc) := by rw [HK6.out.cell (p := ⟨gz, oz + j, none⟩) (World.block_lt_of_cell? _ _ hd0) (fun x => x)]; exact hd0
          have HT : Hid (decide (x ∈ Z.take (j + 1)) = (decide (x ∈ Z.take j) || decide (x = z))) := Lib.hid (by
            obtain ⟨h1, e1⟩ := List.getElem?_eq_some_iff.1 hz
            rw [List.take_succ_eq_append_getElem h1, e1]
            simp [List.mem_append, Bool.decide_or])
          have HCs : Hid (∀ n, Calls Try.prog 17 #[.slice xa x.length xc, .slice ya z.length yc] (wr.drewN n) fun e w'' => e = .returned (.bool (decide (x = z))) ∧ ∃ m, w'' = wr.drewN m) := Lib.hid (fun n =>
            quiet_q2 (same_any (wr.drewN n) _ _ _ _ _ _ x z (HXI.out.keeps (HK6.out.drewN n) (fun _ _ _ x => x)).1 (hIz.keeps (HK6.out.drewN n) (fun _ _ _ x => x)).1))
          have hj0 : (0 : Int) ≤ (j : Int) := by omega
          have hj1 : (j : Int) < (Z.length : Int) := by omega
          have hjt : (j : Int).toNat = j := by omega
          obtain ⟨fb, hfb⟩ : ∃ fb, fb = decide (x ∈ Z.take j) := ⟨_, rfl⟩
          obtain ⟨sb, hsb⟩ : ∃ sb, sb = decide (x = z) := ⟨_, rfl⟩
          rw [← hfb] at HT ⊢
          rw [← hsb] at HT HCs
          clear hz hd0 hIz hfb hsb
          cases fb
          · go_wp2_with fail
            go_quiet ((go_at_call 17; exact HCs.out _))
            have HK7 := Lib.hid (HK6.out.drewN nq)
            go_wp2
            go_roundw
            case rel => exact ⟨j + 1, hjz, by rw [HT.out]; rfl, rfl, HK7.out⟩
            case measure => simp [intOf]; omega
          · go_wp2_with fail
            go_quiet (fail)
            have HK7 := Lib.hid (HK6.out.drewN nq)
            go_wp2
            go_roundw
            case rel => exact ⟨j + 1, hjz, by rw [HT.out]; rfl, rfl, HK7.out⟩
            case measure => simp [intOf]; omega
        · obtain rfl : j = Z.length := by omega
          rw [List.take_length]
          have HWh := Lib.hid (whole_any wr x.length hx1 hx14)
          rcases hp : pw x.length with _ | _
          · rw [hp] at HWh
            clear hp
            go_wp2_with (go_at_call 25; refine HWh.out.mono ?_; rintro e w' ⟨rfl, rfl⟩)
            go_roundw
            case rel => exact ⟨i + 1, hlt, rfl, HK6.out⟩
            case measure => simp [intOf]; omega
          · rw [hp] at HWh
            rw [decide_eq_true (HG.out x HXS.out hp)]
            clear hp
            go_wp2_with (go_at_call 25; refine HWh.out.mono ?_; rintro e w' ⟨rfl, rfl⟩)
            go_roundw
            case rel => exact ⟨i + 1, hlt, rfl, HK6.out⟩
            case measure => simp [intOf]; omega
    · obtain rfl : i = S.length := by omega
      have e2 : ((Z.length : Int) == (S.length : Int) + 2 - (F : Int)) = true := by
        have : (Z.length : Int) = (S.length : Int) + 2 - (F : Int) := by omega
        rw [this]; simp
      go_wp2_with (first | (go_at_call 26; refine (HFX.out _).mono ?_; rintro e w' ⟨rfl, rfl⟩) | (go_at_call 18; refine (lives_any wr).mono ?_; rintro e w9 ⟨rfl, hB9⟩; have HB9 := Lib.hid hB9; clear hB9))
      go_ret
      have hm := HBW.out.trans ((HK.out.toBelow (Nat.le_refl _) (fun _ _ x => x)).mono HBW.out.size)
      exact ⟨rfl, hm.trans (HB9.out.mono hm.size)⟩
end Go.Proofs.Ytappaadadkoamaa
