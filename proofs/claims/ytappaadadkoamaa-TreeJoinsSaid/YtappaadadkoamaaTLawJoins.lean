/- TreeJoins, walked: it answers true, and changes nothing that was there. -/
import Derived.Test.YtappaadadkoamaaTLives
import Derived.Test.YtappaadadkoamaaTPlain4
import Derived.IntWalk
namespace Go.Proofs.Ytappaadadkoamaa
open Go.RowKit
set_option linter.unusedVariables false

theorem own_blockI {w : World} {B g : Nat} {us : List Value} (hB : Blk w g 3 us) (hb : B ≤ g) (hl : us.length ≤ 1000) : w.ownsRow B 3 1 (.slice (some ⟨g, 0, none⟩) us.length us.length) us.length us :=
  ⟨by simp, .inr ⟨g, us.length, us.toArray, rfl, hb, hB, Nat.le_refl _, by unfold maxLen; omega, by simp, by simp⟩⟩
def JoinRel (w3 : World) (d : Int) (B : List (List Int)) (s9 i : Value) (wr : World) : Prop :=
  ∃ k : Nat, k ≤ B.length ∧ i = .int .i64 k ∧ wr.ownsRow w3.heap.size 3 1 s9 (metOf d B k).length ((metOf d B k).map (Value.int .i64)) ∧ Below w3.heap.size w3 wr
def JoinRel2 (w3 : World) (M b : List Int) (s9 j : Value) (wr : World) : Prop :=
  ∃ k : Nat, k ≤ b.length ∧ j = .int .i64 k ∧ wr.ownsRow w3.heap.size 3 1 s9 (M ++ b.take k).length ((M ++ b.take k).map (Value.int .i64)) ∧ Below w3.heap.size w3 wr

set_option maxRecDepth 100000 in
set_option maxHeartbeats 4000000 in
theorem treejoins_walk (w : World) (v : Value) (l : List Int) (which : Int) (h : ArgInts w v l) (hwf : (Lit.int .i64 which).wf = true) :
    Calls Try.prog 7 #[v, .int .i64 which] w fun e w' => e = .returned (.bool true) ∧ Below w.heap.size w w' := by
  obtain ⟨i1, hi1, hy0, hy1, hy2⟩ := info_parts intInfo3
  have Hy0 := Lib.hid hy0
  have Hy1 := Lib.hid hy1
  have Hy2 := Lib.hid hy2
  have Hi1 := Lib.hid hi1
  have H := Lib.hid h
  have HW := Lib.hid hwf
  clear h hwf hy0 hy1 hy2 hi1
  go_enter Try.func7, Try.ntmps7
  go_wp2_with fail
  refine (leaves_any w v l H.out).mono ?_
  rintro e w1 ⟨vl, rfl, hI, hB⟩
  have HI1 := Lib.hid hI
  have HB1 := Lib.hid hB
  clear hI hB
  obtain ⟨zs, hzs⟩ : ∃ zs, zs = leavesOf l := ⟨_, rfl⟩
  have hz14 : zs.length ≤ 14 := by rw [hzs]; exact leavesOf_len l
  have HND : Hid (zs.Nodup) := Lib.hid (by rw [hzs]; exact leavesOf_nodup l)
  rw [← hzs] at HI1
  clear hzs
  obtain ⟨la, lc, rfl, hl1, hl2⟩ := HI1.out.form
  have h63 : zs.length ≤ 9223372036854775807 := by omega
  by_cases h0 : zs.length = 0
  · have hz : zs = [] := List.eq_nil_of_length_eq_zero h0
    subst hz
    clear h0
    go_wp2_with (go_at_call 18; refine (lives_any w1).mono ?_; rintro e w3 ⟨rfl, hB3⟩; have HB3 := Lib.hid hB3; clear hB3)
    go_ret
    exact ⟨rfl, HB1.out.trans (HB3.out.mono HB1.out.size)⟩
  · have e0 : ((zs.length : Int) == 0) = false := by simpa using h0
    obtain ⟨k, hk⟩ : ∃ k : Nat, (k : Int) = around which zs.length := ⟨(around which zs.length).toNat, Int.toNat_of_nonneg (around_lo _ _ (by omega))⟩
    have hk1 : k < zs.length := by have := around_hi which zs.length (by omega); omega
    have HA := Lib.hid (show Calls Try.prog 19 #[.int .i64 which, .int .i64 zs.length] w1 fun e w' => e = .returned (.int .i64 k) ∧ w1 = w' by rw [hk]; exact around_any which zs.length w1 HW.out (by omega) (by omega))
    obtain ⟨d, hd⟩ : ∃ d, zs[k]? = some d := ⟨_, List.getElem?_eq_getElem hk1⟩
    have HD : Hid (d ∈ zs) := Lib.hid (List.mem_of_getElem? hd)
    obtain ⟨g, o, rfl, hc⟩ : ∃ g o, la = some ⟨g, o, none⟩ ∧ w1.cell? ⟨g, o + k, none⟩ = some (.int .i64 d) := by
      obtain ⟨⟨a', cap', he, _, _, _, _, h6⟩, _⟩ := HI1.out
      simp at he
      obtain ⟨rfl, _⟩ := he
      exact h6 k d hd
    have HPO := Lib.hid (path_ok (by omega : zs.length ≤ 16) HD.out)
    have HPJ := Lib.hid (path_join (by omega : zs.length ≤ 16) HND.out HD.out)
    have hk0 : (0 : Int) ≤ (k : Int) := by omega
    have hkz : (k : Int) < (zs.length : Int) := by omega
    clear hk hd h0
    obtain ⟨P, hP⟩ : ∃ P, P = pathOf zs d := ⟨_, rfl⟩
    obtain ⟨B, hB⟩ : ∃ B, B = besideOf zs d := ⟨_, rfl⟩
    have HPE := Lib.hid hP
    have HBE := Lib.hid hB
    rw [← hP] at HPO HPJ
    rw [← hB] at HPJ
    clear hP hB
    have hpp := HPO.out.pos
    have hpl := HPO.out.len
    have hcl : clog zs.length ≤ 4 := by unfold clog; split <;> (try split) <;> (try split) <;> (try split) <;> omega
    have hp5 : P.length ≤ 5 := by omega
    have hbl := HPJ.out.len
    have hb4 : B.length ≤ 4 := by omega
    have hbp : (((B.length : Int) + 1) != (P.length : Int)) = false := by rw [← hbl]; simp
    clear hpl hcl
    go_wp2_with (first | (go_at_call 19; refine HA.out.mono ?_; rintro e w' ⟨rfl, rfl⟩) | (go_at_call 20; refine (path_any w1 w.heap.size w1.heap.size (.slice (some ⟨g, o, none⟩) zs.length lc) zs d HI1.out (Nat.le_refl _) (by omega)).mono ?_; rw [← HPE.out]; rintro e w2 ⟨v2, rfl, h2, hB2⟩; have HR2 := Lib.hid (OwnT.rows h2 (Nat.le_refl _)); obtain ⟨us, h3, _⟩ := h2; obtain ⟨pa, pc, rfl⟩ := own_form h3; have HB2 := Lib.hid hB2; clear h3 hB2) | (go_at_call 22; refine (beside_any w2 w.heap.size w1.heap.size (.slice (some ⟨g, o, none⟩) zs.length lc) zs d (HI1.out.below HB2.out) HB2.out.size (by omega)).mono ?_; rw [← HBE.out]; rintro e w3 ⟨v3, rfl, h2, hB3⟩; have HR3 := Lib.hid (OwnT.rows h2 (Nat.le_refl _)); obtain ⟨us3, h3, _⟩ := h2; obtain ⟨ba, bc, rfl⟩ := own_form h3; have HB3 := Lib.hid hB3; clear h3 hB3))
    have HP3 : Hid (RowsT w3 0 w3.heap.size (.slice pa P.length pc) P) := Lib.hid ((HR2.out.below HB3.out).mono (Nat.zero_le _) HB3.out.size)
    have HQ3 : Hid (RowsT w3 0 w3.heap.size (.slice ba B.length bc) B) := Lib.hid (HR3.out.mono (Nat.zero_le _) (Nat.le_refl _))
    have hm2 := HB1.out.trans (HB2.out.mono HB1.out.size)
    have HBW := Lib.hid (hm2.trans (HB3.out.mono hm2.size))
    have HDW : Hid ((Lit.int .i64 d).wf = true) := Lib.hid (HI1.out.wf d HD.out)
    clear hm2 HI1 HB1 HB2 HB3 HR2 HR3 HA hc hbp e0
    go_loopw [9, 10] (JoinRel w3 d B) (fun _ i _ => B.length - (intOf i).toNat)
    case atStart => exact ⟨0, Nat.zero_le _, rfl, own_blockI (us := [.int .i64 d]) (Blk.new w3 3 [.int .i64 d]) (Nat.le_refl _) (by simp), (Below.refl _ _).alloc (Nat.le_refl _) _⟩
    case round =>
      obtain ⟨i, hi, rfl, hO, hb⟩ := hrel
      obtain ⟨ma, mc, rfl⟩ := own_form hO
      obtain ⟨y, hy⟩ : ∃ y, P[i]? = some y := ⟨_, List.getElem?_eq_getElem (by omega)⟩
      obtain ⟨hml, hmm⟩ := metOf_ok HPJ.out HPO.out.head i y hy
      obtain ⟨M, hM⟩ : ∃ M, M = metOf d B i := ⟨_, rfl⟩
      rw [← hM] at hO hml hmm ⊢
      have HM := Lib.hid hM
      have HO := Lib.hid hO
      have HB := Lib.hid hb
      have HMM := Lib.hid hmm
      have HML := Lib.hid hml
      clear hM hO hb hmm
      obtain ⟨gp, op, u, rfl, hcy0, hI⟩ := HP3.out.at' hy
      obtain ⟨ya, yc, rfl, hy1, hy2⟩ := hI.form
      have HYI := Lib.hid hI
      have HCY := Lib.hid hcy0
      have HY := Lib.hid hy
      clear hI
      by_cases hlt : i < B.length
      · obtain ⟨x, hx⟩ : ∃ x, P[i + 1]? = some x := ⟨_, List.getElem?_eq_getElem (by omega)⟩
        obtain ⟨b, hbb⟩ : ∃ b, B[i]? = some b := ⟨_, List.getElem?_eq_getElem hlt⟩
        have hJ := HPJ.out.at' i x y b hy hx hbb
        obtain ⟨gp', op', u, he, hcx, hIx⟩ := HP3.out.at' hx
        simp only [Option.some.injEq, Addr.mk.injEq] at he
        obtain ⟨rfl, rfl, -⟩ := he
        obtain ⟨gb, ob, u, rfl, hcb0, hIb⟩ := HQ3.out.at' hbb
        obtain ⟨xa, xc, rfl, _, _⟩ := hIx.form
        obtain ⟨ba', bc', rfl, hb1, hb2⟩ := hIb.form
        have HXI := Lib.hid hIx
        have HBI := Lib.hid hIb
        have HCB := Lib.hid hcb0
        have HBB := Lib.hid hbb
        have HCX := Lib.hid hcx
        have HJ := Lib.hid hJ
        have hx14 : x.length ≤ 14 := by
          have := pathR_bd (zs := zs) (d := d) (x := x) (by rw [pathR_eq (by omega) HND.out, ← HPE.out]; exact List.mem_of_getElem? hx)
          omega
        have hy14 : y.length ≤ 14 := by have := hJ.len; omega
        have hb14 : b.length ≤ 14 := by have := hJ.len; omega
        have HYB : Hid (decide (b = y) = false) := Lib.hid (decide_eq_false (fun e => by
          have hd : d ∈ y := (HMM.out d).1 (by rw [HM.out]; simp [metOf])
          exact hJ.apart d hd (e ▸ hd)))
        have hi0 : (0 : Int) ≤ (i : Int) := by omega
        have hi1 : (i : Int) < (B.length : Int) := by omega
        have hip : (i : Int) < (P.length : Int) := by omega
        have hip2 : (0 : Int) ≤ (i : Int) + 1 := by omega
        have hip3 : (i : Int) + 1 < (P.length : Int) := by omega
        have hit : (i : Int).toNat = i := by omega
        have hit1 : ((i : Int) + 1).toNat = i + 1 := by omega
        have HCl : Hid (∀ W, Below w3.heap.size w3 W → W.cell? ⟨gp, op + i, none⟩ = some (.slice ya y.length yc) ∧ W.cell? ⟨gb, ob + i, none⟩ = some (.slice ba' b.length bc')) := Lib.hid (fun W hW => ⟨(hW.cell (p := ⟨gp, op + i, none⟩) (World.block_lt_of_cell? _ _ HCY.out)).trans HCY.out, (hW.cell (p := ⟨gb, ob + i, none⟩) (World.block_lt_of_cell? _ _ HCB.out)).trans HCB.out⟩)
        have hcx2 : wr.cell? ⟨gp, op + (i + 1), none⟩ = some (.slice xa x.length xc) := (HB.out.cell (p := ⟨gp, op + (i + 1), none⟩) (World.block_lt_of_cell? _ _ hcx)).trans hcx
        clear hJ hx hbb hcx hIx hcb0 hIb hcy0 hy hml
        rcases HJ.out.kids with hk | hk
        · have HKK := Lib.hid hk
          clear hk
          go_upto_region 14 with (go_at_call 15; refine (kids_any wr _ _ (.slice xa x.length xc) x (HXI.out.below HB.out) (by omega)).mono ?_; rintro e w5 ⟨one, two, rfl, q1, q2, hB5⟩; rw [HKK.out] at q1 q2; obtain ⟨a1, c1, rfl, _, _⟩ := q1.form; obtain ⟨a2, c2, rfl, _, _⟩ := q2.form; have HQ1 := Lib.hid q1; have HQ2 := Lib.hid q2; have HB5 := Lib.hid hB5; have HW5 := Lib.hid (HB.out.trans (hB5.mono HB.out.size)); obtain ⟨cy5, cb5⟩ := HCl.out w5 HW5.out; clear q1 q2 hB5)
          have HY5 := Lib.hid (HYI.out.below HW5.out)
          have HBb5 := Lib.hid (HBI.out.below HW5.out)
          have HS : Hid (∀ (W : World) (lo hi lo' hi' : Nat) (u v : Value) (X Y : List Int) (t : Bool), IntsT w5 lo hi u X → IntsT w5 lo' hi' v Y → decide (X = Y) = t → Keeps (fun _ => False) w5 W → Calls Try.prog 17 #[u, v] W fun e w' => e = .returned (.bool t) ∧ Keeps (fun _ => False) w5 w' ∧ Below w3.heap.size w3 w') := Lib.hid (fun W lo hi lo' hi' u v X Y t h1 h2 h3 h4 => by
            have h := same_any W _ _ _ _ u v X Y (h1.keeps h4 (fun _ _ _ x => x)).1 (h2.keeps h4 (fun _ _ _ x => x)).1
            rw [h3] at h
            refine h.mono fun e w' ⟨he, q, hq⟩ => ⟨he, by rw [hq]; exact h4.drewN q, ?_⟩
            rw [hq]
            exact HW5.out.trans ((h4.drewN q).toBelow HW5.out.size (fun _ _ x => x)))
          go_wp2_with (first
            | (go_at_call 17; (with_reducible refine (HS.out _ _ _ _ _ _ _ y y true HQ1.out HY5.out (decide_eq_true rfl) (Keeps.refl _ w5)).mono ?_); rintro e wa ⟨rfl, hK, hW⟩; have HKa := Lib.hid hK; have HWa := Lib.hid hW; obtain ⟨cya, cba⟩ := HCl.out _ HWa.out; clear hK hW)
            | (go_at_call 17; (with_reducible refine (HS.out _ _ _ _ _ _ _ b b true HQ2.out HBb5.out (decide_eq_true rfl) HKa.out).mono ?_); rintro e wb ⟨rfl, hK, hW⟩; have HKb := Lib.hid hK; have HWb := Lib.hid hW; obtain ⟨cyb, cbb⟩ := HCl.out _ HWb.out; clear hK hW)
            | (go_at_call 17; (with_reducible refine (HS.out _ _ _ _ _ _ _ b y false HQ2.out HY5.out HYB.out HKb.out).mono ?_); rintro e wc ⟨rfl, hK, hW⟩; have HKc := Lib.hid hK; have HWc := Lib.hid hW; obtain ⟨cyc, cbc⟩ := HCl.out _ HWc.out; clear hK hW))
          have HOc : Hid (wc.ownsRow w3.heap.size 3 1 (.slice ma M.length mc) M.length (M.map (Value.int .i64))) := Lib.hid (ownsRow_keeps (ownsRow_keeps HO.out (Keeps.below HB5.out) (fun b hb x => by have := (HO.out.lt b hb).2; omega)) HKc.out (fun _ _ x => x))
          clear HQ1 HQ2 HS HB5 HW5 HY5 HBb5 HKa HKb HKc HKK HO
          clear cy5 cb5 cya cba cyb cbb cyc cbc hcx2
          go_loopw [9, 15] (JoinRel2 w3 M b) (fun _ j _ => b.length - (intOf j).toNat)
          case atStart => exact ⟨0, Nat.zero_le _, rfl, by simpa using HOc.out, HWc.out⟩
          case round =>
            obtain ⟨j, hj, rfl, hO6, hB6⟩ := hrel
            obtain ⟨na, nc, rfl⟩ := own_form hO6
            obtain ⟨N, hN⟩ : ∃ N, N = M ++ b.take j := ⟨_, rfl⟩
            have hNl : N.length ≤ 28 := by have := HML.out; rw [hN, List.length_append, List.length_take]; omega
            rw [← hN] at hO6 ⊢
            have HN := Lib.hid hN
            have HO6 := Lib.hid hO6
            have HB6 := Lib.hid hB6
            clear hN hO6 hB6
            obtain ⟨cy6, cb6⟩ := HCl.out _ HB6.out
            by_cases hjb : j < b.length
            · obtain ⟨z, hz⟩ : ∃ z, b[j]? = some z := ⟨_, List.getElem?_eq_getElem hjb⟩
              obtain ⟨gz, oz, rfl, cz⟩ : ∃ gz oz, ba' = some ⟨gz, oz, none⟩ ∧ wr.cell? ⟨gz, oz + j, none⟩ = some (.int .i64 z) := by
                obtain ⟨⟨a', cap', he, _, _, _, _, h6⟩, _⟩ := HBI.out
                simp at he
                obtain ⟨rfl, _⟩ := he
                obtain ⟨gz, oz, e, hc⟩ := h6 j z hz
                exact ⟨gz, oz, e, (HB6.out.cell (p := ⟨gz, oz + j, none⟩) (World.block_lt_of_cell? _ _ hc)).trans hc⟩
              have hzb := List.mem_of_getElem? hz
              have HNo : Hid (z ∉ N) := Lib.hid (fun hm => by
                rw [HN.out, List.mem_append] at hm
                rcases hm with hm | hm
                · exact HJ.out.apart z ((HMM.out z).1 hm) hzb
                · exact nodup_take HJ.out.nodup hz hm)
              have HNW : Hid (∀ q ∈ N, (Lit.int .i64 q).wf = true) := Lib.hid (fun q hq => by
                rw [HN.out, List.mem_append] at hq
                rcases hq with hq | hq
                · exact HYI.out.wf q ((HMM.out q).1 hq)
                · exact HBI.out.wf q (List.mem_of_mem_take hq))
              have HNI : Hid (IntsT wr w3.heap.size wr.heap.size (.slice na N.length nc) N) := Lib.hid (IntsT.ofOwn HO6.out HNW.out (Nat.le_refl _))
              have HT : Hid (M ++ b.take (j + 1) = N ++ [z]) := Lib.hid (by
                obtain ⟨h1, e1⟩ := List.getElem?_eq_some_iff.1 hz
                rw [List.take_succ_eq_append_getElem h1, e1, HN.out, List.append_assoc])
              have hj0 : (0 : Int) ≤ (j : Int) := by omega
              have hj1 : (j : Int) < (b.length : Int) := by omega
              have hjt : (j : Int).toNat = j := by omega
              clear hz hzb
              go_wp2_with (first
                | (go_at_call 24; refine (has_no wr _ _ _ N z HNI.out.1 HNo.out).mono ?_; rintro e w' ⟨rfl, rfl⟩)
                | (at_builtin; (refine wpL_append rfl (.tmp 110) (.tmp 118) 22 rfl w3.heap.size 3 i1 (.int .i64 0) 1 8 Try.underlying22 Hi1.out Hy0.out Hy1.out Hy2.out rfl Nat.one_pos (.slice na N.length nc) N.length (N.map (Value.int .i64)) rfl (HO6.out.alloc _) ⟨wr.heap.size, 0, none⟩ 1 1 [.int .i64 z] rfl rfl (fun j x hx => cell_add (Blk.new wr 3 [.int .i64 z]) hx) ?q1 Nat.one_pos ?q2 ?q3 ?q4 ?_); rotate_right; intro v' w7 hown hg hv; have HO7 := Lib.hid hown; have HG7 := Lib.hid hg; clear hown hg hv))
              case q1 => simp [Value.oneCell']
              case q2 => unfold maxLen; omega
              case q3 => omega
              case q4 => have := HB6.out.size; simp; omega
              go_roundw
              case rel => exact ⟨j + 1, hjb, rfl, by rw [HT.out]; simpa using HO7.out, (HB6.out.alloc HB6.out.size _).grown HG7.out (by have := HB6.out.size; simp; omega) (fun b hb => (HO6.out.lt b hb).1)⟩
              case measure => simp [intOf] <;> omega
            · obtain rfl : j = b.length := by omega
              have HT : Hid (metOf d B (i + 1) = N) := Lib.hid (by rw [metOf_succ HBB.out, ← HM.out, HN.out, List.take_length])
              go_wp2
              go_roundw
              case rel => exact ⟨i + 1, hlt, rfl, by rw [HT.out]; exact HO6.out, HB6.out⟩
              case measure => simp [intOf] <;> omega
        · have HKK := Lib.hid hk
          clear hk
          go_upto_region 14 with (go_at_call 15; refine (kids_any wr _ _ (.slice xa x.length xc) x (HXI.out.below HB.out) (by omega)).mono ?_; rintro e w5 ⟨one, two, rfl, q1, q2, hB5⟩; rw [HKK.out] at q1 q2; obtain ⟨a1, c1, rfl, _, _⟩ := q1.form; obtain ⟨a2, c2, rfl, _, _⟩ := q2.form; have HQ1 := Lib.hid q1; have HQ2 := Lib.hid q2; have HB5 := Lib.hid hB5; have HW5 := Lib.hid (HB.out.trans (hB5.mono HB.out.size)); obtain ⟨cy5, cb5⟩ := HCl.out w5 HW5.out; clear q1 q2 hB5)
          have HY5 := Lib.hid (HYI.out.below HW5.out)
          have HBb5 := Lib.hid (HBI.out.below HW5.out)
          have HS : Hid (∀ (W : World) (lo hi lo' hi' : Nat) (u v : Value) (X Y : List Int) (t : Bool), IntsT w5 lo hi u X → IntsT w5 lo' hi' v Y → decide (X = Y) = t → Keeps (fun _ => False) w5 W → Calls Try.prog 17 #[u, v] W fun e w' => e = .returned (.bool t) ∧ Keeps (fun _ => False) w5 w' ∧ Below w3.heap.size w3 w') := Lib.hid (fun W lo hi lo' hi' u v X Y t h1 h2 h3 h4 => by
            have h := same_any W _ _ _ _ u v X Y (h1.keeps h4 (fun _ _ _ x => x)).1 (h2.keeps h4 (fun _ _ _ x => x)).1
            rw [h3] at h
            refine h.mono fun e w' ⟨he, q, hq⟩ => ⟨he, by rw [hq]; exact h4.drewN q, ?_⟩
            rw [hq]
            exact HW5.out.trans ((h4.drewN q).toBelow HW5.out.size (fun _ _ x => x)))
          go_wp2_with (first
            | (go_at_call 17; (with_reducible refine (HS.out _ _ _ _ _ _ _ b y false HQ1.out HY5.out HYB.out (Keeps.refl _ w5)).mono ?_); rintro e wa ⟨rfl, hK, hW⟩; have HKa := Lib.hid hK; have HWa := Lib.hid hW; obtain ⟨cya, cba⟩ := HCl.out _ HWa.out; clear hK hW)
            | (go_at_call 17; (with_reducible refine (HS.out _ _ _ _ _ _ _ y y true HQ2.out HY5.out (decide_eq_true rfl) HKa.out).mono ?_); rintro e wb ⟨rfl, hK, hW⟩; have HKb := Lib.hid hK; have HWb := Lib.hid hW; obtain ⟨cyb, cbb⟩ := HCl.out _ HWb.out; clear hK hW)
            | (go_at_call 17; (with_reducible refine (HS.out _ _ _ _ _ _ _ b b true HQ1.out HBb5.out (decide_eq_true rfl) HKb.out).mono ?_); rintro e wc ⟨rfl, hK, hW⟩; have HKc := Lib.hid hK; have HWc := Lib.hid hW; obtain ⟨cyc, cbc⟩ := HCl.out _ HWc.out; clear hK hW))
          have HOc : Hid (wc.ownsRow w3.heap.size 3 1 (.slice ma M.length mc) M.length (M.map (Value.int .i64))) := Lib.hid (ownsRow_keeps (ownsRow_keeps HO.out (Keeps.below HB5.out) (fun b hb x => by have := (HO.out.lt b hb).2; omega)) HKc.out (fun _ _ x => x))
          clear HQ1 HQ2 HS HB5 HW5 HY5 HBb5 HKa HKb HKc HKK HO
          clear cy5 cb5 cya cba cyb cbb cyc cbc hcx2
          go_loopw [9, 15] (JoinRel2 w3 M b) (fun _ j _ => b.length - (intOf j).toNat)
          case atStart => exact ⟨0, Nat.zero_le _, rfl, by simpa using HOc.out, HWc.out⟩
          case round =>
            obtain ⟨j, hj, rfl, hO6, hB6⟩ := hrel
            obtain ⟨na, nc, rfl⟩ := own_form hO6
            obtain ⟨N, hN⟩ : ∃ N, N = M ++ b.take j := ⟨_, rfl⟩
            have hNl : N.length ≤ 28 := by have := HML.out; rw [hN, List.length_append, List.length_take]; omega
            rw [← hN] at hO6 ⊢
            have HN := Lib.hid hN
            have HO6 := Lib.hid hO6
            have HB6 := Lib.hid hB6
            clear hN hO6 hB6
            obtain ⟨cy6, cb6⟩ := HCl.out _ HB6.out
            by_cases hjb : j < b.length
            · obtain ⟨z, hz⟩ : ∃ z, b[j]? = some z := ⟨_, List.getElem?_eq_getElem hjb⟩
              obtain ⟨gz, oz, rfl, cz⟩ : ∃ gz oz, ba' = some ⟨gz, oz, none⟩ ∧ wr.cell? ⟨gz, oz + j, none⟩ = some (.int .i64 z) := by
                obtain ⟨⟨a', cap', he, _, _, _, _, h6⟩, _⟩ := HBI.out
                simp at he
                obtain ⟨rfl, _⟩ := he
                obtain ⟨gz, oz, e, hc⟩ := h6 j z hz
                exact ⟨gz, oz, e, (HB6.out.cell (p := ⟨gz, oz + j, none⟩) (World.block_lt_of_cell? _ _ hc)).trans hc⟩
              have hzb := List.mem_of_getElem? hz
              have HNo : Hid (z ∉ N) := Lib.hid (fun hm => by
                rw [HN.out, List.mem_append] at hm
                rcases hm with hm | hm
                · exact HJ.out.apart z ((HMM.out z).1 hm) hzb
                · exact nodup_take HJ.out.nodup hz hm)
              have HNW : Hid (∀ q ∈ N, (Lit.int .i64 q).wf = true) := Lib.hid (fun q hq => by
                rw [HN.out, List.mem_append] at hq
                rcases hq with hq | hq
                · exact HYI.out.wf q ((HMM.out q).1 hq)
                · exact HBI.out.wf q (List.mem_of_mem_take hq))
              have HNI : Hid (IntsT wr w3.heap.size wr.heap.size (.slice na N.length nc) N) := Lib.hid (IntsT.ofOwn HO6.out HNW.out (Nat.le_refl _))
              have HT : Hid (M ++ b.take (j + 1) = N ++ [z]) := Lib.hid (by
                obtain ⟨h1, e1⟩ := List.getElem?_eq_some_iff.1 hz
                rw [List.take_succ_eq_append_getElem h1, e1, HN.out, List.append_assoc])
              have hj0 : (0 : Int) ≤ (j : Int) := by omega
              have hj1 : (j : Int) < (b.length : Int) := by omega
              have hjt : (j : Int).toNat = j := by omega
              clear hz hzb
              go_wp2_with (first
                | (go_at_call 24; refine (has_no wr _ _ _ N z HNI.out.1 HNo.out).mono ?_; rintro e w' ⟨rfl, rfl⟩)
                | (at_builtin; (refine wpL_append rfl (.tmp 110) (.tmp 118) 22 rfl w3.heap.size 3 i1 (.int .i64 0) 1 8 Try.underlying22 Hi1.out Hy0.out Hy1.out Hy2.out rfl Nat.one_pos (.slice na N.length nc) N.length (N.map (Value.int .i64)) rfl (HO6.out.alloc _) ⟨wr.heap.size, 0, none⟩ 1 1 [.int .i64 z] rfl rfl (fun j x hx => cell_add (Blk.new wr 3 [.int .i64 z]) hx) ?q1 Nat.one_pos ?q2 ?q3 ?q4 ?_); rotate_right; intro v' w7 hown hg hv; have HO7 := Lib.hid hown; have HG7 := Lib.hid hg; clear hown hg hv))
              case q1 => simp [Value.oneCell']
              case q2 => unfold maxLen; omega
              case q3 => omega
              case q4 => have := HB6.out.size; simp; omega
              go_roundw
              case rel => exact ⟨j + 1, hjb, rfl, by rw [HT.out]; simpa using HO7.out, (HB6.out.alloc HB6.out.size _).grown HG7.out (by have := HB6.out.size; simp; omega) (fun b hb => (HO6.out.lt b hb).1)⟩
              case measure => simp [intOf] <;> omega
            · obtain rfl : j = b.length := by omega
              have HT : Hid (metOf d B (i + 1) = N) := Lib.hid (by rw [metOf_succ HBB.out, ← HM.out, HN.out, List.take_length])
              go_wp2
              go_roundw
              case rel => exact ⟨i + 1, hlt, rfl, by rw [HT.out]; exact HO6.out, HB6.out⟩
              case measure => simp [intOf] <;> omega
      · obtain rfl : i = B.length := by omega
        have hyz : y = zs := by
          have h := HPO.out.last
          rw [← hbl, Nat.add_sub_cancel, HY.out] at h
          exact Option.some.inj h
        have hmz : M.length = zs.length := by rw [HML.out, hyz]
        have e2 : ((M.length : Int) == (zs.length : Int)) = true := by rw [hmz]; simp
        clear hyz hmz hml hcy0 hy
        go_wp2_with (go_at_call 18; refine (lives_any wr).mono ?_; rintro e w9 ⟨rfl, hB9⟩; have HB9 := Lib.hid hB9; clear hB9)
        go_ret
        have hm := HBW.out.trans (HB.out.mono HBW.out.size)
        exact ⟨rfl, hm.trans (HB9.out.mono hm.size)⟩
end Go.Proofs.Ytappaadadkoamaa
