/- TreeNames, walked: it answers true, and changes nothing that was there. -/
import Derived.Test.YtappaadadkoamaaTWhole
import Derived.Test.YtappaadadkoamaaTPlain6
import Derived.Deep.QuietTactic
import Derived.BigQuiet
import Derived.Test.YtappaadadkoamaaTAppendV
namespace Go.Proofs.Ytappaadadkoamaa
open Go.RowKit
set_option linter.unusedVariables false

theorem TwoU.pushAll {w w' : World} {B : Nat} {a b v' : Value} {A Bs ls : List (List Int)} {us vs us' : List Value} {n : Nat} (h : TwoU w B a b A Bs us vs) (he : Each w B w.heap.size us' ls)
    (hown : w'.ownsRow B 22 1 v' n (us ++ us')) (hn : n = A.length + ls.length) (hg : w.grownBy w' a.ownBlock) (hv : v'.ownBlock = a.ownBlock ∨ v'.ownBlock = some w.heap.size) :
    TwoU w' B v' b (A ++ ls) Bs (us ++ us') vs := by
  have hK : Keeps (fun k => a.ownBlock = some k) w w' := (Keeps.refl _ w).grown hg (fun k hk _ => hk)
  refine ⟨by rw [List.length_append, ← hn]; exact hown, ownsRow_keeps h.ob hK (fun k hk hk' => h.ap k hk' hk), ?_, ?_, fun k hk hb => ?_⟩
  · exact ((h.ea.append he).keepsOwn hK (fun k hk => intRow_ne_own h.oa hk)).mono (Nat.le_refl _) hK.size
  · exact (h.eb.keepsOwn hK (fun k hk => intRow_ne_own h.oa hk)).mono (Nat.le_refl _) hK.size
  · rcases hv with e | e
    · exact h.ap k (e ▸ hk) hb
    · rw [e] at hk
      simp at hk
      have := (h.ob.lt k hb).2
      omega

theorem each_lo {w : World} {lo lo' hi : Nat} {us : List Value} {ls : List (List Int)} (h : Each w lo hi us ls) (h1 : lo' ≤ lo) : Each w lo' hi us ls := h.mono h1 (Nat.le_refl _)

theorem own_news {w : World} {base lo : Nat} {v : Value} {ls : List (List Int)} (h : OwnT w base lo v ls) :
    ∃ a c us, v = .slice a ls.length c ∧ us.length = ls.length * 1 ∧ (∀ j u, us[j]? = some u → ∃ x, a = some x ∧ w.cell? (x.add j) = some u) ∧ (∀ u ∈ us, u.oneCell' = true) ∧ Each w lo w.heap.size us ls := by
  obtain ⟨us, ho, he⟩ := h
  rcases ho.2 with ⟨rfl, h0⟩ | ⟨g, cap, cur, rfl, _⟩
  · have h1 : us = [] := List.eq_nil_of_length_eq_zero (by rw [ho.1, h0])
    subst h1
    exact ⟨none, 0, [], by rw [h0], by rw [h0]; rfl, by simp, by simp, he⟩
  · exact ⟨_, _, us, rfl, ho.1, fun j u hu => ⟨_, rfl, ho.cells (g := g) rfl j u hu⟩, he.one, he⟩

theorem path_news (w : World) (lo hi : Nat) (v : Value) (zs : List Int) (d : Int) (h : IntsT w lo hi v zs) (hhi : hi ≤ w.heap.size) (hz : zs.length ≤ 16) :
    Calls Try.prog 20 #[v, .int .i64 d] w fun e w' => ∃ a c us, e = .returned (.slice a (pathOf zs d).length c) ∧ us.length = (pathOf zs d).length * 1 ∧ (∀ j u, us[j]? = some u → ∃ x, a = some x ∧ w'.cell? (x.add j) = some u) ∧ (∀ u ∈ us, u.oneCell' = true) ∧ Each w' w.heap.size w'.heap.size us (pathOf zs d) ∧ Below w.heap.size w w' := by
  refine (path_any w lo hi v zs d h hhi hz).mono ?_
  rintro e w' ⟨v', rfl, h2, h3⟩
  obtain ⟨a, c, us, rfl, q1, q2, q3, q4⟩ := own_news h2
  exact ⟨a, c, us, rfl, q1, q2, q3, q4, h3⟩
theorem beside_news (w : World) (lo hi : Nat) (v : Value) (zs : List Int) (d : Int) (h : IntsT w lo hi v zs) (hhi : hi ≤ w.heap.size) (hz : zs.length ≤ 16) :
    Calls Try.prog 22 #[v, .int .i64 d] w fun e w' => ∃ a c us, e = .returned (.slice a (besideOf zs d).length c) ∧ us.length = (besideOf zs d).length * 1 ∧ (∀ j u, us[j]? = some u → ∃ x, a = some x ∧ w'.cell? (x.add j) = some u) ∧ (∀ u ∈ us, u.oneCell' = true) ∧ Each w' w.heap.size w'.heap.size us (besideOf zs d) ∧ Below w.heap.size w w' := by
  refine (beside_any w lo hi v zs d h hhi hz).mono ?_
  rintro e w' ⟨v', rfl, h2, h3⟩
  obtain ⟨a, c, us, rfl, q1, q2, q3, q4⟩ := own_news h2
  exact ⟨a, c, us, rfl, q1, q2, q3, q4, h3⟩

theorem ints_cell {w : World} {lo hi : Nat} {a : Option Addr} {n c : Nat} {zs : List Int} (h : IntsT w lo hi (.slice a n c) zs) {j : Nat} {z : Int} (hz : zs[j]? = some z) : ∃ g o, a = some ⟨g, o, none⟩ ∧ w.cell? ⟨g, o + j, none⟩ = some (.int .i64 z) := by
  obtain ⟨⟨a', cap', he, _, _, _, _, h6⟩, _⟩ := h
  simp at he
  obtain ⟨rfl, _⟩ := he
  exact h6 j z hz

def NmRel (w : World) (n : Nat) (k : Value) (wr : World) : Prop := ∃ j : Nat, j ≤ n ∧ k = .int .i64 j ∧ Keeps (fun _ => False) w wr
def OthRel (w1 : World) (zs : List Int) (k : Int) (s9 i : Value) (wr : World) : Prop :=
  ∃ j : Nat, j ≤ zs.length ∧ i = .int .i64 j ∧ wr.ownsRow w1.heap.size 3 1 s9 ((zs.take j).map (k - ·)).length (((zs.take j).map (k - ·)).map (Value.int .i64)) ∧ Below w1.heap.size w1 wr

set_option maxRecDepth 100000 in
set_option maxHeartbeats 4000000 in
theorem treenames_walk (w : World) (v : Value) (l : List Int) (by' which : Int) (h : ArgInts w v l) (hwf : (Lit.int .i64 by').wf = true) (hwf2 : (Lit.int .i64 which).wf = true) :
    Calls Try.prog 9 #[v, .int .i64 by', .int .i64 which] w fun e w' => e = .returned (.bool true) ∧ Below w.heap.size w w' := by
  obtain ⟨i0, hi0, hz0, hz1, hz2⟩ := info_parts intInfo3
  have Hz0 := Lib.hid hz0
  have Hz1 := Lib.hid hz1
  have Hz2 := Lib.hid hz2
  have Hi0 := Lib.hid hi0
  have H := Lib.hid h
  have HW2 := Lib.hid hwf2
  obtain ⟨k, hk⟩ : ∃ k, k = around by' 1000 := ⟨_, rfl⟩
  have hk0 := around_lo by' 1000 (by omega)
  have hk1 := around_hi by' 1000 (by omega)
  have HA : Hid (∀ W, Calls Try.prog 19 #[.int .i64 by', .int .i64 1000] W fun e w' => e = .returned (.int .i64 k) ∧ W = w') := Lib.hid (fun W => by rw [hk]; exact around_any by' 1000 W hwf (by omega) (by omega))
  rw [← hk] at hk0 hk1
  clear h hz0 hz1 hz2 hi0 hwf hwf2 hk
  go_enter Try.func9, Try.ntmps9
  go_wp2_with fail
  refine (leaves_any w v l H.out).mono ?_
  rintro e w1 ⟨vl, rfl, hI, hB⟩
  have HI1 := Lib.hid hI
  have HB1 := Lib.hid hB
  clear hI hB
  obtain ⟨zs, hzs⟩ : ∃ zs, zs = leavesOf l := ⟨_, rfl⟩
  have hz14 : zs.length ≤ 14 := by rw [hzs]; exact leavesOf_len l
  have HRG : Hid (∀ z ∈ zs, 1 ≤ z ∧ z ≤ 20) := Lib.hid (by rw [hzs]; exact leavesOf_range l)
  rw [← hzs] at HI1
  clear hzs
  obtain ⟨la, lc, rfl, hl1, hl2⟩ := HI1.out.form
  go_wp2_with (go_at_call 19; refine (HA.out _).mono ?_; rintro e w' ⟨rfl, rfl⟩)
  go_loopw [9, 10] (OthRel w1 zs k) (fun _ i _ => zs.length - (intOf i).toNat)
  case atStart => exact ⟨0, Nat.zero_le _, rfl, World.ownsRow_nil w1 _ _ _, Below.refl _ _⟩
  case round =>
    obtain ⟨j, hj, rfl, hO, hb⟩ := hrel
    obtain ⟨na, nc, rfl⟩ := own_form hO
    obtain ⟨N, hN⟩ : ∃ N, N = (zs.take j).map (k - ·) := ⟨_, rfl⟩
    have hNl : N.length ≤ 14 := by rw [hN]; simp; omega
    rw [← hN] at hO ⊢
    have HN := Lib.hid hN
    have HO := Lib.hid hO
    have HB := Lib.hid hb
    clear hN hO hb
    by_cases hlt : j < zs.length
    · obtain ⟨z, hz⟩ : ∃ z, zs[j]? = some z := ⟨_, List.getElem?_eq_getElem hlt⟩
      obtain ⟨gz, oz, rfl, cz⟩ : ∃ gz oz, la = some ⟨gz, oz, none⟩ ∧ wr.cell? ⟨gz, oz + j, none⟩ = some (.int .i64 z) := by
        obtain ⟨⟨a', cap', he, _, _, _, _, h6⟩, _⟩ := HI1.out
        simp at he
        obtain ⟨rfl, _⟩ := he
        obtain ⟨gz, oz, e, hc⟩ := h6 j z hz
        exact ⟨gz, oz, e, (HB.out.cell (p := ⟨gz, oz + j, none⟩) (World.block_lt_of_cell? _ _ hc)).trans hc⟩
      obtain ⟨z1, z2⟩ := HRG.out z (List.mem_of_getElem? hz)
      have HT : Hid ((zs.take (j + 1)).map (k - ·) = N ++ [k - z]) := Lib.hid (by
        obtain ⟨h1, e1⟩ := List.getElem?_eq_some_iff.1 hz
        rw [List.take_succ_eq_append_getElem h1, e1, HN.out, List.map_append]; rfl)
      have hj0 : (0 : Int) ≤ (j : Int) := by omega
      have hj1 : (j : Int) < (zs.length : Int) := by omega
      have hjt : (j : Int).toNat = j := by omega
      clear hz
      go_wp2_with (at_builtin; (refine wpL_append rfl (.tmp 26) (.tmp 33) 22 rfl w1.heap.size 3 i0 (.int .i64 0) 1 8 Try.underlying22 Hi0.out Hz0.out Hz1.out Hz2.out rfl Nat.one_pos (.slice na N.length nc) N.length (N.map (Value.int .i64)) rfl (HO.out.alloc _) ⟨wr.heap.size, 0, none⟩ 1 1 [.int .i64 (k - z)] rfl rfl (fun j x hx => cell_add (Blk.new wr 3 [.int .i64 (k - z)]) hx) ?q1 Nat.one_pos ?q2 ?q3 ?q4 ?_); rotate_right; intro v' w7 hown hg hv; have HO7 := Lib.hid hown; have HG7 := Lib.hid hg; clear hown hg hv)
      case q1 => simp [Value.oneCell']
      case q2 => unfold maxLen; omega
      case q3 => omega
      case q4 => have := HB.out.size; simp; omega
      go_roundw
      case rel => exact ⟨j + 1, hlt, rfl, by rw [HT.out]; simpa using HO7.out, (HB.out.alloc HB.out.size _).grown HG7.out (by have := HB.out.size; simp; omega) (fun b hb => (HO.out.lt b hb).1)⟩
      case measure => simp [intOf] <;> omega
    · obtain rfl : j = zs.length := by omega
      rw [List.take_length] at HN
      have hNz : N.length = zs.length := by rw [HN.out]; simp
      have HNW : Hid (∀ q ∈ N, (Lit.int .i64 q).wf = true) := Lib.hid (fun q hq => by
        rw [HN.out, List.mem_map] at hq
        obtain ⟨z, hz, rfl⟩ := hq
        have := HRG.out z hz
        exact WalkArith.wf_i64 (by omega))
      have HNI : Hid (IntsT wr w1.heap.size wr.heap.size (.slice na N.length nc) N) := Lib.hid (IntsT.ofOwn HO.out HNW.out (Nat.le_refl _))
      have HI2 : Hid (IntsT wr w.heap.size w1.heap.size (.slice la zs.length lc) zs) := Lib.hid (HI1.out.below HB.out)
      have HBW : Hid (Below w.heap.size w wr) := Lib.hid (HB1.out.trans (HB.out.mono HB1.out.size))
      have HND : Hid (setsOf N = (setsOf zs).map (List.map (k - ·))) := Lib.hid (by rw [HN.out]; exact setsF_map (k - ·) 16 zs)
      obtain ⟨wo, rfl⟩ : ∃ wo, wo = wr := ⟨_, rfl⟩
      rw [hNz] at HNI ⊢
      have HNL := Lib.hid hNz
      have hlo : w1.heap.size ≤ wo.heap.size := HB.out.size
      clear HO HB HB1 hNz
      go_wp2_with fail
      refine (sets_any wo w.heap.size w1.heap.size (.slice la zs.length lc) zs HI2.out (by omega)).mono ?_
      rintro e w2 ⟨va, rfl, hT, hB⟩
      have HTa := Lib.hid hT
      have HB2 := Lib.hid hB
      obtain ⟨us2, hoa, _⟩ := hT
      obtain ⟨aa, ac, rfl⟩ := own_form hoa
      clear hoa hB
      go_wp2_with fail
      refine (sets_any w2 w1.heap.size wo.heap.size (.slice na zs.length nc) N (HNI.out.below HB2.out) (by have := HNL.out; omega)).mono ?_
      rintro e w3 ⟨vb, rfl, hT, hB⟩
      have HB3 := Lib.hid (HB2.out.trans (hB.mono HB2.out.size))
      obtain ⟨us3, hob, heb⟩ := hT
      obtain ⟨ba, bc, rfl⟩ := own_form hob
      obtain ⟨us2, HU⟩ : ∃ us2, Hid (TwoU w3 wo.heap.size (.slice aa (setsOf zs).length ac) (.slice ba (setsOf N).length bc) (setsOf zs) (setsOf N) us2 us3) := by
        obtain ⟨us2, q1, q2⟩ := HTa.out.below hB
        refine ⟨us2, Lib.hid ⟨q1, ownsRow_mono hob HB2.out.size, q2, each_lo heb HB2.out.size, fun k h1 h2 => ?_⟩⟩
        obtain ⟨us2', q1', q2'⟩ := HTa.out
        have := (q1'.lt k h1).2
        have := (hob.lt k h2).1
        omega
      obtain ⟨S, hS⟩ : ∃ S, S = setsOf zs := ⟨_, rfl⟩
      obtain ⟨T, hT⟩ : ∃ T, T = setsOf N := ⟨_, rfl⟩
      rw [← hS, ← hT] at HU ⊢
      have HST : Hid (T = S.map (List.map (k - ·))) := Lib.hid (by rw [hT, HND.out, hS])
      have hSl : S.length ≤ 28 := by rw [hS]; have := setsF_len 16 zs; unfold setsOf; omega
      have hTl : T.length ≤ 28 := by rw [HST.out, List.length_map]; exact hSl
      clear hob heb hB HTa HB2 hS hT HND
      have HIa : Hid (∀ W, Below wo.heap.size wo W → IntsT W w.heap.size w1.heap.size (.slice la zs.length lc) zs) := Lib.hid (fun W hW => HI2.out.below hW)
      obtain ⟨nn, hnn⟩ : ∃ nn, nn = (around which zs.length).toNat := ⟨_, rfl⟩
      by_cases h0 : zs.length = 0
      focus
        have hd0 : decide ((0 : Int) < (zs.length : Int)) = false := decide_eq_false (by omega)
        have hp0 : ¬ (0 : Int) < (zs.length : Int) := by omega
        obtain ⟨A, rfl⟩ : ∃ A, A = S := ⟨_, rfl⟩
        obtain ⟨W, rfl⟩ : ∃ W, W = w3 := ⟨_, rfl⟩
        have hTm := HST.out
        subst hTm
        rw [List.length_map] at HU ⊢
        obtain ⟨xa, rfl⟩ : ∃ xa, xa = aa := ⟨_, rfl⟩
        obtain ⟨xc, rfl⟩ : ∃ xc, xc = ac := ⟨_, rfl⟩
        obtain ⟨xb, rfl⟩ : ∃ xb, xb = ba := ⟨_, rfl⟩
        obtain ⟨xd, rfl⟩ : ∃ xd, xd = bc := ⟨_, rfl⟩
        have HF := Lib.hid (OwnT.rows ⟨_, HU.out.oa, HU.out.ea⟩ (Nat.le_refl _))
        have HG := Lib.hid (OwnT.rows ⟨_, HU.out.ob, HU.out.eb⟩ (Nat.le_refl _))
        have HBF := HB3
        clear HU HB3 hTl
        go_wp2_with fail
      rotate_left
      focus
        have hd0 : decide ((0 : Int) < (zs.length : Int)) = true := decide_eq_true (by omega)
        have hp0 : (0 : Int) < (zs.length : Int) := by omega
        have hne := around_lo which zs.length (by omega)
        have hlt := around_hi which zs.length (by omega)
        have hnI : around which zs.length = (nn : Int) := by omega
        have hnl : nn < zs.length := by omega
        have HAn : Hid (∀ W, Calls Try.prog 19 #[.int .i64 which, .int .i64 zs.length] W fun e w' => e = .returned (.int .i64 nn) ∧ W = w') := Lib.hid (fun W => by rw [← hnI]; exact around_any which zs.length W HW2.out (by omega) (by omega))
        obtain ⟨z, hz⟩ : ∃ z, zs[nn]? = some z := ⟨_, List.getElem?_eq_getElem hnl⟩
        have hzN : N[nn]? = some (k - z) := by rw [HN.out, List.getElem?_map, hz]; rfl
        obtain ⟨gz, oz, rfl, cz⟩ := ints_cell HI2.out hz
        obtain ⟨gy, oy, rfl, cy⟩ := ints_cell HNI.out hzN
        have HCz : Hid (∀ W, Below wo.heap.size wo W → W.cell? ⟨gz, oz + nn, none⟩ = some (.int .i64 z)) := Lib.hid (fun W hW => (hW.cell (p := ⟨gz, oz + nn, none⟩) (World.block_lt_of_cell? _ _ cz)).trans cz)
        have HCy : Hid (∀ W, Below wo.heap.size wo W → W.cell? ⟨gy, oy + nn, none⟩ = some (.int .i64 (k - z))) := Lib.hid (fun W hW => (hW.cell (p := ⟨gy, oy + nn, none⟩) (World.block_lt_of_cell? _ _ cy)).trans cy)
        have hn0 : (0 : Int) ≤ (nn : Int) := by omega
        have hn1 : (nn : Int) < (zs.length : Int) := by omega
        have hn2 : (nn : Int).toNat = nn := by omega
        have hz3 := HCz.out w3 HB3.out
        clear hne hlt hnI hnn hz hzN cz cy
        go_wp2_with (go_at_call 19; refine (HAn.out _).mono ?_; rintro e w' ⟨rfl, rfl⟩)
        obtain ⟨i0, hi0, hz0, hz1, hz2⟩ := info_parts intsInfo3
        have Gz0 := Lib.hid hz0
        have Gz1 := Lib.hid hz1
        have Gz2 := Lib.hid hz2
        have Gi0 := Lib.hid hi0
        have HL0 : Hid (w1.heap.size ≤ wo.heap.size) := Lib.hid hlo
        have HPl : Hid (∀ zs d, (pathOf zs d).length ≤ 16) := Lib.hid (fun zs d => by unfold pathOf; rw [List.length_reverse]; exact (downOf_len zs d).1)
        have HBl : Hid (∀ zs d, (besideOf zs d).length ≤ 16) := Lib.hid (fun zs d => by unfold besideOf; rw [List.length_reverse]; exact (downOf_len zs d).2)
        clear hz0 hz1 hz2 hi0 hlo
        -- step 0
        obtain ⟨P0, hL0⟩ : ∃ P0, P0 = pathOf zs z := ⟨_, rfl⟩
        have HL1 : Hid (P0.length ≤ 16) := Lib.hid (by rw [hL0]; exact HPl.out _ _)
        refine (path_news w3 w.heap.size w1.heap.size (.slice (some ⟨gz, oz, none⟩) zs.length lc) zs z (HI2.out.below HB3.out) (Nat.le_trans HL0.out HB3.out.size) (by omega)).mono ?_
        rw [← hL0]
        rintro e w4 ⟨pa0, pc0, up0, rfl, q1, q2, q3, q4, hB⟩
        have HQ10 := Lib.hid q1
        have HQ20 := Lib.hid q2
        have HQ30 := Lib.hid q3
        have HU4 := Lib.hid (HU.out.below hB)
        have HE0 : Hid (Each w4 wo.heap.size w4.heap.size up0 P0) := Lib.hid (each_lo q4 HB3.out.size)
        have HB4 := Lib.hid (HB3.out.trans (hB.mono HB3.out.size))
        have HLL0 := Lib.hid hL0
        clear q1 q2 q3 q4 hB hL0
        go_wp2_with (first | (at_builtin; (refine wpL_appendV rfl (.tmp 46) (.tmp 52) 24 rfl wo.heap.size 22 i0 (.slice none 0 0) 1 24 Try.underlying24 Gi0.out Gz0.out Gz1.out Gz2.out rfl Nat.one_pos (.slice aa S.length ac) S.length us2 rfl HU4.out.oa pa0 P0.length pc0 up0 rfl HQ10.out HQ20.out HQ30.out (by have := HL1.out; unfold maxLen; omega) (by have := HL1.out; omega) HB4.out.size ?_); intro v0 w5 hown hg hv; have HO0 := Lib.hid hown; have HG0 := Lib.hid hg; have HV0 := Lib.hid hv; obtain ⟨a1, c1, hvv⟩ := own_form hown; subst hvv; clear hown hg hv; have HU5 : Hid (TwoU w5 wo.heap.size (.slice a1 (S.length + P0.length) c1) (.slice ba T.length bc) (S ++ P0) T (us2 ++ up0) us3) := Lib.hid (TwoU.pushAll HU4.out HE0.out HO0.out (by simp) HG0.out HV0.out); have HB5 : Hid (Below wo.heap.size wo w5) := Lib.hid (HB4.out.grown HG0.out HB4.out.size (fun b hb => (HU4.out.oa.lt b hb).1)); clear HG0 HV0 HO0 HU4 HU HE0 HQ10 HQ20 HQ30 HB4 HB3; have hz1 := HCz.out w5 HB5.out))
        -- step 1
        obtain ⟨P1, hL1⟩ : ∃ P1, P1 = besideOf zs z := ⟨_, rfl⟩
        have HL2 : Hid (P1.length ≤ 16) := Lib.hid (by rw [hL1]; exact HBl.out _ _)
        refine (beside_news w5 w.heap.size w1.heap.size (.slice (some ⟨gz, oz, none⟩) zs.length lc) zs z (HI2.out.below HB5.out) (Nat.le_trans HL0.out HB5.out.size) (by omega)).mono ?_
        rw [← hL1]
        rintro e w6 ⟨pa1, pc1, up1, rfl, q1, q2, q3, q4, hB⟩
        have HQ11 := Lib.hid q1
        have HQ21 := Lib.hid q2
        have HQ31 := Lib.hid q3
        have HU6 := Lib.hid (HU5.out.below hB)
        have HE1 : Hid (Each w6 wo.heap.size w6.heap.size up1 P1) := Lib.hid (each_lo q4 HB5.out.size)
        have HB6 := Lib.hid (HB5.out.trans (hB.mono HB5.out.size))
        have HLL1 := Lib.hid hL1
        clear q1 q2 q3 q4 hB hL1
        go_wp2_with (first | (at_builtin; (refine wpL_appendV rfl (.tmp 54) (.tmp 60) 24 rfl wo.heap.size 22 i0 (.slice none 0 0) 1 24 Try.underlying24 Gi0.out Gz0.out Gz1.out Gz2.out rfl Nat.one_pos (.slice a1 (S.length + P0.length) c1) (S.length + P0.length) (us2 ++ up0) rfl (by simpa using HU6.out.oa) pa1 P1.length pc1 up1 rfl HQ11.out HQ21.out HQ31.out (by have := HL2.out; have := HL1.out; unfold maxLen; omega) (by have := HL2.out; have := HL1.out; omega) HB6.out.size ?_); intro v1 w7 hown hg hv; have HO1 := Lib.hid hown; have HG1 := Lib.hid hg; have HV1 := Lib.hid hv; obtain ⟨a2, c2, hvv⟩ := own_form hown; subst hvv; clear hown hg hv; have HU7 : Hid (TwoU w7 wo.heap.size (.slice a2 (S.length + P0.length + P1.length) c2) (.slice ba T.length bc) ((S ++ P0) ++ P1) T ((us2 ++ up0) ++ up1) us3) := Lib.hid (TwoU.pushAll HU6.out HE1.out HO1.out (by simp) HG1.out HV1.out); have HB7 : Hid (Below wo.heap.size wo w7) := Lib.hid (HB6.out.grown HG1.out HB6.out.size (fun b hb => (HU6.out.oa.lt b hb).1)); clear HG1 HV1 HO1 HU6 HU5 HE1 HQ11 HQ21 HQ31 HB6 HB5; have hz2 := HCy.out w7 HB7.out))
        -- step 2
        obtain ⟨P2, hL2⟩ : ∃ P2, P2 = pathOf N (k - z) := ⟨_, rfl⟩
        have HL3 : Hid (P2.length ≤ 16) := Lib.hid (by rw [hL2]; exact HPl.out _ _)
        refine (path_news w7 w1.heap.size wo.heap.size (.slice (some ⟨gy, oy, none⟩) zs.length nc) N (k - z) (HNI.out.below HB7.out) (HB7.out.size) (by have := HNL.out; omega)).mono ?_
        rw [← hL2]
        rintro e w8 ⟨pa2, pc2, up2, rfl, q1, q2, q3, q4, hB⟩
        have HQ12 := Lib.hid q1
        have HQ22 := Lib.hid q2
        have HQ32 := Lib.hid q3
        have HU8 := Lib.hid (HU7.out.below hB)
        have HE2 : Hid (Each w8 wo.heap.size w8.heap.size up2 P2) := Lib.hid (each_lo q4 HB7.out.size)
        have HB8 := Lib.hid (HB7.out.trans (hB.mono HB7.out.size))
        have HLL2 := Lib.hid hL2
        clear q1 q2 q3 q4 hB hL2
        go_wp2_with (first | (at_builtin; (refine wpL_appendV rfl (.tmp 62) (.tmp 68) 24 rfl wo.heap.size 22 i0 (.slice none 0 0) 1 24 Try.underlying24 Gi0.out Gz0.out Gz1.out Gz2.out rfl Nat.one_pos (.slice ba T.length bc) T.length us3 rfl HU8.out.ob pa2 P2.length pc2 up2 rfl HQ12.out HQ22.out HQ32.out (by have := HL3.out; unfold maxLen; omega) (by have := HL3.out; omega) HB8.out.size ?_); intro v2 w9 hown hg hv; have HO2 := Lib.hid hown; have HG2 := Lib.hid hg; have HV2 := Lib.hid hv; obtain ⟨a3, c3, hvv⟩ := own_form hown; subst hvv; clear hown hg hv; have HU9 : Hid (TwoU w9 wo.heap.size (.slice a2 (S.length + P0.length + P1.length) c2) (.slice a3 (T.length + P2.length) c3) (S ++ P0 ++ P1) (T ++ P2) (us2 ++ up0 ++ up1) (us3 ++ up2)) := Lib.hid (TwoU.pushAll HU8.out.swap HE2.out HO2.out (by simp) HG2.out HV2.out).swap; have HB9 : Hid (Below wo.heap.size wo w9) := Lib.hid (HB8.out.grown HG2.out HB8.out.size (fun b hb => (HU8.out.ob.lt b hb).1)); clear HG2 HV2 HO2 HU8 HU7 HE2 HQ12 HQ22 HQ32 HB8 HB7; have hz3 := HCy.out w9 HB9.out))
        -- step 3
        obtain ⟨P3, hL3⟩ : ∃ P3, P3 = besideOf N (k - z) := ⟨_, rfl⟩
        have HL4 : Hid (P3.length ≤ 16) := Lib.hid (by rw [hL3]; exact HBl.out _ _)
        refine (beside_news w9 w1.heap.size wo.heap.size (.slice (some ⟨gy, oy, none⟩) zs.length nc) N (k - z) (HNI.out.below HB9.out) (HB9.out.size) (by have := HNL.out; omega)).mono ?_
        rw [← hL3]
        rintro e w10 ⟨pa3, pc3, up3, rfl, q1, q2, q3, q4, hB⟩
        have HQ13 := Lib.hid q1
        have HQ23 := Lib.hid q2
        have HQ33 := Lib.hid q3
        have HU10 := Lib.hid (HU9.out.below hB)
        have HE3 : Hid (Each w10 wo.heap.size w10.heap.size up3 P3) := Lib.hid (each_lo q4 HB9.out.size)
        have HB10 := Lib.hid (HB9.out.trans (hB.mono HB9.out.size))
        have HLL3 := Lib.hid hL3
        clear q1 q2 q3 q4 hB hL3
        go_wp2_with (first | (at_builtin; (refine wpL_appendV rfl (.tmp 70) (.tmp 76) 24 rfl wo.heap.size 22 i0 (.slice none 0 0) 1 24 Try.underlying24 Gi0.out Gz0.out Gz1.out Gz2.out rfl Nat.one_pos (.slice a3 (T.length + P2.length) c3) (T.length + P2.length) (us3 ++ up2) rfl (by simpa using HU10.out.ob) pa3 P3.length pc3 up3 rfl HQ13.out HQ23.out HQ33.out (by have := HL4.out; have := HL3.out; unfold maxLen; omega) (by have := HL4.out; have := HL3.out; omega) HB10.out.size ?_); intro v3 w11 hown hg hv; have HO3 := Lib.hid hown; have HG3 := Lib.hid hg; have HV3 := Lib.hid hv; obtain ⟨a4, c4, hvv⟩ := own_form hown; subst hvv; clear hown hg hv; have HU11 : Hid (TwoU w11 wo.heap.size (.slice a2 (S.length + P0.length + P1.length) c2) (.slice a4 (T.length + P2.length + P3.length) c4) (S ++ P0 ++ P1) ((T ++ P2) ++ P3) (us2 ++ up0 ++ up1) ((us3 ++ up2) ++ up3)) := Lib.hid (TwoU.pushAll HU10.out.swap HE3.out HO3.out (by simp) HG3.out HV3.out).swap; have HB11 : Hid (Below wo.heap.size wo w11) := Lib.hid (HB10.out.grown HG3.out HB10.out.size (fun b hb => (HU10.out.ob.lt b hb).1)); clear HG3 HV3 HO3 HU10 HU9 HE3 HQ13 HQ23 HQ33 HB10 HB9; obtain ⟨A, hA⟩ : ∃ A, A = S ++ P0 ++ P1 := ⟨_, rfl⟩; have hm1 : S.length + P0.length + P1.length = A.length := (by rw [hA]; simp [Nat.add_assoc]); have hTA : T ++ P2 ++ P3 = A.map (List.map (k - ·)) := (by rw [hA, HST.out, HLL0.out, HLL1.out, HLL2.out, HLL3.out, HN.out, pathOf_map (sub_inj k), besideOf_map (sub_inj k)]; simp); have hm2 : T.length + P2.length + P3.length = A.length := (by have := congrArg List.length hTA; simpa [Nat.add_assoc] using this); rw [hTA, ← hA] at HU11; rw [hm1, hm2] at HU11 ⊢; clear hTA hm1 hm2 hA HLL0 HLL1 HLL2 HLL3; obtain ⟨W, rfl⟩ : ∃ W, W = w11 := ⟨_, rfl⟩; obtain ⟨xa, rfl⟩ : ∃ xa, xa = a2 := ⟨_, rfl⟩; obtain ⟨xc, rfl⟩ : ∃ xc, xc = c2 := ⟨_, rfl⟩; obtain ⟨xb, rfl⟩ : ∃ xb, xb = a4 := ⟨_, rfl⟩; obtain ⟨xd, rfl⟩ : ∃ xd, xd = c4 := ⟨_, rfl⟩; have HF := Lib.hid (OwnT.rows ⟨_, HU11.out.oa, HU11.out.ea⟩ (Nat.le_refl _)); have HG := Lib.hid (OwnT.rows ⟨_, HU11.out.ob, HU11.out.eb⟩ (Nat.le_refl _)); have HBF := HB11; clear HU11 HB11))
      all_goals
        have hA63 := Nat.le_trans HF.out.len.2.1 HF.out.len.2.2
        have HBX : Hid (Below w.heap.size w W) := Lib.hid (HBW.out.trans (HBF.out.mono HBW.out.size))
        go_loopw [14] (NmRel W A.length) (fun i _ => A.length - (intOf i).toNat)
        case atStart => exact ⟨0, Nat.zero_le _, rfl, Keeps.refl _ _⟩
        case round =>
          obtain ⟨j, hjl, rfl, hK⟩ := hrel
          have HK := Lib.hid hK
          clear hK
          by_cases hlt : j < A.length
          · obtain ⟨x, hx⟩ : ∃ x, A[j]? = some x := ⟨_, List.getElem?_eq_getElem hlt⟩
            have hy : (A.map (List.map (k - ·)))[j]? = some (x.map (k - ·)) := by rw [List.getElem?_map, hx]; rfl
            obtain ⟨g, o, u, rfl, hc0, hI⟩ := HF.out.at' hx
            have hGl : RowsT W wo.heap.size W.heap.size (.slice xb A.length xd) (A.map (List.map (k - ·))) := HG.out
            obtain ⟨g', o', u', rfl, hd0, hI'⟩ := hGl.at' hy
            obtain ⟨ra, rc, rfl, hr1, hr2⟩ := hI.form
            obtain ⟨sa, sc, rfl, _, _⟩ := hI'.form
            rw [List.length_map] at hd0 hI'
            have HXI := Lib.hid hI
            have HYI := Lib.hid hI'
            have HC0 : Hid (∀ V, Keeps (fun _ => False) W V → V.cell? ⟨g, o + j, none⟩ = some (.slice ra x.length rc)) := Lib.hid (fun V hV => (hV.cell (p := ⟨g, o + j, none⟩) (World.block_lt_of_cell? _ _ hc0) (fun x => x)).trans hc0)
            have HD0 : Hid (∀ V, Keeps (fun _ => False) W V → V.cell? ⟨g', o' + j, none⟩ = some (.slice sa x.length sc)) := Lib.hid (fun V hV => (hV.cell (p := ⟨g', o' + j, none⟩) (World.block_lt_of_cell? _ _ hd0) (fun x => x)).trans hd0)
            have HCn : Hid (∀ V, Keeps (fun _ => False) W V → ∀ m a, x[m]? = some a → (∃ ga oa gb ob, ra = some ⟨ga, oa, none⟩ ∧ sa = some ⟨gb, ob, none⟩ ∧ V.cell? ⟨ga, oa + m, none⟩ = some (.int .i64 a) ∧ V.cell? ⟨gb, ob + m, none⟩ = some (.int .i64 (k - a))) ∧ (Lit.int .i64 (k - a)).wf = true) := Lib.hid (fun V hV m a hm => by
              obtain ⟨ga, oa, ea, ca⟩ := ints_cell HXI.out hm
              have hm' : (x.map (k - ·))[m]? = some (k - a) := by rw [List.getElem?_map, hm]; rfl
              obtain ⟨gb, ob, eb, cb⟩ := ints_cell HYI.out hm'
              exact ⟨⟨ga, oa, gb, ob, ea, eb, (hV.cell (p := ⟨ga, oa + m, none⟩) (World.block_lt_of_cell? _ _ ca) (fun x => x)).trans ca, (hV.cell (p := ⟨gb, ob + m, none⟩) (World.block_lt_of_cell? _ _ cb) (fun x => x)).trans cb⟩, HYI.out.wf _ (List.mem_of_getElem? hm')⟩)
            have hj0 : (0 : Int) ≤ (j : Int) := by omega
            have hj1 : (j : Int) < (A.length : Int) := by omega
            have hj2 : (j : Int).toNat = j := by omega
            have hdec : decide ((j : Int) < (A.length : Int)) = true := decide_eq_true hj1
            have hr63 : x.length ≤ 9223372036854775807 := Nat.le_trans hr1 hr2
            have hc := HC0.out _ HK.out
            have hd := HD0.out _ HK.out
            clear hx hy hI hI' hc0 hd0 hGl HXI HYI hr1 hr2
            go_wp2_with fail
            go_quiet (fail)
            have HK5 := Lib.hid (HK.out.drewN nq)
            generalize wr.drewN nq = w5 at HK5 ⊢
            clear HK hc hd
            go_wp2_with fail
            go_loopw [15] (NmRel W x.length) (fun n _ => x.length - (intOf n).toNat)
            case atStart => exact ⟨0, Nat.zero_le _, rfl, HK5.out⟩
            case round =>
              obtain ⟨m, hml, rfl, hK⟩ := hrel
              have HK := Lib.hid hK
              clear hK
              have hc := HC0.out _ HK.out
              have hd := HD0.out _ HK.out
              by_cases hmx : m < x.length
              · obtain ⟨a, ha⟩ : ∃ a, x[m]? = some a := ⟨_, List.getElem?_eq_getElem hmx⟩
                obtain ⟨⟨ga, oa, gb, ob, rfl, rfl, ca, cb⟩, hwa⟩ := HCn.out _ HK.out m a ha
                have hs1 := wf_lo hwa
                have hs2 := wf_hi hwa
                have hm0 : (0 : Int) ≤ (m : Int) := by omega
                have hm1 : (m : Int) < (x.length : Int) := by omega
                have hm2 : (m : Int).toNat = m := by omega
                have hdec2 : decide ((m : Int) < (x.length : Int)) = true := decide_eq_true hm1
                clear hwa ha
                go_wp2_with fail
                go_quiet (fail)
                have HK7 := Lib.hid (HK.out.drewN nq)
                generalize wr.drewN nq = w7 at HK7 ⊢
                clear HK hc hd ca cb
                go_wp2
                go_roundw
                case rel => exact ⟨m + 1, hmx, rfl, HK7.out⟩
                case measure => simp [intOf]; omega
              · obtain rfl : m = x.length := by omega
                have hdec2 : decide ((x.length : Int) < (x.length : Int)) = false := decide_eq_false (by omega)
                go_wp2
                go_roundw
                case rel => exact ⟨j + 1, hlt, rfl, HK.out⟩
                case measure => simp [intOf]; omega
          · obtain rfl : j = A.length := by omega
            have hdec : decide ((A.length : Int) < (A.length : Int)) = false := decide_eq_false (by omega)
            go_wp2_with (go_at_call 18; refine (lives_any wr).mono ?_; rintro e w9 ⟨rfl, hB9⟩; have HB9 := Lib.hid hB9; clear hB9)
            go_ret
            have hm := HBX.out.trans ((HK.out.toBelow (Nat.le_refl _) (fun _ _ x => x)).mono HBX.out.size)
            exact ⟨rfl, hm.trans (HB9.out.mono hm.size)⟩
end Go.Proofs.Ytappaadadkoamaa
