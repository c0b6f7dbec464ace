/- The references' Same and Sets, by their contracts. -/
import Derived.Test.YtappaadadkoamaaTPath
import Derived.Test.YtappaadadkoamaaTLeaves
import Derived.BigQuiet
namespace Go.Proofs.Ytappaadadkoamaa
open Go.RowKit
set_option linter.unusedVariables false

theorem quiet_drewN {P : Program} {f : FuncId} {args : Array Value} {w : World} {n : Nat} {v : Value} (h : Calls P f args (w.drewN n) fun e w' => e = .returned v ∧ ∃ q, w' = (w.drewN n).drewN q) : Calls P f args (w.drewN n) fun e w'' => e = .returned v ∧ ∃ m, w'' = w.drewN m :=
  h.mono fun _ _ ⟨he, q, hq⟩ => ⟨he, n + q, by rw [hq, World.drewN_drewN]⟩

def Same2Rel (w : World) (xs ys : List (List Int)) (i : Value) (wr : World) : Prop := ∃ k : Nat, k ≤ xs.length ∧ i = .int .i64 k ∧ Keeps (fun _ => False) w wr ∧ xs.take k = ys.take k

set_option maxHeartbeats 1000000 in
theorem same2_any (w : World) (lo hi lo' hi' : Nat) (u v : Value) (xs ys : List (List Int)) (hx : RowsT w lo hi u xs) (hy : RowsT w lo' hi' v ys) :
    Calls Try.prog 13 #[u, v] w fun e w' => e = .returned (.bool (decide (xs = ys))) ∧ Below w.heap.size w w' := by
  obtain ⟨a, cap, rfl, p2, p3⟩ := hx.form
  obtain ⟨b, dap, rfl, q2, q3⟩ := hy.form
  have HX := Lib.hid hx
  have HY := Lib.hid hy
  have h63 : xs.length ≤ 9223372036854775807 := by omega
  clear hx hy
  by_cases hlen : xs.length = ys.length
  · have hlen' : ((xs.length : Int) != ys.length) = false := by simp [hlen]
    have HLEN := Lib.hid hlen
    clear hlen
    go_enter Try.func13, Try.ntmps13
    go_wp2
    go_loopw [5] (Same2Rel w xs ys) (fun i _ => xs.length - (intOf i).toNat)
    case atStart => exact ⟨0, Nat.zero_le _, rfl, Keeps.refl _ _, rfl⟩
    case round =>
      obtain ⟨k, hk, rfl, hK, ht⟩ := hrel
      have HT := Lib.hid ht
      have HK := Lib.hid hK
      clear ht hK
      by_cases hlt : k < xs.length
      · obtain ⟨x, hx⟩ : ∃ x, xs[k]? = some x := ⟨_, List.getElem?_eq_getElem hlt⟩
        obtain ⟨y, hy⟩ : ∃ y, ys[k]? = some y := ⟨_, List.getElem?_eq_getElem (by rw [← HLEN.out]; exact hlt)⟩
        obtain ⟨g, o, ux, rfl, hc0, hxI⟩ := HX.out.at' hx
        obtain ⟨g', o', uy, rfl, hc0', hyI⟩ := HY.out.at' hy
        have hc : wr.cell? ⟨g, o + k, none⟩ = some ux := by rw [HK.out.cell (p := ⟨g, o + k, none⟩) (World.block_lt_of_cell? _ _ hc0) (fun x => x)]; exact hc0
        have hc' : wr.cell? ⟨g', o' + k, none⟩ = some uy := by rw [HK.out.cell (p := ⟨g', o' + k, none⟩) (World.block_lt_of_cell? _ _ hc0') (fun x => x)]; exact hc0'
        obtain ⟨xa, xc, rfl, _, _⟩ := hxI.form
        obtain ⟨ya, yc, rfl, _, _⟩ := hyI.form
        have HXI : Hid (∀ n, IntsAt (wr.drewN n) lo hi (.slice xa x.length xc) x) := Lib.hid (fun n => (hxI.keeps (HK.out.drewN n) (fun _ _ _ x => x)).1)
        have HYI : Hid (∀ n, IntsAt (wr.drewN n) lo' hi' (.slice ya y.length yc) y) := Lib.hid (fun n => (hyI.keeps (HK.out.drewN n) (fun _ _ _ x => x)).1)
        have HXK := Lib.hid hx
        have HYK := Lib.hid hy
        have hk0 : (0 : Int) ≤ (k : Int) := by omega
        have hk1 : (k : Int) < (xs.length : Int) := by omega
        have hk2 : (k : Int) < (ys.length : Int) := by have := HLEN.out; omega
        have hk3 : (k : Int).toNat = k := by omega
        clear hx hy hc0 hc0' hxI hyI
        by_cases e : x = y
        · have HE : Hid (decide (x = y) = true) := Lib.hid (decide_eq_true e)
          have HEQ := Lib.hid e
          clear e
          have HC : Hid (∀ n, Calls Try.prog 17 #[.slice xa x.length xc, .slice ya y.length yc] (wr.drewN n) fun e w'' => e = .returned (.bool true) ∧ ∃ m, w'' = wr.drewN m) := Lib.hid (fun n => by
            have h := quiet_drewN (same_any (wr.drewN n) lo hi lo' hi' _ _ x y (HXI.out n) (HYI.out n))
            rwa [HE.out] at h)
          go_wp2_with fail
          go_quiet ((go_at_call 17; exact HC.out _))
          go_wp2
          go_roundw
          case rel =>
            refine ⟨k + 1, hlt, rfl, HK.out.drewN _, ?_⟩
            obtain ⟨h1, e1⟩ := List.getElem?_eq_some_iff.1 HXK.out
            obtain ⟨h2, e2⟩ := List.getElem?_eq_some_iff.1 HYK.out
            rw [List.take_succ_eq_append_getElem h1, List.take_succ_eq_append_getElem h2, HT.out, e1, e2, HEQ.out]
          case measure => simp [intOf]; omega
        · have HN : Hid (decide (xs = ys) = false) := Lib.hid (decide_eq_false (fun h => e (by subst h; exact Option.some.inj (HXK.out.symm.trans HYK.out))))
          have HE : Hid (decide (x = y) = false) := Lib.hid (decide_eq_false e)
          clear e
          have HC : Hid (∀ n, Calls Try.prog 17 #[.slice xa x.length xc, .slice ya y.length yc] (wr.drewN n) fun e w'' => e = .returned (.bool false) ∧ ∃ m, w'' = wr.drewN m) := Lib.hid (fun n => by
            have h := quiet_drewN (same_any (wr.drewN n) lo hi lo' hi' _ _ x y (HXI.out n) (HYI.out n))
            rwa [HE.out] at h)
          go_wp2_with fail
          go_quiet ((go_at_call 17; exact HC.out _))
          go_wp2
          go_ret
          exact ⟨by rw [HN.out]; rfl, (HK.out.drewN _).toBelow (Nat.le_refl _) (fun _ _ x => x)⟩
      · obtain rfl : k = xs.length := by omega
        have HE : Hid (decide (xs = ys) = true) := Lib.hid (decide_eq_true (by have := HT.out; rw [List.take_length] at this; rw [this, HLEN.out, List.take_length]))
        go_wp2
        go_ret
        exact ⟨by rw [HE.out]; rfl, HK.out.toBelow (Nat.le_refl _) (fun _ _ x => x)⟩
  · have hlen' : ((xs.length : Int) != ys.length) = true := by simp; omega
    have HN : Hid (decide (xs = ys) = false) := Lib.hid (decide_eq_false (fun h => hlen (by rw [h])))
    clear hlen
    go_enter Try.func13, Try.ntmps13
    go_wp2
    go_ret
    exact ⟨by rw [HN.out]; rfl, Below.refl _ _⟩

/-! ### Sets -/
theorem own_block {w : World} {B g : Nat} {us : List Value} (hB : Blk w g 22 us) (hb : B ≤ g) (hl : us.length ≤ 1000) : w.ownsRow B 22 1 (.slice (some ⟨g, 0, none⟩) us.length us.length) us.length us :=
  ⟨by simp, .inr ⟨g, us.length, us.toArray, rfl, hb, hB, Nat.le_refl _, by unfold maxLen; omega, by simp, by simp⟩⟩

set_option maxRecDepth 100000 in
set_option maxHeartbeats 1000000 in
theorem rsets_any : ∀ (f : Nat) (w : World) (lo hi : Nat) (v : Value) (zs : List Int), zs.length ≤ f → zs.length ≤ 16 → IntsT w lo hi v zs → hi ≤ w.heap.size → lo ≤ w.heap.size →
    Calls Try.prog 14 #[v] w fun e w' => ∃ v', e = .returned v' ∧ OwnT w' w.heap.size lo v' (setsF (f + 1) zs) ∧ Below w.heap.size w w' := by
  intro f
  induction f with
  | zero =>
    intro w lo hi v zs hf h16 h hhi hlo
    have hz : zs = [] := List.eq_nil_of_length_eq_zero (by omega)
    subst hz
    obtain ⟨a, cap, rfl, _, _⟩ := h.form
    clear h
    go_enter Try.func14, Try.ntmps14
    go_wp2_with fail
    go_ret
    exact ⟨_, rfl, OwnT.nil _ _ _, Below.refl _ _⟩
  | succ f ih =>
    intro w lo hi v zs hf h16 h hhi hlo
    obtain ⟨a, cap, rfl, hc1, hc2⟩ := h.form
    have HIH := Lib.hid ih
    have HI := Lib.hid h
    have HHI := Lib.hid hhi
    have HLO := Lib.hid hlo
    clear h ih hhi hlo
    by_cases h0 : zs.length = 0
    · have hz : zs = [] := List.eq_nil_of_length_eq_zero h0
      subst hz
      clear h0
      go_enter Try.func14, Try.ntmps14
      go_wp2_with fail
      go_ret
      exact ⟨_, rfl, by rw [setsF_nil]; exact OwnT.nil _ _ _, Below.refl _ _⟩
    · have e0 : ((zs.length : Int) == 0) = false := by simpa using h0
      obtain ⟨W1, hW1⟩ : ∃ W1, w.alloc (.cells #[.slice a zs.length cap] 22) = W1 := ⟨_, rfl⟩
      have HB1 : Hid (Below w.heap.size w W1) := Lib.hid (by rw [← hW1]; exact (Below.refl w.heap.size w).alloc (Nat.le_refl _) _)
      have HK1 : Hid (Blk W1 w.heap.size 22 [.slice a zs.length cap]) := Lib.hid (by rw [← hW1]; exact Blk.new w 22 [.slice a zs.length cap])
      have HO1 : Hid (W1.ownsRow w.heap.size 22 1 (.slice (some ⟨w.heap.size, 0, none⟩) 1 1) 1 [.slice a zs.length cap]) := Lib.hid (own_block HK1.out (Nat.le_refl _) (by simp))
      have HE1 : Hid (Each W1 lo W1.heap.size [.slice a zs.length cap] [zs]) := Lib.hid (Each.single ((HI.out.below HB1.out).mono (Nat.le_refl _) (Nat.le_trans HHI.out HB1.out.size)))
      have HW1 := Lib.hid hW1
      clear hW1
      by_cases h1 : zs.length = 1
      · have e1 : ((zs.length : Int) == 1) = true := by simp [h1]
        have HE : Hid (setsF (f + 1 + 1) zs = [zs]) := Lib.hid (by
          have hk : kidsOf zs = ([], []) := if_pos (by omega)
          rw [setsF, if_neg h0, hk, setsF_nil]
          rfl)
        clear h0 h1
        go_enter Try.func14, Try.ntmps14
        go_wp2_with fail
        rw [HW1.out]
        go_ret
        exact ⟨_, rfl, by rw [HE.out]; exact ⟨_, HO1.out, HE1.out⟩, HB1.out⟩
      · have e1 : ((zs.length : Int) == 1) = false := by simp; omega
        obtain ⟨i0, hi0, hz0, hz1, hz2⟩ := info_parts intsInfo3
        obtain ⟨i1, hi1, _, hy1, _⟩ := info_parts intInfo3
        obtain ⟨k, hk⟩ : ∃ k, k = leftOf zs.length := ⟨_, rfl⟩
        have hk1 : k < zs.length := by rw [hk]; exact leftOf_lt (by omega)
        have hkp : 1 ≤ k := by rw [hk]; exact leftOf_pos _
        have HL : Hid (∀ W, Calls Try.prog 16 #[.int .i64 zs.length] W fun e w' => e = .returned (.int .i64 k) ∧ W = w') := Lib.hid (fun W => by rw [hk]; exact rleft_any zs.length W h16)
        have hs1 := run_slice_pre (P := Try.prog) 22 3 i1 Try.underlying22 hi1 a zs.length cap k (by omega)
        have hs2 := run_slice_suf (P := Try.prog) 22 3 i1 Try.underlying22 hi1 a zs.length cap k (by omega)
        rw [hy1] at hs2
        have H1 := Lib.hid (HI.out.take (k := k) (by omega))
        have H2 := Lib.hid (HI.out.drop (k := k) (by omega))
        obtain ⟨a2, ha2⟩ : ∃ a2, a2 = (if cap = k then a else a.map (·.add (k * 1))) := ⟨_, rfl⟩
        rw [← ha2] at H2 hs2
        have HE : Hid (setsF (f + 1 + 1) zs = [zs] ++ setsF (f + 1) (zs.take k) ++ setsF (f + 1) (zs.drop k)) := Lib.hid (by
          have hk' : kidsOf zs = (zs.take k, zs.drop k) := by rw [hk]; exact if_neg (by omega)
          rw [setsF, if_neg h0, hk']
          simp)
        have HL1 : Hid ((zs.take k).length ≤ f ∧ (zs.take k).length ≤ 16) := Lib.hid (by simp; omega)
        have HL2 : Hid ((zs.drop k).length ≤ f ∧ (zs.drop k).length ≤ 16) := Lib.hid (by simp; omega)
        have Hz0 := Lib.hid hz0
        have Hz1 := Lib.hid hz1
        have Hz2 := Lib.hid hz2
        have Hi0 := Lib.hid hi0
        have hsl1 := setsF_len (f + 1) (zs.take k)
        have hsl2 := setsF_len (f + 1) (zs.drop k)
        have HS1 : Hid ((setsF (f + 1) (zs.take k)).length ≤ 100) := Lib.hid (by have := HL1.out; omega)
        have HS2 : Hid ((setsF (f + 1) (zs.drop k)).length ≤ 100) := Lib.hid (by have := HL2.out; omega)
        clear hz0 hz1 hz2 hi0 hk ha2 h0 h1 hi1 hy1 hsl1 hsl2
        obtain ⟨L1, hL1⟩ : ∃ L1, L1 = setsF (f + 1) (zs.take k) := ⟨_, rfl⟩
        obtain ⟨L2, hL2⟩ : ∃ L2, L2 = setsF (f + 1) (zs.drop k) := ⟨_, rfl⟩
        rw [← hL1, ← hL2] at HE
        rw [← hL1] at HS1
        rw [← hL2] at HS2
        have HC1 : Hid (∀ W, Below w.heap.size w W → Calls Try.prog 14 #[.slice a k cap] W fun e w' => ∃ v', e = .returned v' ∧ OwnT w' W.heap.size lo v' L1 ∧ Below W.heap.size W w') := Lib.hid (fun W hW => by
          rw [hL1]; exact HIH.out W lo hi _ (zs.take k) HL1.out.1 HL1.out.2 (H1.out.below hW) (Nat.le_trans HHI.out hW.size) (Nat.le_trans HLO.out hW.size))
        have HC2 : Hid (∀ W, Below w.heap.size w W → Calls Try.prog 14 #[.slice a2 (zs.length - k) (cap - k)] W fun e w' => ∃ v', e = .returned v' ∧ OwnT w' W.heap.size lo v' L2 ∧ Below W.heap.size W w') := Lib.hid (fun W hW => by
          rw [hL2]; exact HIH.out W lo hi _ (zs.drop k) HL2.out.1 HL2.out.2 (H2.out.below hW) (Nat.le_trans HHI.out hW.size) (Nat.le_trans HLO.out hW.size))
        clear hL1 hL2 HIH
        go_enter Try.func14, Try.ntmps14
        go_upto_region 7 with (go_at_call 16; refine (HL.out _).mono ?_; rintro e w' ⟨rfl, rfl⟩)
        rw [HW1.out]
        go_wp2_with (first
          | (go_at_call 14; (with_reducible refine (HC1.out W1 HB1.out).mono ?_); rintro e w2 ⟨v2, rfl, h2, hB2⟩; obtain ⟨xs, ox, ex⟩ := h2; obtain ⟨xa, xc, rfl⟩ := own_form ox; obtain ⟨us1, eu1, cu1⟩ := (OwnT.rows ⟨xs, ox, ex⟩ (Nat.le_trans HLO.out HB1.out.size)).vals; have HU1 := Lib.hid eu1; have HCU1 := Lib.hid cu1; have HB2 := Lib.hid hB2; have HO2 : Hid (w2.ownsRow w.heap.size 22 1 (.slice (some ⟨w.heap.size, 0, none⟩) 1 1) 1 [.slice a zs.length cap]) := Lib.hid (ownsRow_keeps HO1.out (Keeps.below hB2) (fun b hb x => by have := (HO1.out.lt b hb).2; omega)); have HE2 : Hid (Each w2 lo w2.heap.size [.slice a zs.length cap] [zs]) := Lib.hid ((HE1.out.keepsOwn (Keeps.below hB2) (fun b hb x => by have := hb.lt; omega)).mono (Nat.le_refl _) hB2.size); clear ox ex eu1 cu1 hB2)
          | (at_builtin; (refine wpL_append0 rfl (.tmp 17) (.tmp 21) 24 rfl w.heap.size 22 i0 (.slice none 0 0) 1 24 Try.underlying24 Hi0.out Hz0.out Hz1.out Hz2.out rfl Nat.one_pos (.slice (some ⟨w.heap.size, 0, none⟩) 1 1) 1 [.slice a zs.length cap] rfl HO2.out xa L1.length xc us1 rfl (by rw [HU1.out.1, Nat.mul_one]) HCU1.out HU1.out.one (by have := HS1.out; unfold maxLen; omega) (by have := HS1.out; omega) (Nat.le_trans HB1.out.size HB2.out.size) ?_); intro v3 w3 hown hg; have HO3 := Lib.hid hown; have HG3 := Lib.hid hg; clear hown hg)
          )
        have HT3 : Hid (OwnT w3 w.heap.size lo v3 ([zs] ++ L1)) := Lib.hid (OwnT.push (ls := [zs]) (ls' := L1) HO2.out HE2.out HU1.out HO3.out rfl HG3.out)
        have HB3 : Hid (Below w.heap.size w w3) := Lib.hid ((HB1.out.trans (HB2.out.mono HB1.out.size)).grown HG3.out (Nat.le_trans HB1.out.size HB2.out.size) (fun b hb => (HO2.out.lt b hb).1))
        clear HO3 HG3 HU1 HCU1 HO2 HE2 HB2 HO1 HE1 HK1
        refine (HC2.out w3 HB3.out).mono ?_
        rintro e w4 ⟨v4, rfl, h4, hB4⟩
        have HT4 := Lib.hid (HT3.out.below hB4)
        have HB4 := Lib.hid hB4
        obtain ⟨us3, ox3, ex3⟩ := HT4.out
        obtain ⟨ya, yc, rfl⟩ := own_form ox3
        obtain ⟨xs, ox, ex⟩ := h4
        obtain ⟨xa', xc', rfl⟩ := own_form ox
        obtain ⟨us2, eu2, cu2⟩ := (OwnT.rows ⟨xs, ox, ex⟩ (Nat.le_trans HLO.out HB3.out.size)).vals
        have HU2 := Lib.hid eu2
        have HCU2 := Lib.hid cu2
        have HOX := Lib.hid ox3
        have HEX := Lib.hid ex3
        clear ox ex eu2 cu2 hB4 ox3 ex3
        have hln : ([zs] ++ L1).length = L1.length + 1 := by simp
        rw [hln] at HOX
        rw [hln]
        go_wp2_with (at_builtin; (refine wpL_append0 rfl (.tmp 23) (.tmp 27) 24 rfl w.heap.size 22 i0 (.slice none 0 0) 1 24 Try.underlying24 Hi0.out Hz0.out Hz1.out Hz2.out rfl Nat.one_pos (.slice ya (L1.length + 1) yc) (L1.length + 1) us3 rfl HOX.out xa' L2.length xc' us2 rfl (by rw [HU2.out.1, Nat.mul_one]) HCU2.out HU2.out.one (by have := HS1.out; have := HS2.out; unfold maxLen; omega) (by have := HS1.out; have := HS2.out; omega) (Nat.le_trans HB3.out.size HB4.out.size) ?_); intro v5 w5 hown hg; have HO5 := Lib.hid hown; have HG5 := Lib.hid hg; clear hown hg)
        go_ret
        refine ⟨_, rfl, ?_, (HB3.out.trans (HB4.out.mono HB3.out.size)).grown HG5.out (Nat.le_trans HB3.out.size HB4.out.size) (fun b hb => (HOX.out.lt b hb).1)⟩
        rw [HE.out]
        exact OwnT.push (ls := [zs] ++ L1) (ls' := L2) (by rw [hln]; exact HOX.out) HEX.out HU2.out HO5.out (by rw [hln]) HG5.out
end Go.Proofs.Ytappaadadkoamaa
