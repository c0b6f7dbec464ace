/- TreeDeep, walked: it answers true, and changes nothing that was there. -/
import Derived.Test.YtappaadadkoamaaTLives
import Derived.Test.YtappaadadkoamaaTPlain
import Derived.IntWalk
namespace Go.Proofs.Ytappaadadkoamaa
open Go.RowKit
set_option linter.unusedVariables false

def ClogRel (w : World) (n : Nat) (k m : Value) (wr : World) : Prop :=
  ∃ K M : Nat, ((M = 1 ∧ K = 0) ∨ (M = 2 ∧ K = 1) ∨ (M = 4 ∧ K = 2) ∨ (M = 8 ∧ K = 3) ∨ (M = 16 ∧ K = 4)) ∧ (K = 0 ∨ M < 2 * n) ∧ k = .int .i64 K ∧ m = .int .i64 M ∧ w = wr
theorem clog_end {n K M : Nat} (h : (M = 1 ∧ K = 0) ∨ (M = 2 ∧ K = 1) ∨ (M = 4 ∧ K = 2) ∨ (M = 8 ∧ K = 3) ∨ (M = 16 ∧ K = 4)) (h2 : K = 0 ∨ M < 2 * n) (h3 : ¬ M < n) : K = clog n := by
  unfold clog
  split <;> (try split) <;> (try split) <;> (try split) <;> omega
def DeepRel (w : World) (n : Nat) (i : Value) (wr : World) : Prop := ∃ k : Nat, k + 1 ≤ n ∧ i = .int .i64 k ∧ ∃ q, wr = w.drewN q

set_option maxRecDepth 100000 in
set_option maxHeartbeats 4000000 in
theorem treedeep_walk (w : World) (v : Value) (l : List Int) (which : Int) (h : ArgInts w v l) (hwf : (Lit.int .i64 which).wf = true) :
    Calls Try.prog 6 #[v, .int .i64 which] w fun e w' => e = .returned (.bool true) ∧ Below w.heap.size w w' := by
  have H := Lib.hid h
  have HW := Lib.hid hwf
  clear h hwf
  go_enter Try.func6, Try.ntmps6
  go_wp2_with fail
  refine (leaves_any w v l H.out).mono ?_
  rintro e w1 ⟨vl, rfl, hI, hB⟩
  have HI1 := Lib.hid hI
  have HB1 := Lib.hid hB
  clear hI hB
  obtain ⟨zs, hzs⟩ : ∃ zs, zs = leavesOf l := ⟨_, rfl⟩
  have hz14 : zs.length ≤ 14 := by rw [hzs]; exact leavesOf_len l
  rw [← hzs] at HI1
  clear hzs
  obtain ⟨la, lc, rfl, hl1, hl2⟩ := HI1.out.form
  have h63 : zs.length ≤ 9223372036854775807 := by omega
  by_cases h0 : zs.length = 0
  · have hz : zs = [] := List.eq_nil_of_length_eq_zero h0
    subst hz
    clear h0
    have HP : Hid (pathOf [] which = []) := Lib.hid (by simp [pathOf, downOf])
    go_wp2_with (first | (go_at_call 20; refine (path_any w1 w.heap.size w1.heap.size (.slice la 0 lc) [] which HI1.out (Nat.le_refl _) (by simp)).mono ?_; rintro e w2 ⟨v2, rfl, h2, hB2⟩; rw [HP.out] at h2; obtain ⟨us, h3, _⟩ := h2; obtain ⟨pa, pc, rfl⟩ := own_form h3; have HB2 := Lib.hid hB2; clear h3 hB2) | (go_at_call 18; refine (lives_any w2).mono ?_; rintro e w3 ⟨rfl, hB3⟩; have HB3 := Lib.hid hB3; clear hB3))
    go_ret
    have hm := HB1.out.trans (HB2.out.mono HB1.out.size)
    exact ⟨rfl, hm.trans (HB3.out.mono hm.size)⟩
  · have e0 : ((zs.length : Int) == 0) = false := by simpa using h0
    obtain ⟨k, hk⟩ : ∃ k : Nat, (k : Int) = around which zs.length := ⟨(around which zs.length).toNat, Int.toNat_of_nonneg (around_lo _ _ (by omega))⟩
    have hk1 : k < zs.length := by have := around_hi which zs.length (by omega); omega
    have HA := Lib.hid (show Calls Try.prog 19 #[.int .i64 which, .int .i64 zs.length] w1 fun e w' => e = .returned (.int .i64 k) ∧ w1 = w' by rw [hk]; exact around_any which zs.length w1 HW.out (by omega) (by omega))
    obtain ⟨d, hd⟩ : ∃ d, zs[k]? = some d := ⟨_, List.getElem?_eq_getElem hk1⟩
    have HD : Hid (d ∈ zs) := Lib.hid (List.mem_of_getElem? hd)
    obtain ⟨x0, hx0, hc0⟩ := HI1.out.cells k (.int .i64 d) (by rw [List.getElem?_map, hd]; rfl)
    obtain ⟨g, o, rfl, hc⟩ : ∃ g o, la = some ⟨g, o, none⟩ ∧ w1.cell? ⟨g, o + k, none⟩ = some (.int .i64 d) := by
      obtain ⟨⟨a', cap', he, _, _, _, _, h6⟩, _⟩ := HI1.out
      simp at he
      obtain ⟨rfl, _⟩ := he
      exact h6 k d hd
    have HPO := Lib.hid (path_ok (by omega : zs.length ≤ 16) HD.out)
    have hk0 : (0 : Int) ≤ (k : Int) := by omega
    have hkz : (k : Int) < (zs.length : Int) := by omega
    have HDW : Hid ((Lit.int .i64 d).wf = true) := Lib.hid (HI1.out.wf d HD.out)
    clear hk hd hx0 hc0 h0
    obtain ⟨P, hP⟩ : ∃ P, P = pathOf zs d := ⟨_, rfl⟩
    have HPE := Lib.hid hP
    rw [← hP] at HPO
    clear hP
    have hpp := HPO.out.pos
    have hpl := HPO.out.len
    have HPL := Lib.hid hpl
    have hcl : clog zs.length ≤ 4 := by unfold clog; split <;> (try split) <;> (try split) <;> (try split) <;> omega
    have hp5 : P.length ≤ 5 := by omega
    clear hpl
    go_upto_region 6 with (first | (go_at_call 19; refine HA.out.mono ?_; rintro e w' ⟨rfl, rfl⟩) | (go_at_call 20; refine (path_any w1 w.heap.size w1.heap.size (.slice (some ⟨g, o, none⟩) zs.length lc) zs d HI1.out (Nat.le_refl _) (by omega)).mono ?_; rw [← HPE.out]; rintro e w2 ⟨v2, rfl, h2, hB2⟩; have HR2 := Lib.hid (OwnT.rows h2 (Nat.le_refl _)); obtain ⟨us, h3, _⟩ := h2; obtain ⟨pa, pc, rfl⟩ := own_form h3; have HB2 := Lib.hid hB2; clear h3 hB2))
    have HI2 := Lib.hid (HI1.out.below HB2.out)
    have HBW := Lib.hid (HB1.out.trans (HB2.out.mono HB1.out.size))
    clear hc HA HI1 HB1 HB2
    go_wp2
    go_loopw [8, 9] (ClogRel w2 zs.length) (fun _ m _ => 16 - (intOf m).toNat)
    case atStart => exact ⟨0, 1, .inl ⟨rfl, rfl⟩, .inl rfl, rfl, rfl, rfl⟩
    case round =>
      obtain ⟨K, M, hKM, hK2, rfl, rfl, rfl⟩ := hrel
      have hM : 1 ≤ M ∧ M ≤ 16 ∧ K ≤ 4 := by omega
      obtain ⟨m1, m2, m3⟩ := hM
      by_cases hlt : M < zs.length
      · go_wp2
        go_roundw
        case rel => exact ⟨K + 1, 2 * M, by omega, by omega, by first | rfl | (congr 1; push_cast; omega), by first | rfl | (congr 1; push_cast; omega), rfl⟩
        case measure => simp [intOf]; omega
      · have hKc := clog_end hKM hK2 hlt
        have hPK : (P.length : Int) ≤ (K : Int) + 1 := by have := HPL.out; omega
        have hPK2 : decide ((K : Int) + 1 < (P.length : Int)) = false := decide_eq_false (by omega)
        have hP1 : decide (P.length < 1) = false := decide_eq_false (by omega)
        have HKC := Lib.hid hKc
        clear hKc hKM hK2
        go_wp2
        have HR2' := HR2
        go_loopw [10] (DeepRel w2 P.length) (fun i _ => P.length - (intOf i).toNat)
        case atStart => exact ⟨0, by omega, rfl, 0, rfl⟩
        case round =>
          obtain ⟨j, hj, rfl, q, rfl⟩ := hrel
          by_cases hj1 : j + 1 < P.length
          · obtain ⟨x, hx⟩ : ∃ x, P[j]? = some x := ⟨_, List.getElem?_eq_getElem (by omega)⟩
            obtain ⟨y, hy⟩ : ∃ y, P[j + 1]? = some y := ⟨_, List.getElem?_eq_getElem hj1⟩
            have hxy := HPO.out.step j x y hx hy
            obtain ⟨gp, op, ux, rfl, cx, hxI⟩ := HR2.out.at' hx
            obtain ⟨gp', op', uy, he, cy, hyI⟩ := HR2.out.at' hy
            simp only [Option.some.injEq, Addr.mk.injEq] at he
            obtain ⟨rfl, rfl, -⟩ := he
            obtain ⟨xa, xc, rfl, _, _⟩ := hxI.form
            obtain ⟨ya, yc, rfl, _, _⟩ := hyI.form
            have hge : decide ((y.length : Int) ≤ (x.length : Int)) = false := decide_eq_false (by omega)
            have hge2 : decide (y.length ≤ x.length) = false := decide_eq_false (by omega)
            have hj0 : (0 : Int) ≤ (j : Int) := by omega
            have hjl : (j : Int) < (P.length : Int) := by omega
            have hw : IntKind.i64.wrap ((j : Int) + 1) = (j : Int) + 1 := IntWalk.i64_in _ (by omega)
            have hj2 : (0 : Int) ≤ (j : Int) + 1 := by omega
            have hj3 : (j : Int) + 1 < (P.length : Int) := by omega
            have ht0 : (j : Int).toNat = j := by omega
            have ht1 : ((j : Int) + 1).toNat = j + 1 := by omega
            clear hx hy hxI hyI
            go_wp2
            go_quiet (fail)
            clear hw ht1
            go_wp2
            go_roundw
            case rel => exact ⟨j + 1, by omega, rfl, _, by first | rfl | rw [World.drewN_drewN]⟩
            case measure => simp [intOf]; omega
          · have hjj : j + 1 = P.length := by omega
            obtain ⟨gp, op, u0, rfl, cz0, hI0⟩ := HR2.out.at' HPO.out.head
            obtain ⟨gp', op', u1, he, cl, hIl⟩ := HR2.out.at' HPO.out.last
            simp only [Option.some.injEq, Addr.mk.injEq] at he
            obtain ⟨rfl, rfl, -⟩ := he
            obtain ⟨xa, xc, rfl, _, _⟩ := hI0.form
            obtain ⟨ya, yc, rfl, _, _⟩ := hIl.form
            rw [Nat.add_zero] at cz0
            have hb0 := World.block_lt_of_cell? _ _ cl
            have HI0 := Lib.hid hI0
            have HIl := Lib.hid hIl
            have HCL := Lib.hid cl
            clear hI0 hIl
            have hjf : decide ((j : Int) + 1 < (P.length : Int)) = false := decide_eq_false (by omega)
            go_wp2_with fail
            obtain ⟨X, hX⟩ : ∃ X, (w2.drewN q).alloc (.cells #[.int .i64 d] 3) = X := ⟨_, rfl⟩
            have HKX : Hid (Keeps (fun _ => False) w2 X) := Lib.hid (by rw [← hX]; exact ((Keeps.refl _ w2).drewN q).alloc _)
            have HBX : Hid (Below w2.heap.size w2 X) := Lib.hid (HKX.out.toBelow (Nat.le_refl _) (fun _ _ x => x))
            have HIX : Hid (IntsT X w2.heap.size X.heap.size (.slice (some ⟨w2.heap.size, 0, none⟩) 1 1) [d]) := Lib.hid (by rw [← hX]; exact intsT_blk (zs := [d]) (Blk.new (w2.drewN q) 3 [.int .i64 d]) (by simp) (by simp [HDW.out]) ⟨Nat.le_refl _, by simp⟩)
            have cl2 : X.cell? ⟨gp, op + (P.length - 1), none⟩ = some (.slice ya zs.length yc) := (HBX.out.cell (p := ⟨gp, op + (P.length - 1), none⟩) hb0).trans HCL.out
            have HS1 : Hid (Calls Try.prog 17 #[.slice xa 1 xc, .slice (some ⟨w2.heap.size, 0, none⟩) 1 1] X fun e w' => e = .returned (.bool true) ∧ ∃ q', w' = X.drewN q') := Lib.hid (by
              have h := same_any X _ _ _ _ _ _ [d] [d] (HI0.out.below HBX.out).1 HIX.out.1
              rwa [decide_eq_true rfl] at h)
            have HS2 : Hid (∀ n, Calls Try.prog 17 #[.slice ya zs.length yc, .slice (some ⟨g, o, none⟩) zs.length lc] (X.drewN n) fun e w' => e = .returned (.bool true) ∧ ∃ q', w' = (X.drewN n).drewN q') := Lib.hid (fun n => by
              have h := same_any (X.drewN n) _ _ _ _ _ _ zs zs ((HIl.out.below HBX.out).keeps ((Keeps.refl (fun _ => False) X).drewN n) (fun _ _ _ x => x)).1 ((HI2.out.below HBX.out).keeps ((Keeps.refl (fun _ => False) X).drewN n) (fun _ _ _ x => x)).1
              rwa [decide_eq_true rfl] at h)
            rw [hX]
            clear hX cz0 cl
            have hPm : (0 : Int) ≤ (P.length : Int) - 1 := by omega
            have hPm2 : (P.length : Int) - 1 < (P.length : Int) := by omega
            refine HS1.out.mono ?_
            rintro e w7 ⟨rfl, q1, rfl⟩
            go_wp2_with (first | (go_at_call 17; refine (HS2.out _).mono ?_; rintro e w8 ⟨rfl, q2, rfl⟩) | (go_at_call 18; refine (lives_any _).mono ?_; rintro e w9 ⟨rfl, hB9⟩; have HB9 := Lib.hid hB9; clear hB9))
            go_ret
            have hm := HBW.out.trans (HBX.out.mono HBW.out.size)
            have h9 := HB9.out
            exact ⟨rfl, hm.trans ((Below.mono (B' := w.heap.size) h9 hm.size).trans (Below.refl _ _) |> fun z => ⟨z.os, z.tape, z.output, z.size, z.block⟩)⟩
end Go.Proofs.Ytappaadadkoamaa
