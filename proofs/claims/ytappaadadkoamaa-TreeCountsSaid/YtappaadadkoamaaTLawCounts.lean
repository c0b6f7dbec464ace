/- TreeCounts, walked: it answers true, and changes nothing that was there. -/
import Derived.Test.YtappaadadkoamaaTLives
import Derived.Test.YtappaadadkoamaaTPlain3
import Derived.IntWalk
import Derived.Deep.QuietTactic
import Derived.BigQuiet
namespace Go.Proofs.Ytappaadadkoamaa
open Go.RowKit
set_option linter.unusedVariables false

def CntRel (w : World) (S : List (List Int)) (o i : Value) (wr : World) : Prop := ∃ k c : Nat, k ≤ S.length ∧ c = (S.take k).countP oneB ∧ i = .int .i64 k ∧ o = .int .i64 c ∧ Keeps (fun _ => False) w wr
def CntRel2 (w : World) (n : Nat) (k : Value) (wr : World) : Prop := ∃ j : Nat, j ≤ n ∧ k = .int .i64 j ∧ Keeps (fun _ => False) w wr
def CntRel3 (w : World) (x : List Int) (b : Bool) (both n : Value) (wr : World) : Prop := ∃ j m : Nat, j ≤ x.length ∧ (m = if b then j else 0) ∧ n = .int .i64 j ∧ both = .int .i64 m ∧ Keeps (fun _ => False) w wr
theorem quiet_q {P : Program} {f : FuncId} {args : Array Value} {w : World} {n : Nat} {v : Value} (h : Calls P f args (w.drewN n) fun e w' => e = .returned v ∧ ∃ q, w' = (w.drewN n).drewN q) : Calls P f args (w.drewN n) fun e w'' => e = .returned v ∧ ∃ m, w'' = w.drewN m :=
  h.mono fun _ _ ⟨he, m, hm⟩ => ⟨he, n + m, by rw [hm, World.drewN_drewN]⟩

set_option maxRecDepth 100000 in
set_option maxHeartbeats 4000000 in
theorem treecounts_walk (w : World) (v : Value) (l : List Int) (h : ArgInts w v l) :
    Calls Try.prog 5 #[v] w fun e w' => e = .returned (.bool true) ∧ Below w.heap.size w w' := by
  have H := Lib.hid h
  clear h
  go_enter Try.func5, Try.ntmps5
  go_wp2_with fail
  refine (leaves_any w v l H.out).mono ?_
  rintro e w1 ⟨vl, rfl, hI, hB⟩
  have HI1 := Lib.hid hI
  have HB1 := Lib.hid hB
  clear hI hB
  obtain ⟨zs, hzs⟩ : ∃ zs, zs = leavesOf l := ⟨_, rfl⟩
  have hz14 : zs.length ≤ 14 := by rw [hzs]; exact leavesOf_len l
  have HND : Hid (zs.Nodup) := Lib.hid (by rw [hzs]; exact leavesOf_nodup l)
  rw [← hzs] at HI1
  clear hzs
  obtain ⟨la, lc, rfl, hl1, hl2⟩ := HI1.out.form
  go_wp2_with fail
  refine (sets_any w1 w.heap.size w1.heap.size (.slice la zs.length lc) zs HI1.out (by omega)).mono ?_
  rintro e w2 ⟨va, rfl, hT, hB⟩
  obtain ⟨S, hS⟩ : ∃ S, S = setsOf zs := ⟨_, rfl⟩
  rw [← hS] at hT
  have HR2 := Lib.hid (OwnT.rows hT (Nat.le_refl _))
  have HB2 := Lib.hid hB
  have hSl : S.length = 2 * zs.length - 1 := by
    rw [hS]
    rcases Nat.eq_zero_or_pos zs.length with h0 | h0
    · have : zs = [] := List.eq_nil_of_length_eq_zero h0
      subst this
      rfl
    · exact (setsF_count 16 zs (by omega) h0).1
  have HSC : Hid (S.countP oneB = zs.length) := Lib.hid (by
    rw [hS]
    rcases Nat.eq_zero_or_pos zs.length with h0 | h0
    · have : zs = [] := List.eq_nil_of_length_eq_zero h0
      subst this
      rfl
    · exact (setsF_count 16 zs (by omega) h0).2)
  have HL : Hid (S.Pairwise Lam) := Lib.hid (by rw [hS]; exact setsF_lam 16 zs HND.out)
  have HMem : Hid (∀ x ∈ S, x.length ≤ 14 ∧ 1 ≤ x.length) := Lib.hid (fun x hx => by rw [hS] at hx; have := setsF_mem3 16 zs x hx; omega)
  clear hS
  obtain ⟨us, h3, _⟩ := hT
  obtain ⟨sa, sc, rfl⟩ := own_form h3
  have HBW := Lib.hid (HB1.out.trans (HB2.out.mono HB1.out.size))
  clear h3 hB HB1 HB2 HI1 H
  have HSl := Lib.hid hSl
  have hS30 : S.length ≤ 30 := by omega
  have hmx : (if (1 : Int) < 2 * (zs.length : Int) then 2 * (zs.length : Int) - 1 else 0) = (S.length : Int) := by split <;> omega
  have hmx2 : (if (0 : Int) < 2 * (zs.length : Int) - 1 then 2 * (zs.length : Int) - 1 else 0) = (S.length : Int) := by split <;> omega
  clear hSl
  go_wp2_with fail
  clear hmx hmx2
  go_loopw [5, 6] (CntRel w2 S) (fun _ i _ => S.length - (intOf i).toNat)
  case atStart => exact ⟨0, 0, Nat.zero_le _, rfl, rfl, rfl, Keeps.refl _ _⟩
  case round =>
    obtain ⟨k, c, hk, hcc, rfl, rfl, hK⟩ := hrel
    have HK := Lib.hid hK
    have hc30 : c ≤ 30 := by rw [hcc]; exact Nat.le_trans (List.countP_le_length) (by simp; omega)
    have HCC := Lib.hid hcc
    clear hK hcc
    by_cases hlt : k < S.length
    · obtain ⟨x, hx⟩ : ∃ x, S[k]? = some x := ⟨_, List.getElem?_eq_getElem hlt⟩
      obtain ⟨hx14, hx1⟩ := HMem.out x (List.mem_of_getElem? hx)
      obtain ⟨g, o, u, rfl, hc0, hI⟩ := HR2.out.at' hx
      obtain ⟨xa, xc, rfl, _, _⟩ := hI.form
      have HXI := Lib.hid hI
      have HX := Lib.hid hx
      have HC0 := Lib.hid hc0
      have hc : wr.cell? ⟨g, o + k, none⟩ = some (.slice xa x.length xc) := by rw [HK.out.cell (p := ⟨g, o + k, none⟩) (World.block_lt_of_cell? _ _ hc0) (fun x => x)]; exact hc0
      have hk0 : (0 : Int) ≤ (k : Int) := by omega
      have hk1 : (k : Int) < (S.length : Int) := by omega
      have hkt : (k : Int).toNat = k := by omega
      obtain ⟨b1, hb1⟩ : ∃ b1, b1 = oneB x := ⟨_, rfl⟩
      have e1 : ((x.length : Int) == 1) = b1 := by rw [hb1]; unfold oneB; by_cases h : x.length = 1 <;> simp [h]; omega
      have HCN : Hid ((S.take (k + 1)).countP oneB = c + if b1 then 1 else 0) := Lib.hid (by
        obtain ⟨h1, e1⟩ := List.getElem?_eq_some_iff.1 hx
        rw [List.take_succ_eq_append_getElem h1, List.countP_append, ← HCC.out, e1, List.countP_singleton, hb1])
      clear hx hI hc0 hb1
      cases b1
      all_goals
        go_wp2_with fail
        clear e1 hc
        go_loopw [7] (CntRel2 w2 k) (fun j _ => k - (intOf j).toNat)
        case atStart => exact ⟨0, Nat.zero_le _, rfl, HK.out⟩
        case round =>
          obtain ⟨j, hj, rfl, hK4⟩ := hrel
          have HK4 := Lib.hid hK4
          clear hK4
          have hc : wr.cell? ⟨g, o + k, none⟩ = some (.slice xa x.length xc) := by rw [HK4.out.cell (p := ⟨g, o + k, none⟩) (World.block_lt_of_cell? _ _ HC0.out) (fun x => x)]; exact HC0.out
          by_cases hjk : j < k
          · obtain ⟨y, hy⟩ : ∃ y, S[j]? = some y := ⟨_, List.getElem?_eq_getElem (by omega)⟩
            obtain ⟨hy14, hy1⟩ := HMem.out y (List.mem_of_getElem? hy)
            obtain ⟨hne, hlam⟩ := lam_at HL.out hjk hy HX.out
            obtain ⟨g', o', u, he, hd0, hI⟩ := HR2.out.at' hy
            simp only [Option.some.injEq, Addr.mk.injEq] at he
            obtain ⟨rfl, rfl, -⟩ := he
            obtain ⟨ya, yc, rfl, _, _⟩ := hI.form
            have HYI := Lib.hid hI
            have HD0 := Lib.hid hd0
            have hd : wr.cell? ⟨g, o + j, none⟩ = some (.slice ya y.length yc) := by rw [HK4.out.cell (p := ⟨g, o + j, none⟩) (World.block_lt_of_cell? _ _ hd0) (fun x => x)]; exact hd0
            have hj0 : (0 : Int) ≤ (j : Int) := by omega
            have hj1 : (j : Int) < (S.length : Int) := by omega
            have hjt : (j : Int).toNat = j := by omega
            have hdec : decide ((j : Int) < (k : Int)) = true := decide_eq_true (by omega)
            obtain ⟨b, HBb⟩ : ∃ b : Bool, Hid (∀ z ∈ x, decide (z ∈ y) = b) := by
              rcases hlam with h | h
              · exact ⟨false, Lib.hid fun z hz => decide_eq_false (h z hz)⟩
              · exact ⟨true, Lib.hid fun z hz => decide_eq_true (h z hz)⟩
            have HC : Hid (∀ n, Calls Try.prog 17 #[.slice xa x.length xc, .slice ya y.length yc] (wr.drewN n) fun e w'' => e = .returned (.bool false) ∧ ∃ m, w'' = wr.drewN m) := Lib.hid (fun n => by
              have h := same_any (wr.drewN n) _ _ _ _ _ _ x y (HXI.out.keeps (HK4.out.drewN n) (fun _ _ _ x => x)).1 (HYI.out.keeps (HK4.out.drewN n) (fun _ _ _ x => x)).1
              rw [decide_eq_false hne] at h
              exact quiet_q h)
            clear hne hlam hy hI hd0
            go_wp2_with fail
            go_quiet ((go_at_call 17; exact HC.out _))
            have HK5 := Lib.hid (HK4.out.drewN nq)
            generalize wr.drewN nq = w5 at HK5 ⊢
            clear HC HK4 hc hd
            go_wp2_with fail
            go_loopw [8, 9] (CntRel3 w2 x b) (fun _ n _ => x.length - (intOf n).toNat)
            case atStart => exact ⟨0, 0, Nat.zero_le _, by cases b <;> rfl, rfl, rfl, HK5.out⟩
            case round =>
              obtain ⟨n, m, hn, hm, rfl, rfl, hK6⟩ := hrel
              have HK6 := Lib.hid hK6
              have hm14 : m ≤ 14 := by rw [hm]; split <;> omega
              have HM := Lib.hid hm
              clear hK6 hm
              have hc : wr.cell? ⟨g, o + k, none⟩ = some (.slice xa x.length xc) := by rw [HK6.out.cell (p := ⟨g, o + k, none⟩) (World.block_lt_of_cell? _ _ HC0.out) (fun x => x)]; exact HC0.out
              have hd : wr.cell? ⟨g, o + j, none⟩ = some (.slice ya y.length yc) := by rw [HK6.out.cell (p := ⟨g, o + j, none⟩) (World.block_lt_of_cell? _ _ HD0.out) (fun x => x)]; exact HD0.out
              by_cases hnx : n < x.length
              · obtain ⟨z, hz⟩ : ∃ z, x[n]? = some z := ⟨_, List.getElem?_eq_getElem hnx⟩
                obtain ⟨gx, ox, rfl, cz⟩ : ∃ gx ox, xa = some ⟨gx, ox, none⟩ ∧ wr.cell? ⟨gx, ox + n, none⟩ = some (.int .i64 z) := by
                  obtain ⟨⟨a', cap', he, _, _, _, _, h6⟩, _⟩ := HXI.out
                  simp at he
                  obtain ⟨rfl, _⟩ := he
                  obtain ⟨gx, ox, e, hc⟩ := h6 n z hz
                  exact ⟨gx, ox, e, by rw [HK6.out.cell (p := ⟨gx, ox + n, none⟩) (World.block_lt_of_cell? _ _ hc) (fun x => x)]; exact hc⟩
                have hn0 : (0 : Int) ≤ (n : Int) := by omega
                have hn1 : (n : Int) < (x.length : Int) := by omega
                have hnt : (n : Int).toNat = n := by omega
                have hdec2 : decide ((n : Int) < (x.length : Int)) = true := decide_eq_true hn1
                have HC : Hid (∀ q, Calls Try.prog 24 #[.slice ya y.length yc, .int .i64 z] (wr.drewN q) fun e w'' => e = .returned (.bool b) ∧ ∃ m, w'' = wr.drewN m) := Lib.hid (fun q => by
                  have h := has_any (wr.drewN q) _ _ _ y z (HYI.out.keeps (HK6.out.drewN q) (fun _ _ _ x => x)).1
                  rw [HBb.out z (List.mem_of_getElem? hz)] at h
                  exact quiet_of_left h)
                clear hz
                cases b
                all_goals
                  go_wp2_with fail
                  go_quiet ((go_at_call 24; exact HC.out _))
                  have HK7 := Lib.hid (HK6.out.drewN nq)
                  generalize wr.drewN nq = w7 at HK7 ⊢
                  go_wp2
                  go_roundw
                  case rel => first | exact ⟨n + 1, m, hnx, by have := HM.out; simp at this ⊢; omega, rfl, rfl, HK7.out⟩ | exact ⟨n + 1, m + 1, hnx, by have := HM.out; simp at this ⊢; omega, rfl, by first | rfl | (congr 1; push_cast; rfl), HK7.out⟩
                  case measure => simp [intOf]; omega
              · obtain rfl : n = x.length := by omega
                have hdec2 : decide ((x.length : Int) < (x.length : Int)) = false := decide_eq_false (by omega)
                cases b
                · obtain rfl : m = 0 := by simpa using HM.out
                  go_wp2
                  go_roundw
                  case rel => exact ⟨j + 1, hjk, rfl, HK6.out⟩
                  case measure => simp [intOf]; omega
                · obtain rfl : m = x.length := by simpa using HM.out
                  have hx0 : ((x.length : Int) != 0) = true := bne_iff_ne.2 (by omega)
                  go_wp2
                  go_roundw
                  case rel => exact ⟨j + 1, hjk, rfl, HK6.out⟩
                  case measure => simp [intOf]; omega
          · obtain rfl : j = k := by omega
            have hdec : decide ((j : Int) < (j : Int)) = false := decide_eq_false (by omega)
            go_wp2
            go_roundw
            case rel => exact ⟨j + 1, _, hlt, HCN.out.symm, rfl, by simp, HK4.out⟩
            case measure => simp [intOf]; omega
    · obtain rfl : k = S.length := by omega
      obtain rfl : c = zs.length := by rw [HCC.out, List.take_length, HSC.out]
      go_wp2_with (go_at_call 18; refine (lives_any wr).mono ?_; rintro e w9 ⟨rfl, hB9⟩; have HB9 := Lib.hid hB9; clear hB9)
      go_ret
      have hm := HBW.out.trans ((HK.out.toBelow (Nat.le_refl _) (fun _ _ x => x)).mono HBW.out.size)
      exact ⟨rfl, hm.trans (HB9.out.mono hm.size)⟩
end Go.Proofs.Ytappaadadkoamaa
