/- The reference's Over, by its contract. -/
import Derived.Test.YtmgjccalpdlbbaaSteps
import Derived.StillTailTactics
namespace Go.Proofs.Ytmgjccalpdlbbaa
open Go.RowKit
set_option linter.unusedVariables false

def thereS (r : Int) (s : StepV) : Bool := decide (s.fr ≤ r ∧ r < s.til)
def countIn (s : StepV) (ahead : List Int) : Int := 1 + ((ahead.filter fun x => thereS x s).length : Int)
def countsS (r : Int) (s : StepV) : Bool := decide (s.dk = 4 ∨ s.dk = 5) && thereS r s
def hitS (ahead : List Int) (r : Int) (s : StepV) : Bool := countsS r s && decide (countIn s ahead % s.n = 0)
def loseS (ahead : List Int) (r : Int) (s : StepV) : Bool := hitS ahead r s && decide (s.dk = 4)
def twiceS (ahead : List Int) (r : Int) (s : StepV) : Bool := hitS ahead r s && decide (s.dk = 5)
def overOf (ss : List StepV) (ahead : List Int) (r : Int) : Int := if ss.any (loseS ahead r) then 0 else if ss.any (twiceS ahead r) then 2 else 1
theorem any_succ {ss : List StepV} {k : Nat} {s : StepV} (f : StepV → Bool) (h : ss[k]? = some s) : (ss.take (k + 1)).any f = ((ss.take k).any f || f s) := by
  obtain ⟨hk, rfl⟩ := List.getElem?_eq_some_iff.1 h
  rw [List.take_succ_eq_append_getElem hk, List.any_append]
  simp
theorem countIn_succ (s : StepV) {ahead : List Int} {k : Nat} {x : Int} (h : ahead[k]? = some x) : countIn s (ahead.take (k + 1)) = countIn s (ahead.take k) + if thereS x s then 1 else 0 := by
  obtain ⟨hk, rfl⟩ := List.getElem?_eq_some_iff.1 h
  unfold countIn
  rw [List.take_succ_eq_append_getElem hk, List.filter_append]
  cases hh : thereS ahead[k] s <;> simp [hh] <;> omega
theorem countIn_bd (s : StepV) (ahead : List Int) : 1 ≤ countIn s ahead ∧ countIn s ahead ≤ 1 + ahead.length := by
  unfold countIn
  have := List.length_filter_le (fun x => thereS x s) ahead
  omega

def ROut (w : World) (ss : List StepV) (ahead : List Int) (r : Int) (x y i : Value) (wr : World) : Prop :=
  ∃ k : Nat, k ≤ ss.length ∧ i = .int .i64 k ∧ x = .bool ((ss.take k).any (loseS ahead r)) ∧ y = .bool ((ss.take k).any (twiceS ahead r)) ∧ Below w.heap.size w wr
def RIn (w : World) (s : StepV) (ahead : List Int) (n i : Value) (wr : World) : Prop :=
  ∃ k : Nat, k ≤ ahead.length ∧ i = .int .i64 k ∧ n = .int .i64 (countIn s (ahead.take k)) ∧ Below w.heap.size w wr

theorem ROut.skip {w wr : World} {ss : List StepV} {ahead : List Int} {r : Int} {k : Nat} {s : StepV} {L T : Bool} (hs : Hid (ss[k]? = some s)) (hc : countsS r s = false) (hl : Hid (L = (ss.take k).any (loseS ahead r))) (ht : Hid (T = (ss.take k).any (twiceS ahead r))) (hlt : k < ss.length) (hb : Below w.heap.size w wr) :
    ROut w ss ahead r (.bool L) (.bool T) (.int .i64 (k + 1)) wr :=
  ⟨k + 1, hlt, rfl, by rw [any_succ _ hs.out, ← hl.out]; simp [loseS, hitS, hc], by rw [any_succ _ hs.out, ← ht.out]; simp [twiceS, hitS, hc], hb⟩
theorem ROut.step {w wr : World} {ss : List StepV} {ahead : List Int} {r : Int} {k : Nat} {s : StepV} {L T L' T' : Bool} (hs : Hid (ss[k]? = some s)) (hl : Hid (L = (ss.take k).any (loseS ahead r))) (ht : Hid (T = (ss.take k).any (twiceS ahead r))) (hlt : k < ss.length) (hb : Below w.heap.size w wr)
    (h1 : L' = (L || loseS ahead r s)) (h2 : T' = (T || twiceS ahead r s)) :
    ROut w ss ahead r (.bool L') (.bool T') (.int .i64 (k + 1)) wr :=
  ⟨k + 1, hlt, rfl, by rw [any_succ _ hs.out, ← hl.out, h1], by rw [any_succ _ hs.out, ← ht.out, h2], hb⟩

theorem still_load {ops : Array Oper} {rest : List Oper} {op : Oper} {a : Act} {w : World} {Q : Act → Prop} (hw : Region.wanted op (yielded ops a.tmps) = true) (x : Operand) (ho : op.op = .load 38 x)
    (b o : Nat) (hx : a.eval x = .pointer (some ⟨b, o, none⟩)) (arr : Array Value) (hc : w.rangeAt b o arr.toList) (hs : arr.size = 34)
    (h : wpStill Try.prog ops w Q rest (a.put op.dst (.agg arr))) : wpStill Try.prog ops w Q (op :: rest) a := by
  refine wpStill_step fun K hK => ?_
  rw [if_pos hw]
  have hl := run_loadVar_mid (P := Try.prog) w b o 38 arr.toList _ hc Try.underlying38 rfl (by rw [stepInfo]; simp [hs])
  unfold Oper.still execOp
  simp only [ho, hx, Instr.loadAt, Instr.sureAddr, Sem.run_bind, Sem.run_pure, Result.andThen_ok, hl, Array.toArray_toList]
  rw [Oper.stillUpon_value]
  exact hK _ h
set_option maxRecDepth 100000 in
set_option maxHeartbeats 4000000 in
theorem rover_any (w : World) (lo hi lo2 hi2 : Nat) (v v2 : Value) (ss : List StepV) (ahead : List Int) (r : Int) (h : StepsAt w lo hi v ss) (hhi : hi ≤ w.heap.size) (h2 : IntsAt w lo2 hi2 v2 ahead) (hhi2 : hi2 ≤ w.heap.size)
    (hn : ∀ s ∈ ss, s.dk = 4 ∨ s.dk = 5 → 1 ≤ s.n) (hla : ahead.length ≤ 1000000) :
    Calls Try.prog 15 #[v, v2, .int .i64 r] w fun e w' => e = .returned (.int .i64 (overOf ss ahead r)) ∧ Below w.heap.size w w' := by
  obtain ⟨a, cap, rfl, q2, q3, q5, q6⟩ := id h
  have hl : ss.length ≤ 9223372036854775807 := by omega
  have H := Lib.hid h
  clear h q5 q6
  obtain ⟨a2, cap2, rfl, p2, p3, p4, p5, p6⟩ := id h2
  have P5 := Lib.hid p5
  have P6 := Lib.hid p6
  have HN := Lib.hid hn
  clear h2 p4 p5 p6 hn
  go_enter Try.func15, Try.ntmps15
  go_wp2
  go_loopw [7, 8, 9] (ROut w ss ahead r) (fun _ _ i _ => ss.length - (intOf i).toNat)
  case atStart => exact ⟨0, Nat.zero_le _, rfl, by simp, by simp, Below.refl _ _⟩
  case round =>
    obtain ⟨k, hk, rfl, rfl, rfl, hb⟩ := hrel
    have HB := Lib.hid hb
    clear hb
    by_cases hlt : k < ss.length
    · obtain ⟨s, hs⟩ : ∃ s, ss[k]? = some s := ⟨_, List.getElem?_eq_getElem hlt⟩
      obtain ⟨g, o, arr, rfl, hr, ha, hgl⟩ := H.out.one HB.out hhi hs
      obtain ⟨c0, c1, c2, c4⟩ := ha.at wr hr
      have HR := Lib.hid hr
      have Ha := Lib.hid ha
      have HS := Lib.hid hs
      have Hn1 := Lib.hid (HN.out s (List.mem_of_getElem? hs))
      clear hr ha hs
      obtain ⟨L, hL0⟩ : ∃ L, L = (ss.take k).any (loseS ahead r) := ⟨_, rfl⟩
      obtain ⟨T, hT0⟩ : ∃ T, T = (ss.take k).any (twiceS ahead r) := ⟨_, rfl⟩
      rw [← hL0, ← hT0]
      have HL0 := Lib.hid hL0
      have HT0 := Lib.hid hT0
      clear hL0 hT0
      obtain ⟨dk, fr, til, n, set⟩ := s
      simp only at c0 c1 c2 c4
      by_cases hd : dk = 4 ∨ dk = 5
      · have n1 : 1 ≤ n := Hn1.out hd
        by_cases ht : fr ≤ r ∧ r < til
        · have Ht := Lib.hid ht
          clear ht
          obtain ⟨wo, rfl⟩ : ∃ wo : World, wo = wr := ⟨_, rfl⟩
          rcases hd with rfl | rfl
          · go_wp2_with (first | (refine wpL_load rfl (.tmp 35) rfl _ _ rfl arr HR.out Ha.out.size ?_) | (go_at_call 26; refine (rthere_yes arr fr til r _ Ha.out.fr Ha.out.til Ht.out).mono ?_; rintro e w' ⟨rfl, rfl⟩))
            clear c0 c1 c2 c4
            go_loopw [10, 11] (RIn w ⟨4, fr, til, n, set⟩ ahead) (fun _ i _ => ahead.length - (intOf i).toNat)
            case atStart => exact ⟨0, Nat.zero_le _, rfl, by simp [countIn], HB.out.alloc HB.out.size _⟩
            case round =>
              obtain ⟨j, hj, rfl, rfl, hb2⟩ := hrel
              have HB2 := Lib.hid hb2
              clear hb2
              have hbd := countIn_bd ⟨4, fr, til, n, set⟩ (ahead.take j)
              have hbl : (ahead.take j).length ≤ j := List.length_take_le _ _
              obtain ⟨bd1, bd2⟩ := hbd
              obtain ⟨g', o', arr2, he, hr2, ha2, hgl2⟩ := H.out.one HB2.out hhi HS.out
              simp at he
              obtain ⟨rfl, rfl⟩ := he
              have HR2 := Lib.hid hr2
              have Ha2 := Lib.hid ha2
              have cc0 := (ha2.at wr hr2).1
              have cc4 := (ha2.at wr hr2).2.2.2
              simp only at cc0 cc4
              clear hr2 ha2
              by_cases hjl : j < ahead.length
              · obtain ⟨x, hx⟩ : ∃ x, ahead[j]? = some x := ⟨_, List.getElem?_eq_getElem hjl⟩
                obtain ⟨g2, o2, rfl, hcx⟩ := P6.out j x hx
                have hcx' : wr.cell? ⟨g2, o2 + j, none⟩ = some (.int .i64 x) := by rw [HB2.out.cell (p := ⟨g2, o2 + j, none⟩) (Nat.lt_of_lt_of_le (P5.out _ rfl).2 hhi2)]; exact hcx
                have HX := Lib.hid hx
                have Hcs := Lib.hid (countIn_succ ⟨4, fr, til, n, set⟩ hx)
                clear hcx hx
                by_cases hxt : fr ≤ x ∧ x < til
                · have Hxt := Lib.hid hxt
                  clear hxt
                  go_upto_region 11 with (fail)
                  refine wp_region_still_tail 8 (by kernel_rfl) (by kernel_rfl) ?_
                  simp only [List.take_succ_cons, List.take_zero, List.drop_succ_cons, List.drop_zero]
                  still_step
                  still_step
                  still_step
                  refine still_load rfl (.tmp 49) rfl _ _ rfl arr2 HR2.out Ha2.out.size ?_
                  still_step
                  still_step
                  still_step
                  still_step
                  refine wpStill_nil ?_
                  change wpList _ _ _ _ _ wr.drew
                  go_wp2_with (go_at_call 26; refine (rthere_yes arr2 fr til x _ Ha2.out.fr Ha2.out.til Hxt.out).mono ?_; rintro e w' ⟨rfl, rfl⟩)
                  go_roundw
                  case rel => exact ⟨j + 1, hjl, rfl, by rw [Hcs.out]; simp [thereS, Hxt.out], (HB2.out.drew).alloc (by simp; exact HB2.out.size) _⟩
                  case measure => simp [intOf]; omega
                · have Hxt := Lib.hid hxt
                  clear hxt
                  go_upto_region 11 with (fail)
                  refine wp_region_still_tail 8 (by kernel_rfl) (by kernel_rfl) ?_
                  simp only [List.take_succ_cons, List.take_zero, List.drop_succ_cons, List.drop_zero]
                  still_step
                  still_step
                  still_step
                  refine still_load rfl (.tmp 49) rfl _ _ rfl arr2 HR2.out Ha2.out.size ?_
                  still_step
                  still_step
                  still_step
                  still_step
                  refine wpStill_nil ?_
                  change wpList _ _ _ _ _ wr.drew
                  go_wp2_with (go_at_call 26; refine (rthere_no arr2 fr til x _ Ha2.out.fr Ha2.out.til Hxt.out).mono ?_; rintro e w' ⟨rfl, rfl⟩)
                  go_roundw
                  case rel => exact ⟨j + 1, hjl, rfl, by rw [Hcs.out]; simp [thereS, Hxt.out], (HB2.out.drew).alloc (by simp; exact HB2.out.size) _⟩
                  case measure => simp [intOf]; omega
              · obtain rfl : j = ahead.length := by omega
                have hta : ahead.take ahead.length = ahead := List.take_length
                rw [hta] at bd1 bd2 ⊢
                clear hta
                obtain ⟨C, hC⟩ : ∃ C, C = countIn ⟨4, fr, til, n, set⟩ ahead := ⟨_, rfl⟩
                rw [← hC] at bd1 bd2 ⊢
                have HC := Lib.hid hC
                clear hC
                by_cases hm : C % n = 0
                · have hm1 : (C % n == 0) = true := by simpa using hm
                  have Hm := Lib.hid hm
                  clear hm
                  cases L <;> cases T
                  all_goals
                    go_wp2
                    refine ⟨ROut.step HS HL0 HT0 hlt HB2.out ?_ ?_, by simp [intOf]; omega⟩
                    · simp [loseS, hitS, countsS, thereS, Ht.out, ← HC.out, Hm.out]
                    · simp [twiceS, hitS, countsS, thereS, Ht.out, ← HC.out, Hm.out]
                · have hm1 : (C % n == 0) = false := by simpa using hm
                  have Hm := Lib.hid hm
                  clear hm
                  go_wp2
                  refine ⟨ROut.step HS HL0 HT0 hlt HB2.out ?_ ?_, by simp [intOf]; omega⟩
                  · simp [loseS, hitS, countsS, thereS, Ht.out, ← HC.out, Hm.out]
                  · simp [twiceS, hitS, countsS, thereS, Ht.out, ← HC.out, Hm.out]
          · go_wp2_with (first | (refine wpL_load rfl (.tmp 35) rfl _ _ rfl arr HR.out Ha.out.size ?_) | (go_at_call 26; refine (rthere_yes arr fr til r _ Ha.out.fr Ha.out.til Ht.out).mono ?_; rintro e w' ⟨rfl, rfl⟩))
            clear c0 c1 c2 c4
            go_loopw [10, 11] (RIn w ⟨5, fr, til, n, set⟩ ahead) (fun _ i _ => ahead.length - (intOf i).toNat)
            case atStart => exact ⟨0, Nat.zero_le _, rfl, by simp [countIn], HB.out.alloc HB.out.size _⟩
            case round =>
              obtain ⟨j, hj, rfl, rfl, hb2⟩ := hrel
              have HB2 := Lib.hid hb2
              clear hb2
              have hbd := countIn_bd ⟨5, fr, til, n, set⟩ (ahead.take j)
              have hbl : (ahead.take j).length ≤ j := List.length_take_le _ _
              obtain ⟨bd1, bd2⟩ := hbd
              obtain ⟨g', o', arr2, he, hr2, ha2, hgl2⟩ := H.out.one HB2.out hhi HS.out
              simp at he
              obtain ⟨rfl, rfl⟩ := he
              have HR2 := Lib.hid hr2
              have Ha2 := Lib.hid ha2
              have cc0 := (ha2.at wr hr2).1
              have cc4 := (ha2.at wr hr2).2.2.2
              simp only at cc0 cc4
              clear hr2 ha2
              by_cases hjl : j < ahead.length
              · obtain ⟨x, hx⟩ : ∃ x, ahead[j]? = some x := ⟨_, List.getElem?_eq_getElem hjl⟩
                obtain ⟨g2, o2, rfl, hcx⟩ := P6.out j x hx
                have hcx' : wr.cell? ⟨g2, o2 + j, none⟩ = some (.int .i64 x) := by rw [HB2.out.cell (p := ⟨g2, o2 + j, none⟩) (Nat.lt_of_lt_of_le (P5.out _ rfl).2 hhi2)]; exact hcx
                have HX := Lib.hid hx
                have Hcs := Lib.hid (countIn_succ ⟨5, fr, til, n, set⟩ hx)
                clear hcx hx
                by_cases hxt : fr ≤ x ∧ x < til
                · have Hxt := Lib.hid hxt
                  clear hxt
                  go_upto_region 11 with (fail)
                  refine wp_region_still_tail 8 (by kernel_rfl) (by kernel_rfl) ?_
                  simp only [List.take_succ_cons, List.take_zero, List.drop_succ_cons, List.drop_zero]
                  still_step
                  still_step
                  still_step
                  refine still_load rfl (.tmp 49) rfl _ _ rfl arr2 HR2.out Ha2.out.size ?_
                  still_step
                  still_step
                  still_step
                  still_step
                  refine wpStill_nil ?_
                  change wpList _ _ _ _ _ wr.drew
                  go_wp2_with (go_at_call 26; refine (rthere_yes arr2 fr til x _ Ha2.out.fr Ha2.out.til Hxt.out).mono ?_; rintro e w' ⟨rfl, rfl⟩)
                  go_roundw
                  case rel => exact ⟨j + 1, hjl, rfl, by rw [Hcs.out]; simp [thereS, Hxt.out], (HB2.out.drew).alloc (by simp; exact HB2.out.size) _⟩
                  case measure => simp [intOf]; omega
                · have Hxt := Lib.hid hxt
                  clear hxt
                  go_upto_region 11 with (fail)
                  refine wp_region_still_tail 8 (by kernel_rfl) (by kernel_rfl) ?_
                  simp only [List.take_succ_cons, List.take_zero, List.drop_succ_cons, List.drop_zero]
                  still_step
                  still_step
                  still_step
                  refine still_load rfl (.tmp 49) rfl _ _ rfl arr2 HR2.out Ha2.out.size ?_
                  still_step
                  still_step
                  still_step
                  still_step
                  refine wpStill_nil ?_
                  change wpList _ _ _ _ _ wr.drew
                  go_wp2_with (go_at_call 26; refine (rthere_no arr2 fr til x _ Ha2.out.fr Ha2.out.til Hxt.out).mono ?_; rintro e w' ⟨rfl, rfl⟩)
                  go_roundw
                  case rel => exact ⟨j + 1, hjl, rfl, by rw [Hcs.out]; simp [thereS, Hxt.out], (HB2.out.drew).alloc (by simp; exact HB2.out.size) _⟩
                  case measure => simp [intOf]; omega
              · obtain rfl : j = ahead.length := by omega
                have hta : ahead.take ahead.length = ahead := List.take_length
                rw [hta] at bd1 bd2 ⊢
                clear hta
                obtain ⟨C, hC⟩ : ∃ C, C = countIn ⟨5, fr, til, n, set⟩ ahead := ⟨_, rfl⟩
                rw [← hC] at bd1 bd2 ⊢
                have HC := Lib.hid hC
                clear hC
                by_cases hm : C % n = 0
                · have hm1 : (C % n == 0) = true := by simpa using hm
                  have Hm := Lib.hid hm
                  clear hm
                  cases L <;> cases T
                  all_goals
                    go_wp2
                    refine ⟨ROut.step HS HL0 HT0 hlt HB2.out ?_ ?_, by simp [intOf]; omega⟩
                    · simp [loseS, hitS, countsS, thereS, Ht.out, ← HC.out, Hm.out]
                    · simp [twiceS, hitS, countsS, thereS, Ht.out, ← HC.out, Hm.out]
                · have hm1 : (C % n == 0) = false := by simpa using hm
                  have Hm := Lib.hid hm
                  clear hm
                  go_wp2
                  refine ⟨ROut.step HS HL0 HT0 hlt HB2.out ?_ ?_, by simp [intOf]; omega⟩
                  · simp [loseS, hitS, countsS, thereS, Ht.out, ← HC.out, Hm.out]
                  · simp [twiceS, hitS, countsS, thereS, Ht.out, ← HC.out, Hm.out]
        · have Ht := Lib.hid ht
          clear ht
          rcases hd with rfl | rfl
          all_goals
            go_wp2_with (first | (refine wpL_load rfl (.tmp 35) rfl _ _ rfl arr HR.out Ha.out.size ?_) | (go_at_call 26; refine (rthere_no arr fr til r _ Ha.out.fr Ha.out.til Ht.out).mono ?_; rintro e w' ⟨rfl, rfl⟩))
            go_roundw
            case rel => exact ROut.skip HS (by simp [countsS, thereS, Ht.out]) HL0 HT0 hlt (HB.out.alloc HB.out.size _)
            case measure => simp [intOf]; omega
      · have d4 : (dk != 4) = true := by simp; omega
        have d5 : (dk != 5) = true := by simp; omega
        have Hd := Lib.hid hd
        clear hd
        go_wp2
        refine ⟨ROut.skip HS (by simp [countsS]; intro x; exact absurd x Hd.out) HL0 HT0 hlt HB.out, by simp [intOf]; omega⟩
    · obtain rfl : k = ss.length := by omega
      obtain ⟨L, hL0⟩ : ∃ L, L = (ss.take ss.length).any (loseS ahead r) := ⟨_, rfl⟩
      obtain ⟨T, hT0⟩ : ∃ T, T = (ss.take ss.length).any (twiceS ahead r) := ⟨_, rfl⟩
      have HV : Hid (overOf ss ahead r = if L then 0 else if T then 2 else 1) := Lib.hid (by rw [hL0, hT0, List.take_length]; rfl)
      rw [← hL0, ← hT0]
      clear hL0 hT0
      cases L <;> cases T
      all_goals
        go_wp2
        go_ret
        exact ⟨by rw [HV.out]; rfl, HB.out⟩
end Go.Proofs.Ytmgjccalpdlbbaa
