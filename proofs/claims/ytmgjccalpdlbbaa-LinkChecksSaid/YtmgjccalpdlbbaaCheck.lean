/- How a script's lines are wrong: the package's Check and the reference's, by one contract. -/
import Derived.Test.YtmgjccalpdlbbaaRWrong
namespace Go.Proofs.Ytmgjccalpdlbbaa
open Go.RowKit
set_option linter.unusedVariables false

/-- A line of an argument: its set may be an empty slice that leads nowhere. -/
structure StepArg (w : World) (s : StepV) (arr : Array Value) : Prop where
  size : arr.size = 34
  one : arr.all (·.oneCell') = true
  dk : arr[0]? = some (.int .i64 s.dk)
  fr : arr[1]? = some (.int .i64 s.fr)
  til : arr[2]? = some (.int .i64 s.til)
  n : arr[4]? = some (.int .i64 s.n)
  set : ∃ sv, arr[5]? = some sv ∧ ArgInts w sv s.set
def StepsArg (w : World) (v : Value) (ss : List StepV) : Prop :=
  ∃ a cap, v = .slice a ss.length cap ∧ ss.length ≤ cap ∧ cap ≤ 9223372036854775807 ∧
    ∀ i s, ss[i]? = some s → ∃ g o arr, a = some ⟨g, o, none⟩ ∧ w.rangeAt g (o + i * 34) arr.toList ∧ StepArg w s arr
theorem StepArg.below {w w' : World} {s : StepV} {arr : Array Value} (h : StepArg w s arr) (hb : Below w.heap.size w w') : StepArg w' s arr := by
  obtain ⟨sv, h1, h2⟩ := h.set
  exact ⟨h.size, h.one, h.dk, h.fr, h.til, h.n, sv, h1, h2.below hb⟩
theorem range_below {w w' : World} {g o : Nat} {xs : List Value} (h : w.rangeAt g o xs) (hb : Below w.heap.size w w') : w'.rangeAt g o xs := fun j v hv => by
  have hc := h j v hv
  rw [hb.cell (p := ⟨g, o + j, none⟩) (World.block_lt_of_cell? _ _ hc)]
  exact hc
theorem StepsArg.below {w w' : World} {v : Value} {ss : List StepV} (h : StepsArg w v ss) (hb : Below w.heap.size w w') : StepsArg w' v ss := by
  obtain ⟨a, cap, h1, h2, h3, h6⟩ := h
  refine ⟨a, cap, h1, h2, h3, fun i s hs => ?_⟩
  obtain ⟨g, o, arr, rfl, hr, ha⟩ := h6 i s hs
  exact ⟨g, o, arr, rfl, range_below hr hb, ha.below hb⟩
theorem StepsArg.of {w : World} {lo hi : Nat} {v : Value} {ss : List StepV} (h : StepsAt w lo hi v ss) : StepsArg w v ss := by
  obtain ⟨a, cap, h1, h2, h3, h5, h6⟩ := h
  refine ⟨a, cap, h1, h2, h3, fun i s hs => ?_⟩
  obtain ⟨g, o, arr, rfl, hr, ha⟩ := h6 i s hs
  obtain ⟨sv, q1, q2⟩ := ha.set
  exact ⟨g, o, arr, rfl, hr, ha.size, ha.one, ha.dk, ha.fr, ha.til, ha.n, sv, q1, ArgInts.of q2⟩
theorem ArgInts.at' {w : World} {v : Value} {zs : List Int} (h : ArgInts w v zs) : ∃ hi, IntsAt w 0 hi v zs := by
  obtain ⟨a, cap, h1, h2, h3, h4, h6⟩ := h
  cases a with
  | none => exact ⟨0, none, cap, h1, h2, h3, h4, by simp, h6⟩
  | some x => exact ⟨x.block + 1, some x, cap, h1, h2, h3, h4, fun y hy => by cases hy; exact ⟨Nat.zero_le _, Nat.lt_succ_self _⟩, h6⟩
theorem StepArg.arr {w : World} {s : StepV} {arr : Array Value} (h : StepArg w s arr) : ∃ hi, StepArr w 0 hi s arr := by
  obtain ⟨sv, h1, h2⟩ := h.set
  obtain ⟨hi, h3⟩ := h2.at'
  exact ⟨hi, h.size, h.one, h.dk, h.fr, h.til, h.n, sv, h1, h3⟩
/-- The lines, one at a time, in a later world. -/
theorem StepsArg.one {w wr : World} {a : Option Addr} {n cap : Nat} {ss : List StepV} (h : StepsArg w (.slice a n cap) ss) (hb : Below w.heap.size w wr) {k : Nat} {s : StepV} (hs : ss[k]? = some s) :
    ∃ g o arr hi, a = some ⟨g, o, none⟩ ∧ wr.rangeAt g (o + k * 34) arr.toList ∧ StepArr wr 0 hi s arr ∧ g < wr.heap.size := by
  obtain ⟨a', cap', he, q2, q3, q6⟩ := h.below hb
  simp at he
  obtain ⟨rfl, -, rfl⟩ := he
  obtain ⟨g, o, arr, rfl, hr, ha⟩ := q6 k s hs
  obtain ⟨hi, ha⟩ := ha.arr
  obtain ⟨c0, _⟩ := ha.at wr hr
  exact ⟨g, o, arr, hi, rfl, hr, ha, World.block_lt_of_cell? _ _ c0⟩

def checkOf : List StepV → Int
  | [] => 0
  | s :: r => if wrongOf s = 0 then checkOf r else wrongOf s
theorem checkOf_hit : ∀ (ss : List StepV) (k : Nat) (s : StepV), ss[k]? = some s → (∀ q, q < k → ∀ t, ss[q]? = some t → wrongOf t = 0) → wrongOf s ≠ 0 → checkOf ss = wrongOf s
  | [], k, s, h, _, _ => by simp at h
  | t :: r, 0, s, h, _, hn => by
    simp at h
    subst h
    simp [checkOf, hn]
  | t :: r, k + 1, s, h, hz, hn => by
    have h0 := hz 0 (by omega) t (by simp)
    rw [checkOf, if_pos h0]
    exact checkOf_hit r k s (by simpa using h) (fun q hq u hu => hz (q + 1) (by omega) u (by simpa using hu)) hn
theorem checkOf_fine : ∀ (ss : List StepV), (∀ s ∈ ss, wrongOf s = 0) → checkOf ss = 0
  | [], _ => rfl
  | t :: r, h => by
    rw [checkOf, if_pos (h t (by simp))]
    exact checkOf_fine r (fun s hs => h s (by simp [hs]))

def ChkRel (w : World) (ss : List StepV) (i : Value) (wr : World) : Prop :=
  ∃ k : Nat, k ≤ ss.length ∧ i = .int .i64 k ∧ Below w.heap.size w wr ∧ ∀ q, q < k → ∀ t, ss[q]? = some t → wrongOf t = 0

set_option maxRecDepth 100000 in
set_option maxHeartbeats 1000000 in
theorem rcheck_any (w : World) (v : Value) (ss : List StepV) (h : StepsArg w v ss) :
    Calls Try.prog 22 #[v] w fun e w' => e = .returned (.int .i64 (checkOf ss)) ∧ Below w.heap.size w w' := by
  obtain ⟨a, cap, rfl, h2, h3, h6⟩ := id h
  have hl : ss.length ≤ 9223372036854775807 := by omega
  have H := Lib.hid h
  clear h h6
  obtain ⟨V, hV⟩ : ∃ V, V = checkOf ss := ⟨_, rfl⟩
  rw [← hV]
  have HV := Lib.hid hV
  clear hV
  go_enter Try.func22, Try.ntmps22
  go_wp2
  go_loopw [3] (ChkRel w ss) (fun i _ => ss.length - (intOf i).toNat)
  case atStart => exact ⟨0, Nat.zero_le _, rfl, Below.refl _ _, fun q hq => absurd hq (Nat.not_lt_zero q)⟩
  case round =>
    obtain ⟨k, hk, rfl, hb, hz⟩ := hrel
    have HB := Lib.hid hb
    have HZ := Lib.hid hz
    clear hb hz
    by_cases hlt : k < ss.length
    · obtain ⟨s, hs⟩ : ∃ s, ss[k]? = some s := ⟨_, List.getElem?_eq_getElem hlt⟩
      obtain ⟨g, o, arr, hi, rfl, hr, ha, hgl⟩ := H.out.one HB.out hs
      have HR := Lib.hid hr
      have Ha := Lib.hid ha
      have HS := Lib.hid hs
      obtain ⟨X, hX⟩ : ∃ X, X = wrongOf s := ⟨_, rfl⟩
      have HX := Lib.hid hX
      clear hr ha hs hX
      by_cases hx : X = 0
      · subst hx
        have hR : Hid (∀ W, Below wr.heap.size wr W → ChkRel w ss (.int .i64 ((k : Int) + 1)) W) := Lib.hid (fun W hW => ⟨k + 1, hlt, rfl, HB.out.trans (hW.mono HB.out.size), fun q hq t ht => by
          rcases Nat.lt_or_ge q k with hqk | hqk
          · exact HZ.out q hqk t ht
          · obtain rfl : q = k := by omega
            have e := HS.out.symm.trans ht
            cases e
            exact HX.out.symm⟩)
        go_wp2_with (first | (refine wpL_load rfl (.tmp 13) rfl _ _ rfl arr HR.out Ha.out.size ?_) | (go_at_call 29; refine (rwrong_any wr 0 hi arr s Ha.out).mono ?_; rw [← HX.out]; rintro e w' ⟨rfl, hB⟩; have HBi := Lib.hid hB; clear hB))
        first | exact ⟨hR.out _ HBi.out, by simp [intOf]; omega⟩ | (go_roundw; exact hR.out _ HBi.out; (simp [intOf]; omega))
      · have HE : Hid (V = X) := Lib.hid (by rw [HV.out, HX.out]; exact checkOf_hit ss k s HS.out HZ.out (by rw [← HX.out]; exact hx))
        have hx0 : (X == 0) = false := by simpa using hx
        clear hx
        go_wp2_with (first | (refine wpL_load rfl (.tmp 13) rfl _ _ rfl arr HR.out Ha.out.size ?_) | (go_at_call 29; refine (rwrong_any wr 0 hi arr s Ha.out).mono ?_; rw [← HX.out]; rintro e w' ⟨rfl, hB⟩; have HBi := Lib.hid hB; clear hB))
        go_ret
        exact ⟨by rw [HE.out]; rfl, HB.out.trans (HBi.out.mono HB.out.size)⟩
    · obtain rfl : k = ss.length := by omega
      have HE : Hid (V = 0) := Lib.hid (by
        rw [HV.out]
        refine checkOf_fine ss (fun s hs => ?_)
        obtain ⟨i, hi⟩ := List.mem_iff_getElem?.1 hs
        exact HZ.out i (List.getElem?_eq_some_iff.1 hi).1 s hi)
      have HB' := HB
      go_wp2
      go_ret
      exact ⟨by rw [HE.out]; rfl, HB.out⟩

set_option maxRecDepth 100000 in
set_option maxHeartbeats 1000000 in
theorem lcheck_any (w : World) (v : Value) (ss : List StepV) (h : StepsArg w v ss) :
    Calls Try.prog 21 #[v] w fun e w' => e = .returned (.int .i64 (checkOf ss)) ∧ Below w.heap.size w w' := by
  obtain ⟨a, cap, rfl, h2, h3, h6⟩ := id h
  have hl : ss.length ≤ 9223372036854775807 := by omega
  have H := Lib.hid h
  clear h h6
  obtain ⟨V, hV⟩ : ∃ V, V = checkOf ss := ⟨_, rfl⟩
  rw [← hV]
  have HV := Lib.hid hV
  clear hV
  go_enter Try.func21, Try.ntmps21
  go_wp2
  go_loopw [8] (ChkRel w ss) (fun i _ => ss.length - (intOf i).toNat)
  case atStart => exact ⟨0, Nat.zero_le _, rfl, Below.refl _ _, fun q hq => absurd hq (Nat.not_lt_zero q)⟩
  case round =>
    obtain ⟨k, hk, rfl, hb, hz⟩ := hrel
    have HB := Lib.hid hb
    have HZ := Lib.hid hz
    clear hb hz
    by_cases hlt : k < ss.length
    · obtain ⟨s, hs⟩ : ∃ s, ss[k]? = some s := ⟨_, List.getElem?_eq_getElem hlt⟩
      obtain ⟨g, o, arr, hi, rfl, hr, ha, hgl⟩ := H.out.one HB.out hs
      have HR := Lib.hid hr
      have Ha := Lib.hid ha
      have HS := Lib.hid hs
      obtain ⟨X, hX⟩ : ∃ X, X = wrongOf s := ⟨_, rfl⟩
      have HX := Lib.hid hX
      clear hr ha hs hX
      go_upto_region 4 with (first | (refine wpL_load rfl (.tmp 10) rfl _ _ rfl arr HR.out Ha.out.size ?_) | (refine wpList_store_blk rfl 38 (.tmp 4) (.tmp 11) rfl wr.heap.size arr rfl ?hy 38 (stepMk 0 0 0 0 (.slice none 0 0)).toList ?hB ?hi ?hl Ha.out.one ?_; rotate_right; intro w1 B1 K1 S1; have HB1 := Lib.hid B1; have HK1 := Lib.hid K1; have HS1 := Lib.hid S1; clear B1 K1 S1))
      case hy => rfl
      case hB => exact Blk.new wr 38 (stepMk 0 0 0 0 (.slice none 0 0)).toList
      case hi => rw [Ha.out.size]; exact stepInfo
      case hl => rw [Ha.out.size]; rfl
      have HK : Hid (Keeps (fun _ => False) wr w1) := Lib.hid ((((Keeps.refl (fun b => b = wr.heap.size) wr).alloc _).trans HK1.out).mono (fun b hb e => by omega))
      have HRB : Hid (w1.rangeAt wr.heap.size 0 arr.toList) := Lib.hid (blk_range HB1.out)
      have HA1 : Hid (StepArr w1 0 hi s arr) := Lib.hid (Ha.out.keeps HK.out (fun _ _ _ x => x))
      have HBW : Hid (Below w.heap.size w w1) := Lib.hid (HB.out.trans (HK.out.toBelow HB.out.size (fun _ _ x => x)))
      clear HK1 HS1 HB1 HB
      by_cases hx : X = 0
      · subst hx
        have hR : Hid (∀ W, Below w1.heap.size w1 W → ChkRel w ss (.int .i64 ((k : Int) + 1)) W) := Lib.hid (fun W hW => ⟨k + 1, hlt, rfl, HBW.out.trans (hW.mono HBW.out.size), fun q hq t ht => by
          rcases Nat.lt_or_ge q k with hqk | hqk
          · exact HZ.out q hqk t ht
          · obtain rfl : q = k := by omega
            have e := HS.out.symm.trans ht
            cases e
            exact HX.out.symm⟩)
        go_wp2_with (first | (refine wpL_load rfl (.tmp 4) rfl _ _ rfl arr HRB.out HA1.out.size ?_) | (go_at_call 28; refine (lwrong_any w1 0 hi arr s HA1.out).mono ?_; rw [← HX.out]; rintro e w' ⟨rfl, hB⟩; have HBi := Lib.hid hB; clear hB))
        first | exact ⟨hR.out _ HBi.out, by simp [intOf]; omega⟩ | (go_roundw; exact hR.out _ HBi.out; (simp [intOf]; omega))
      · have HE : Hid (V = X) := Lib.hid (by rw [HV.out, HX.out]; exact checkOf_hit ss k s HS.out HZ.out (by rw [← HX.out]; exact hx))
        have hx0 : (X == 0) = false := by simpa using hx
        clear hx
        go_wp2_with (first | (refine wpL_load rfl (.tmp 4) rfl _ _ rfl arr HRB.out HA1.out.size ?_) | (go_at_call 28; refine (lwrong_any w1 0 hi arr s HA1.out).mono ?_; rw [← HX.out]; rintro e w' ⟨rfl, hB⟩; have HBi := Lib.hid hB; clear hB))
        go_ret
        exact ⟨by rw [HE.out]; rfl, HBW.out.trans (HBi.out.mono HBW.out.size)⟩
    · obtain rfl : k = ss.length := by omega
      have HE : Hid (V = 0) := Lib.hid (by
        rw [HV.out]
        refine checkOf_fine ss (fun s hs => ?_)
        obtain ⟨i, hi⟩ := List.mem_iff_getElem?.1 hs
        exact HZ.out i (List.getElem?_eq_some_iff.1 hi).1 s hi)
      go_wp2
      go_ret
      exact ⟨by rw [HE.out]; rfl, HB.out⟩
end Go.Proofs.Ytmgjccalpdlbbaa
