/- The reference's Met, by its contract. -/
import Derived.Test.YtmgjccalpdlbbaaSteps
namespace Go.Proofs.Ytmgjccalpdlbbaa
open Go.RowKit
set_option linter.unusedVariables false

def cutsOff (r d : Int) (s : StepV) : Bool := decide (s.dk = 3) && decide (s.fr ≤ r ∧ r < s.til) && decide (d ∈ s.set)
def metOf (ss : List StepV) (r d : Int) : Bool := !(ss.any (cutsOff r d))
def MetRel (w : World) (ss : List StepV) (r d : Int) (i : Value) (wr : World) : Prop := ∃ k : Nat, k ≤ ss.length ∧ i = .int .i64 k ∧ (ss.take k).any (cutsOff r d) = false ∧ Below w.heap.size w wr
theorem cuts_succ {ss : List StepV} {k : Nat} {s : StepV} {r d : Int} (h : ss[k]? = some s) (h1 : (ss.take k).any (cutsOff r d) = false) (h2 : cutsOff r d s = false) : (ss.take (k + 1)).any (cutsOff r d) = false := by
  obtain ⟨hk, rfl⟩ := List.getElem?_eq_some_iff.1 h
  rw [List.take_succ_eq_append_getElem hk, List.any_append, h1]
  simp [h2]
theorem metOf_no {ss : List StepV} {k : Nat} {s : StepV} {r d : Int} (h : ss[k]? = some s) (h2 : cutsOff r d s = true) : metOf ss r d = false := by
  have : ss.any (cutsOff r d) = true := List.any_eq_true.2 ⟨s, List.mem_of_getElem? h, h2⟩
  simp [metOf, this]

set_option maxRecDepth 100000 in
set_option maxHeartbeats 1000000 in
theorem rmet_any (w : World) (lo hi : Nat) (v : Value) (ss : List StepV) (r d : Int) (h : StepsAt w lo hi v ss) (hhi : hi ≤ w.heap.size) :
    Calls Try.prog 17 #[v, .int .i64 r, .int .i64 d] w fun e w' => e = .returned (.bool (metOf ss r d)) ∧ Below w.heap.size w w' := by
  obtain ⟨a, cap, rfl, h2, h3, h5, h6⟩ := id h
  have hl : ss.length ≤ 9223372036854775807 := by omega
  have H := Lib.hid h
  clear h h5 h6
  go_enter Try.func17, Try.ntmps17
  go_wp2
  go_loopw [7] (MetRel w ss r d) (fun i _ => ss.length - (intOf i).toNat)
  case atStart => exact ⟨0, Nat.zero_le _, rfl, by simp, Below.refl _ _⟩
  case round =>
    obtain ⟨k, hk, rfl, hn, hb⟩ := hrel
    have Hn := Lib.hid hn
    have HB := Lib.hid hb
    clear hn hb
    by_cases hlt : k < ss.length
    · obtain ⟨s, hs⟩ : ∃ s, ss[k]? = some s := ⟨_, List.getElem?_eq_getElem hlt⟩
      obtain ⟨g, o, arr, rfl, hr, ha, hgl⟩ := H.out.one HB.out hhi hs
      obtain ⟨c0, c1, c2, c4⟩ := ha.at wr hr
      obtain ⟨sv, c5, hset⟩ := ha.cell5 wr hr
      have HR := Lib.hid hr
      have Ha := Lib.hid ha
      have HS := Lib.hid hs
      have Hset := Lib.hid hset
      clear hr ha hs hset
      by_cases h3 : s.dk = 3
      · have h3' : (s.dk == 3) = true := by simpa using h3
        have H3 := Lib.hid h3
        clear h3
        by_cases ht : s.fr ≤ r ∧ r < s.til
        · have Ht := Lib.hid ht
          clear ht
          by_cases hd : d ∈ s.set
          · have Hd := Lib.hid hd
            clear hd
            have HM : Hid (metOf ss r d = false) := Lib.hid (metOf_no HS.out (by simp [cutsOff, H3.out, Ht.out, Hd.out]))
            go_wp2_with (first | (refine wpL_load rfl (.tmp 23) rfl _ _ rfl arr HR.out Ha.out.size ?_) | (go_at_call 26; refine (rthere_yes arr s.fr s.til r _ Ha.out.fr Ha.out.til Ht.out).mono ?_; rintro e w' ⟨rfl, rfl⟩) | (go_at_call 20; refine (has_yes _ lo hi sv s.set d (Hset.out.keeps ((Keeps.refl (fun _ => False) _).alloc _) (fun _ _ _ h => h)) Hd.out).mono ?_; rintro e w' ⟨rfl, rfl⟩))
            go_ret
            exact ⟨by rw [HM.out]; rfl, HB.out.alloc HB.out.size _⟩
          · have Hd := Lib.hid hd
            clear hd
            go_wp2_with (first | (refine wpL_load rfl (.tmp 23) rfl _ _ rfl arr HR.out Ha.out.size ?_) | (go_at_call 26; refine (rthere_yes arr s.fr s.til r _ Ha.out.fr Ha.out.til Ht.out).mono ?_; rintro e w' ⟨rfl, rfl⟩) | (go_at_call 20; refine (has_no _ lo hi sv s.set d (Hset.out.keeps ((Keeps.refl (fun _ => False) _).alloc _) (fun _ _ _ h => h)) Hd.out).mono ?_; rintro e w' ⟨rfl, rfl⟩))
            go_roundw
            case rel => exact ⟨k + 1, hlt, rfl, cuts_succ HS.out Hn.out (by simp [cutsOff, Hd.out]), HB.out.alloc HB.out.size _⟩
            case measure => simp [intOf]; omega
        · have Ht := Lib.hid ht
          clear ht
          go_wp2_with (first | (refine wpL_load rfl (.tmp 23) rfl _ _ rfl arr HR.out Ha.out.size ?_) | (go_at_call 26; refine (rthere_no arr s.fr s.til r _ Ha.out.fr Ha.out.til Ht.out).mono ?_; rintro e w' ⟨rfl, rfl⟩))
          go_roundw
          case rel => exact ⟨k + 1, hlt, rfl, cuts_succ HS.out Hn.out (by simp [cutsOff, Ht.out]), HB.out.alloc HB.out.size _⟩
          case measure => simp [intOf]; omega
      · have h3' : (s.dk == 3) = false := by simpa using h3
        have H3 := Lib.hid h3
        clear h3
        go_wp2_with fail
        go_roundw
        case rel => exact ⟨k + 1, hlt, rfl, cuts_succ HS.out Hn.out (by simp [cutsOff, H3.out]), HB.out⟩
        case measure => simp [intOf]; omega
    · obtain rfl : k = ss.length := by omega
      have HM : Hid (metOf ss r d = true) := Lib.hid (by have := Hn.out; rw [List.take_length] at this; simp [metOf, this])
      go_wp2
      go_ret
      exact ⟨by rw [HM.out]; rfl, HB.out⟩
end Go.Proofs.Ytmgjccalpdlbbaa
