/- The references' small functions on lines of scripts, by their contracts. -/
import Derived.Test.YtmgjccalpdlbbaaLink
import Derived.Deep.MidRow
namespace Go.Proofs.Ytmgjccalpdlbbaa
open Go.RowKit
set_option linter.unusedVariables false

set_option maxHeartbeats 400000 in
theorem rthere_any (arr : Array Value) (fr til r : Int) (w : World) (h1 : arr[1]? = some (.int .i64 fr)) (h2 : arr[2]? = some (.int .i64 til)) :
    Calls Try.prog 26 #[.agg arr, .int .i64 r] w fun e w' => e = .returned (.bool (decide (fr ≤ r ∧ r < til))) ∧ w' = w.alloc (.cells arr 38) := by
  by_cases ha : fr ≤ r
  · by_cases hb : r < til
    · have hx : decide (fr ≤ r ∧ r < til) = true := by simp [ha, hb]
      rw [hx]; clear hx
      go_enter Try.func26, Try.ntmps26
      go_wp2
      go_ret
      exact ⟨rfl, rfl⟩
    · have hx : decide (fr ≤ r ∧ r < til) = false := by simp [hb]
      rw [hx]; clear hx
      go_enter Try.func26, Try.ntmps26
      go_wp2
      go_ret
      exact ⟨rfl, rfl⟩
  · have hx : decide (fr ≤ r ∧ r < til) = false := by simp [ha]
    rw [hx]; clear hx
    go_enter Try.func26, Try.ntmps26
    go_wp2
    go_ret
    exact ⟨rfl, rfl⟩

set_option maxHeartbeats 400000 in
theorem rfault_any (arr : Array Value) (dk : Int) (w : World) (h0 : arr[0]? = some (.int .i64 dk)) :
    Calls Try.prog 27 #[.agg arr] w fun e w' => e = .returned (.bool (decide (dk = 3 ∨ dk = 4 ∨ dk = 5))) ∧ w' = w.alloc (.cells arr 38) := by
  by_cases ha : dk = 3
  · subst ha
    go_enter Try.func27, Try.ntmps27
    go_wp2
    go_ret
    exact ⟨rfl, rfl⟩
  by_cases hb : dk = 4
  · subst hb
    go_enter Try.func27, Try.ntmps27
    go_wp2
    go_ret
    exact ⟨rfl, rfl⟩
  have ha' : (dk == 3) = false := by simpa using ha
  have hb' : (dk == 4) = false := by simpa using hb
  by_cases hc : dk = 5
  · subst hc
    go_enter Try.func27, Try.ntmps27
    go_wp2
    go_ret
    exact ⟨rfl, rfl⟩
  · have hx : decide (dk = 3 ∨ dk = 4 ∨ dk = 5) = false := by simp [ha, hb, hc]
    have hc' : (dk == 5) = false := by simpa using hc
    rw [hx]; clear hx ha hb hc
    go_enter Try.func27, Try.ntmps27
    go_wp2
    go_ret
    exact ⟨rfl, rfl⟩

/-! ### Around, Has -/
def around (n m : Int) : Int := (if n < 0 then -(n + 1) else n) % m
theorem around_lo (n m : Int) (hm : 1 ≤ m) : 0 ≤ around n m := Int.emod_nonneg _ (by omega)
theorem around_hi (n m : Int) (hm : 1 ≤ m) : around n m < m := Int.emod_lt_of_pos _ (by omega)
theorem ret_int {k : IntKind} {a b : Int} (h : a = b) : Ending.returned (.int k a) = .returned (.int k b) := by rw [h]
theorem ret_bool {a b : Bool} (h : a = b) : Ending.returned (.bool a) = .returned (.bool b) := by rw [h]

set_option maxHeartbeats 400000 in
theorem around_any (n m : Int) (w : World) (hw : (Lit.int .i64 n).wf = true) (m1 : 1 ≤ m) (m2 : m ≤ 9223372036854775807) :
    Calls Try.prog 9 #[.int .i64 n, .int .i64 m] w fun e w' => e = .returned (.int .i64 (around n m)) ∧ w = w' := by
  have h1 := wf_lo hw
  have h2 := wf_hi hw
  clear hw
  by_cases hn : n < 0
  · have hx : around n m = -((n + 1).tmod m) := by rw [← Int.neg_tmod, Int.tmod_eq_emod_of_nonneg (by omega)]; simp [around, hn]
    rw [hx]; clear hx
    go_enter Try.func9, Try.ntmps9
    go_wp2
    go_ret
    exact ⟨rfl, rfl⟩
  · have hx : around n m = n % m := by simp [around, hn]
    rw [hx]; clear hx
    go_enter Try.func9, Try.ntmps9
    go_wp2
    go_ret
    exact ⟨rfl, rfl⟩

def HasRel (zs : List Int) (n : Int) (i : Value) : Prop := ∃ k : Nat, k ≤ zs.length ∧ i = .int .i64 k ∧ n ∉ zs.take k
set_option maxHeartbeats 400000 in
theorem has_any (w : World) (lo hi : Nat) (v : Value) (zs : List Int) (n : Int) (h : IntsAt w lo hi v zs) :
    Calls Try.prog 20 #[v, .int .i64 n] w fun e w' => e = .returned (.bool (decide (n ∈ zs))) ∧ w = w' := by
  obtain ⟨a, cap, rfl, h2, h3, h4, h5, h6⟩ := h
  have hl : zs.length ≤ 9223372036854775807 := by omega
  have H6 := Lib.hid h6
  clear h4 h5 h6
  go_enter Try.func20, Try.ntmps20
  go_wp2
  go_loop [5] (HasRel zs n) (fun i => zs.length - (intOf i).toNat)
  case atStart => exact ⟨0, Nat.zero_le _, rfl, by simp⟩
  case round =>
    obtain ⟨k, hk, rfl, hn⟩ := hrel
    by_cases hlt : k < zs.length
    · obtain ⟨z, hz⟩ : ∃ z, zs[k]? = some z := ⟨_, List.getElem?_eq_getElem hlt⟩
      obtain ⟨g, o, rfl, hc⟩ := H6.out k z hz
      have Hz := Lib.hid hz
      have Hn := Lib.hid hn
      clear hz hn
      by_cases e : z = n
      · subst e
        have Hx : Hid (decide (z ∈ zs) = true) := Lib.hid (decide_eq_true (List.mem_of_getElem? Hz.out))
        go_wp2
        go_ret
        exact ⟨by rw [Hx.out]; rfl, rfl⟩
      · have e' : (z == n) = false := by simpa using e
        clear e
        go_wp2
        go_round
        case rel =>
          refine ⟨k + 1, hlt, rfl, ?_⟩
          obtain ⟨hk', rfl⟩ := List.getElem?_eq_some_iff.1 Hz.out
          rw [List.take_succ_eq_append_getElem hk', List.mem_append]
          rintro (x | x)
          · exact Hn.out x
          · simp only [List.mem_singleton] at x; rw [x] at e'; simp at e'
        case measure => simp [intOf]; omega
    · obtain rfl : k = zs.length := by omega
      rw [List.take_length] at hn
      have Hx : Hid (decide (n ∈ zs) = false) := Lib.hid (decide_eq_false hn)
      clear hn
      go_wp2
      go_ret
      exact ⟨by rw [Hx.out]; rfl, rfl⟩
theorem rthere_yes (arr : Array Value) (fr til r : Int) (w : World) (h1 : arr[1]? = some (.int .i64 fr)) (h2 : arr[2]? = some (.int .i64 til)) (h : fr ≤ r ∧ r < til) :
    Calls Try.prog 26 #[.agg arr, .int .i64 r] w fun e w' => e = .returned (.bool true) ∧ w' = w.alloc (.cells arr 38) := by
  have := rthere_any arr fr til r w h1 h2
  rwa [decide_eq_true h] at this
theorem rthere_no (arr : Array Value) (fr til r : Int) (w : World) (h1 : arr[1]? = some (.int .i64 fr)) (h2 : arr[2]? = some (.int .i64 til)) (h : ¬ (fr ≤ r ∧ r < til)) :
    Calls Try.prog 26 #[.agg arr, .int .i64 r] w fun e w' => e = .returned (.bool false) ∧ w' = w.alloc (.cells arr 38) := by
  have := rthere_any arr fr til r w h1 h2
  rwa [decide_eq_false h] at this
theorem has_yes (w : World) (lo hi : Nat) (v : Value) (zs : List Int) (n : Int) (h : IntsAt w lo hi v zs) (hn : n ∈ zs) :
    Calls Try.prog 20 #[v, .int .i64 n] w fun e w' => e = .returned (.bool true) ∧ w = w' := by
  have := has_any w lo hi v zs n h
  rwa [decide_eq_true hn] at this
theorem has_no (w : World) (lo hi : Nat) (v : Value) (zs : List Int) (n : Int) (h : IntsAt w lo hi v zs) (hn : n ∉ zs) :
    Calls Try.prog 20 #[v, .int .i64 n] w fun e w' => e = .returned (.bool false) ∧ w = w' := by
  have := has_any w lo hi v zs n h
  rwa [decide_eq_false hn] at this
end Go.Proofs.Ytmgjccalpdlbbaa
