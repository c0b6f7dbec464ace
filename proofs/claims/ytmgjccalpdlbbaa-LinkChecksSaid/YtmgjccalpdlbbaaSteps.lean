/- Lists of lines in memory ('StepsAt'); what the references do with them: Met, Over, Quiet, by their contracts. -/
import Derived.Test.YtmgjccalpdlbbaaStepFn
namespace Go.Proofs.Ytmgjccalpdlbbaa
open Go.RowKit
set_option linter.unusedVariables false

structure StepArr (w : World) (lo hi : Nat) (s : StepV) (arr : Array Value) : Prop where
  size : arr.size = 34
  one : arr.all (·.oneCell') = true
  dk : arr[0]? = some (.int .i64 s.dk)
  fr : arr[1]? = some (.int .i64 s.fr)
  til : arr[2]? = some (.int .i64 s.til)
  n : arr[4]? = some (.int .i64 s.n)
  set : ∃ sv, arr[5]? = some sv ∧ IntsAt w lo hi sv s.set

def StepsAt (w : World) (lo hi : Nat) (v : Value) (ss : List StepV) : Prop :=
  ∃ a cap, v = .slice a ss.length cap ∧ ss.length ≤ cap ∧ cap ≤ 9223372036854775807 ∧ (∀ x, a = some x → lo ≤ x.block ∧ x.block < hi) ∧
    ∀ i s, ss[i]? = some s → ∃ g o arr, a = some ⟨g, o, none⟩ ∧ w.rangeAt g (o + i * 34) arr.toList ∧ StepArr w lo hi s arr

theorem StepArr.keeps {S : Nat → Prop} {w w' : World} {lo hi : Nat} {s : StepV} {arr : Array Value} (h : StepArr w lo hi s arr) (k : Keeps S w w') (hS : ∀ b, lo ≤ b → b < hi → ¬ S b) : StepArr w' lo hi s arr := by
  obtain ⟨sv, h1, h2⟩ := h.set
  exact ⟨h.size, h.one, h.dk, h.fr, h.til, h.n, sv, h1, h2.keeps k hS⟩

theorem StepsAt.keeps {S : Nat → Prop} {w w' : World} {lo hi : Nat} {v : Value} {ss : List StepV} (h : StepsAt w lo hi v ss) (k : Keeps S w w') (hS : ∀ b, lo ≤ b → b < hi → ¬ S b) : StepsAt w' lo hi v ss := by
  obtain ⟨a, cap, h1, h2, h3, h5, h6⟩ := h
  refine ⟨a, cap, h1, h2, h3, h5, fun i s hs => ?_⟩
  obtain ⟨g, o, arr, rfl, hr, ha⟩ := h6 i s hs
  obtain ⟨b1, b2⟩ := h5 _ rfl
  refine ⟨g, o, arr, rfl, fun j v hv => ?_, ha.keeps k hS⟩
  have hc := hr j v hv
  rw [k.cell (p := ⟨g, o + i * 34 + j, none⟩) (World.block_lt_of_cell? _ _ hc) (hS _ b1 b2)]
  exact hc

theorem StepArr.at (w : World) {lo hi : Nat} {s : StepV} {arr : Array Value} (h : StepArr w lo hi s arr) {g o : Nat} (hr : w.rangeAt g o arr.toList) :
    w.cell? ⟨g, o, none⟩ = some (.int .i64 s.dk) ∧ w.cell? ⟨g, o + 1, none⟩ = some (.int .i64 s.fr) ∧ w.cell? ⟨g, o + 2, none⟩ = some (.int .i64 s.til) ∧ w.cell? ⟨g, o + 4, none⟩ = some (.int .i64 s.n) := by
  exact ⟨by simpa using hr 0 _ (by simpa using h.dk), hr 1 _ (by simpa using h.fr), hr 2 _ (by simpa using h.til), hr 4 _ (by simpa using h.n)⟩

theorem StepArr.cell5 (w : World) {lo hi : Nat} {s : StepV} {arr : Array Value} (h : StepArr w lo hi s arr) {g o : Nat} (hr : w.rangeAt g o arr.toList) : ∃ sv, w.cell? ⟨g, o + 5, none⟩ = some sv ∧ IntsAt w lo hi sv s.set := by
  obtain ⟨sv, h1, h2⟩ := h.set
  exact ⟨sv, hr 5 _ (by simpa using h1), h2⟩

/-- The lines, one at a time, in a later world. -/
theorem StepsAt.one {w wr : World} {lo hi : Nat} {a : Option Addr} {n cap : Nat} {ss : List StepV} (h : StepsAt w lo hi (.slice a n cap) ss) (hb : Below w.heap.size w wr) (hhi : hi ≤ w.heap.size) {k : Nat} {s : StepV} (hs : ss[k]? = some s) :
    ∃ g o arr, a = some ⟨g, o, none⟩ ∧ wr.rangeAt g (o + k * 34) arr.toList ∧ StepArr wr lo hi s arr ∧ g < wr.heap.size := by
  obtain ⟨a', cap', he, q2, q3, q5, q6⟩ := h.keeps (Keeps.below hb) (fun b _ hb' x => by omega)
  simp at he
  obtain ⟨rfl, -, rfl⟩ := he
  obtain ⟨g, o, arr, rfl, hr, ha⟩ := q6 k s hs
  obtain ⟨c0, _⟩ := ha.at wr hr
  exact ⟨g, o, arr, rfl, hr, ha, World.block_lt_of_cell? _ _ c0⟩

/-- A line is loaded whole. -/
theorem wpL_load {ops : Array Oper} {rest : List Oper} {op : Oper} {a : Act} {w : World} {Q : Exit → Act → World → Prop} (hw : Region.wanted op (yielded ops a.tmps) = true) (x : Operand) (ho : op.op = .load 38 x)
    (b o : Nat) (hx : a.eval x = .pointer (some ⟨b, o, none⟩)) (arr : Array Value) (hc : w.rangeAt b o arr.toList) (hs : arr.size = 34)
    (h : wpList Try.prog ops Q rest (a.put op.dst (.agg arr)) w) : wpList Try.prog ops Q (op :: rest) a w :=
  BigFrame.wpList_want hw fun _ hK => wp_load_mid 38 x ho b o hx arr.toList _ hc Try.underlying38 rfl (by rw [stepInfo]; simp [hs]) (hK _ _ (by simpa using h))

/-! ### Quiet -/
def isFault (s : StepV) : Bool := decide (s.dk = 3 ∨ s.dk = 4 ∨ s.dk = 5)
def quietTo (ss : List StepV) (k : Nat) : Int := (ss.take k).foldl (fun m s => if isFault s then max m s.til else m) 0
def quietOf (ss : List StepV) : Int := ss.foldl (fun m s => if isFault s then max m s.til else m) 0
theorem quietTo_succ {ss : List StepV} {k : Nat} {s : StepV} (h : ss[k]? = some s) : quietTo ss (k + 1) = if isFault s then max (quietTo ss k) s.til else quietTo ss k := by
  obtain ⟨hk, rfl⟩ := List.getElem?_eq_some_iff.1 h
  unfold quietTo
  rw [List.take_succ_eq_append_getElem hk, List.foldl_append]
  rfl
theorem quietTo_all (ss : List StepV) : quietTo ss ss.length = quietOf ss := by simp [quietTo, quietOf]

def QuietRel (w : World) (ss : List StepV) (x i : Value) (wr : World) : Prop := ∃ k : Nat, k ≤ ss.length ∧ i = .int .i64 k ∧ x = .int .i64 (quietTo ss k) ∧ Below w.heap.size w wr

set_option maxRecDepth 100000 in
set_option maxHeartbeats 1000000 in
theorem rquiet_any (w : World) (lo hi : Nat) (v : Value) (ss : List StepV) (h : StepsAt w lo hi v ss) (hhi : hi ≤ w.heap.size) :
    Calls Try.prog 19 #[v] w fun e w' => e = .returned (.int .i64 (quietOf ss)) ∧ Below w.heap.size w w' := by
  obtain ⟨a, cap, rfl, h2, h3, h5, h6⟩ := id h
  have hl : ss.length ≤ 9223372036854775807 := by omega
  have H := Lib.hid h
  clear h h5 h6
  go_enter Try.func19, Try.ntmps19
  go_wp2
  go_loopw [3, 4] (QuietRel w ss) (fun _ i _ => ss.length - (intOf i).toNat)
  case atStart => exact ⟨0, Nat.zero_le _, rfl, rfl, Below.refl _ _⟩
  case round =>
    obtain ⟨k, hk, rfl, rfl, hb⟩ := hrel
    by_cases hlt : k < ss.length
    · obtain ⟨s, hs⟩ : ∃ s, ss[k]? = some s := ⟨_, List.getElem?_eq_getElem hlt⟩
      have h' := H.out.keeps (Keeps.below hb) (fun b _ hb' x => by omega)
      obtain ⟨a', cap', he, q2, q3, q5, q6⟩ := h'
      simp at he
      obtain ⟨rfl, rfl⟩ := he
      obtain ⟨g, o, arr, rfl, hr, ha⟩ := q6 k s hs
      obtain ⟨c0, c1, c2, c4⟩ := ha.at wr hr
      have hdk := ha.dk
      have hgl : g < wr.heap.size := World.block_lt_of_cell? _ _ c0
      have HB := Lib.hid hb
      clear q5 q6
      have hq := Lib.hid (quietTo_succ hs)
      have HR := Lib.hid hr
      have Ha := Lib.hid ha
      clear hs hb hr ha
      by_cases hf : s.dk = 3 ∨ s.dk = 4 ∨ s.dk = 5
      · have hf' := Lib.hid (decide_eq_true hf)
        have hF : Hid (isFault s = true) := Lib.hid (by simp [isFault, hf])
        clear hf
        go_wp2_with (first | (refine wpL_load rfl (.tmp 14) rfl _ _ rfl arr HR.out Ha.out.size ?_) | (go_at_call 27; refine (rfault_any arr s.dk _ hdk).mono ?_; rw [hf'.out]; rintro e w' ⟨rfl, rfl⟩))
        go_roundw
        case rel => exact ⟨k + 1, hlt, rfl, by rw [hq.out, hF.out]; simp <;> (split <;> omega), HB.out.alloc HB.out.size _⟩
        case measure => simp [intOf]; omega
      · have hf' := Lib.hid (decide_eq_false hf)
        have hF : Hid (isFault s = false) := Lib.hid (by simp [isFault]; simpa using hf)
        clear hf
        go_wp2_with (first | (refine wpL_load rfl (.tmp 14) rfl _ _ rfl arr HR.out Ha.out.size ?_) | (go_at_call 27; refine (rfault_any arr s.dk _ hdk).mono ?_; rw [hf'.out]; rintro e w' ⟨rfl, rfl⟩))
        go_roundw
        case rel => exact ⟨k + 1, hlt, rfl, by rw [hq.out, hF.out]; simp <;> (split <;> omega), HB.out.alloc HB.out.size _⟩
        case measure => simp [intOf]; omega
    · obtain rfl : k = ss.length := by omega
      have HQ := Lib.hid (quietTo_all ss)
      have HB := Lib.hid hb
      clear hb
      go_wp2
      go_ret
      exact ⟨by rw [← HQ.out]; rfl, HB.out⟩
end Go.Proofs.Ytmgjccalpdlbbaa
