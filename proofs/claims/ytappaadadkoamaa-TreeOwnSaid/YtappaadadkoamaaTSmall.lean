/- Small functions on slices of ints, by their contracts: Around, Has, SameInts, left, Left, Contains, Clone, Kids. -/
import Derived.Test.YtappaadadkoamaaTMem
import Derived.Deep.RegionHeld3
namespace Go.Proofs.Ytappaadadkoamaa
open Go.RowKit
set_option linter.unusedVariables false

/-! ### Around, Has -/
def around (n m : Int) : Int := (if n < 0 then -(n + 1) else n) % m
theorem around_lo (n m : Int) (hm : 1 ≤ m) : 0 ≤ around n m := Int.emod_nonneg _ (by omega)
theorem around_hi (n m : Int) (hm : 1 ≤ m) : around n m < m := Int.emod_lt_of_pos _ (by omega)
theorem ret_int {k : IntKind} {a b : Int} (h : a = b) : Ending.returned (.int k a) = .returned (.int k b) := by rw [h]
theorem ret_bool {a b : Bool} (h : a = b) : Ending.returned (.bool a) = .returned (.bool b) := by rw [h]

set_option maxHeartbeats 400000 in
theorem around_any (n m : Int) (w : World) (hw : (Lit.int .i64 n).wf = true) (m1 : 1 ≤ m) (m2 : m ≤ 9223372036854775807) :
    Calls Try.prog 19 #[.int .i64 n, .int .i64 m] w fun e w' => e = .returned (.int .i64 (around n m)) ∧ w = w' := by
  have h1 := wf_lo hw
  have h2 := wf_hi hw
  clear hw
  by_cases hn : n < 0
  · have hx : around n m = -((n + 1).tmod m) := by rw [← Int.neg_tmod, Int.tmod_eq_emod_of_nonneg (by omega)]; simp [around, hn]
    rw [hx]; clear hx
    go_enter Try.func19, Try.ntmps19
    go_wp2
    go_ret
    exact ⟨rfl, rfl⟩
  · have hx : around n m = n % m := by simp [around, hn]
    rw [hx]; clear hx
    go_enter Try.func19, Try.ntmps19
    go_wp2
    go_ret
    exact ⟨rfl, rfl⟩

def HasRel (zs : List Int) (n : Int) (i : Value) : Prop := ∃ k : Nat, k ≤ zs.length ∧ i = .int .i64 k ∧ n ∉ zs.take k
set_option maxHeartbeats 400000 in
theorem has_any (w : World) (lo hi : Nat) (v : Value) (zs : List Int) (n : Int) (h : IntsAt w lo hi v zs) :
    Calls Try.prog 24 #[v, .int .i64 n] w fun e w' => e = .returned (.bool (decide (n ∈ zs))) ∧ w = w' := by
  obtain ⟨a, cap, rfl, h2, h3, h4, h5, h6⟩ := h
  have hl : zs.length ≤ 9223372036854775807 := by omega
  have H6 := Lib.hid h6
  clear h4 h5 h6
  go_enter Try.func24, Try.ntmps24
  go_wp2
  go_loop [5] (HasRel zs n) (fun i => zs.length - (intOf i).toNat)
  case atStart => exact ⟨0, Nat.zero_le _, rfl, by simp⟩
  case round =>
    obtain ⟨k, hk, rfl, hn⟩ := hrel
    by_cases hlt : k < zs.length
    · obtain ⟨z, hz⟩ : ∃ z, zs[k]? = some z := ⟨_, List.getElem?_eq_getElem hlt⟩
      obtain ⟨g, o, rfl, hc⟩ := H6.out k z hz
      have Hz := Lib.hid hz
      have Hn := Lib.hid hn
      clear hz hn
      by_cases e : z = n
      · subst e
        have Hx : Hid (decide (z ∈ zs) = true) := Lib.hid (decide_eq_true (List.mem_of_getElem? Hz.out))
        go_wp2
        go_ret
        exact ⟨by rw [Hx.out]; rfl, rfl⟩
      · have e' : (z == n) = false := by simpa using e
        clear e
        go_wp2
        go_round
        case rel =>
          refine ⟨k + 1, hlt, rfl, ?_⟩
          obtain ⟨hk', rfl⟩ := List.getElem?_eq_some_iff.1 Hz.out
          rw [List.take_succ_eq_append_getElem hk', List.mem_append]
          rintro (x | x)
          · exact Hn.out x
          · simp only [List.mem_singleton] at x; rw [x] at e'; simp at e'
        case measure => simp [intOf]; omega
    · obtain rfl : k = zs.length := by omega
      rw [List.take_length] at hn
      have Hx : Hid (decide (n ∈ zs) = false) := Lib.hid (decide_eq_false hn)
      clear hn
      go_wp2
      go_ret
      exact ⟨by rw [Hx.out]; rfl, rfl⟩
theorem has_yes (w : World) (lo hi : Nat) (v : Value) (zs : List Int) (n : Int) (h : IntsAt w lo hi v zs) (hn : n ∈ zs) :
    Calls Try.prog 24 #[v, .int .i64 n] w fun e w' => e = .returned (.bool true) ∧ w = w' := by
  have := has_any w lo hi v zs n h
  rwa [decide_eq_true hn] at this
theorem has_no (w : World) (lo hi : Nat) (v : Value) (zs : List Int) (n : Int) (h : IntsAt w lo hi v zs) (hn : n ∉ zs) :
    Calls Try.prog 24 #[v, .int .i64 n] w fun e w' => e = .returned (.bool false) ∧ w = w' := by
  have := has_any w lo hi v zs n h
  rwa [decide_eq_false hn] at this

/-! ### SameInts -/
theorem quiet_of_left {P : Program} {f : FuncId} {args : Array Value} {w : World} {n : Nat} {v : Value} (h : Calls P f args (w.drewN n) fun e w' => e = .returned v ∧ w.drewN n = w') : Calls P f args (w.drewN n) fun e w'' => e = .returned v ∧ ∃ m, w'' = w.drewN m :=
  h.mono fun _ _ ⟨he, hm⟩ => ⟨he, n, hm.symm⟩

def SameRel (w : World) (xs ys : List Int) (i : Value) (wr : World) : Prop := ∃ k q : Nat, k ≤ xs.length ∧ i = .int .i64 k ∧ wr = w.drewN q ∧ xs.take k = ys.take k

set_option maxHeartbeats 1000000 in
theorem same_any (w : World) (lo hi lo' hi' : Nat) (u v : Value) (xs ys : List Int) (hx : IntsAt w lo hi u xs) (hy : IntsAt w lo' hi' v ys) :
    Calls Try.prog 17 #[u, v] w fun e w' => e = .returned (.bool (decide (xs = ys))) ∧ ∃ q, w' = w.drewN q := by
  obtain ⟨a, cap, rfl, p2, p3, p4, p5, p6⟩ := hx
  obtain ⟨b, dap, rfl, q2, q3, q4, q5, q6⟩ := hy
  have P6 := Lib.hid p6
  have Q6 := Lib.hid q6
  have h63 : xs.length ≤ 9223372036854775807 := by omega
  clear p4 p5 p6 q4 q5 q6
  by_cases hlen : xs.length = ys.length
  · have hlen' : ((xs.length : Int) != ys.length) = false := by simp [hlen]
    have HLEN := Lib.hid hlen
    clear hlen
    go_enter Try.func17, Try.ntmps17
    go_wp2
    go_loopw [5] (SameRel w xs ys) (fun i _ => xs.length - (intOf i).toNat)
    case atStart => exact ⟨0, 0, Nat.zero_le _, rfl, rfl, rfl⟩
    case round =>
      obtain ⟨k, q, hk, rfl, rfl, ht⟩ := hrel
      have HT := Lib.hid ht
      clear ht
      by_cases hlt : k < xs.length
      · obtain ⟨x, hx⟩ : ∃ x, xs[k]? = some x := ⟨_, List.getElem?_eq_getElem hlt⟩
        obtain ⟨y, hy⟩ : ∃ y, ys[k]? = some y := ⟨_, List.getElem?_eq_getElem (by rw [← HLEN.out]; exact hlt)⟩
        obtain ⟨g, o, rfl, hc⟩ := P6.out k x hx
        obtain ⟨g', o', rfl, hc'⟩ := Q6.out k y hy
        have HX := Lib.hid hx
        have HY := Lib.hid hy
        have hk0 : (0 : Int) ≤ (k : Int) := by omega
        have hk1 : (k : Int) < (xs.length : Int) := by omega
        have hk2 : (k : Int) < (ys.length : Int) := by have := HLEN.out; omega
        have hk3 : (k : Int).toNat = k := by omega
        clear hx hy
        by_cases e : x = y
        · subst e
          go_wp2_with fail
          go_quiet (fail)
          go_wp2
          go_roundw
          case rel =>
            refine ⟨k + 1, _, hlt, rfl, by first | rfl | rw [World.drewN_drewN], ?_⟩
            obtain ⟨h1, e1⟩ := List.getElem?_eq_some_iff.1 HX.out
            obtain ⟨h2, e2⟩ := List.getElem?_eq_some_iff.1 HY.out
            rw [List.take_succ_eq_append_getElem h1, List.take_succ_eq_append_getElem h2, HT.out, e1, e2]
          case measure => simp [intOf]; omega
        · have e' : (x != y) = true := by simpa using e
          have HN : Hid (decide (xs = ys) = false) := Lib.hid (decide_eq_false (fun h => e (by subst h; exact Option.some.inj (HX.out.symm.trans HY.out))))
          clear e
          go_wp2_with fail
          go_quiet (fail)
          go_wp2
          go_ret
          exact ⟨by rw [HN.out]; rfl, _, by first | rfl | rw [World.drewN_drewN]⟩
      · obtain rfl : k = xs.length := by omega
        have HE : Hid (decide (xs = ys) = true) := Lib.hid (decide_eq_true (by have := HT.out; rw [List.take_length] at this; rw [this, HLEN.out, List.take_length]))
        go_wp2
        go_ret
        exact ⟨by rw [HE.out]; rfl, q, rfl⟩
  · have hlen' : ((xs.length : Int) != ys.length) = true := by simp; omega
    have HN : Hid (decide (xs = ys) = false) := Lib.hid (decide_eq_false (fun h => hlen (by rw [h])))
    clear hlen
    go_enter Try.func17, Try.ntmps17
    go_wp2
    go_ret
    exact ⟨by rw [HN.out]; rfl, 0, rfl⟩

/-! ### how many leaves the left tree has -/
def leftOf (n : Nat) : Nat := if n ≤ 2 then 1 else if n ≤ 4 then 2 else if n ≤ 8 then 4 else 8
theorem leftOf_lt {n : Nat} (h : 2 ≤ n) : leftOf n < n := by unfold leftOf; split <;> (try split) <;> (try split) <;> omega
theorem leftOf_pos (n : Nat) : 1 ≤ leftOf n := by unfold leftOf; split <;> (try split) <;> (try split) <;> omega
theorem leftOf_eq {n K : Nat} (h : K = 1 ∨ K = 2 ∨ K = 4 ∨ K = 8) (h2 : K = 1 ∨ K < n) (h3 : ¬ 2 * K < n) : leftOf n = K := by unfold leftOf; split <;> (try split) <;> (try split) <;> omega
def LeftRel (n : Nat) (k : Value) : Prop := ∃ K : Nat, (K = 1 ∨ K = 2 ∨ K = 4 ∨ K = 8) ∧ (K = 1 ∨ K < n) ∧ k = .int .i64 K

set_option maxHeartbeats 400000 in
theorem left_any (n : Nat) (w : World) (hn : n ≤ 16) : Calls Try.prog 29 #[.int .i64 n] w fun e w' => e = .returned (.int .i64 (leftOf n)) ∧ w = w' := by
  go_enter Try.func29, Try.ntmps29
  go_wp2
  go_loop [3] (LeftRel n) (fun k => (16 - intOf k).toNat)
  case atStart => exact ⟨1, .inl rfl, .inl rfl, rfl⟩
  case round =>
    obtain ⟨K, hK, hK2, rfl⟩ := hrel
    have hK1 : 1 ≤ K ∧ K ≤ 8 := by omega
    obtain ⟨k1, k2⟩ := hK1
    by_cases hlt : 2 * K < n
    · go_wp2
      go_round
      case rel => exact ⟨2 * K, by omega, by omega, by first | rfl | (congr 1; omega) | (congr 1; push_cast; omega)⟩
      case measure => simp [intOf]; omega
    · have HE : Hid (leftOf n = K) := Lib.hid (leftOf_eq hK hK2 hlt)
      clear hK hK2
      go_wp2
      go_ret
      exact ⟨by rw [HE.out]; rfl, rfl⟩

set_option maxHeartbeats 400000 in
theorem rleft_any (n : Nat) (w : World) (hn : n ≤ 16) : Calls Try.prog 16 #[.int .i64 n] w fun e w' => e = .returned (.int .i64 (leftOf n)) ∧ w = w' := by
  go_enter Try.func16, Try.ntmps16
  go_wp2
  go_loop [3] (LeftRel n) (fun k => (16 - intOf k).toNat)
  case atStart => exact ⟨1, .inl rfl, .inl rfl, rfl⟩
  case round =>
    obtain ⟨K, hK, hK2, rfl⟩ := hrel
    have hK1 : 1 ≤ K ∧ K ≤ 8 := by omega
    obtain ⟨k1, k2⟩ := hK1
    by_cases hlt : 2 * K < n
    · go_wp2
      go_round
      case rel => exact ⟨2 * K, by omega, by omega, by first | rfl | (congr 1; omega) | (congr 1; push_cast; omega)⟩
      case measure => simp [intOf]; omega
    · have HE : Hid (leftOf n = K) := Lib.hid (leftOf_eq hK hK2 hlt)
      clear hK hK2
      go_wp2
      go_ret
      exact ⟨by rw [HE.out]; rfl, rfl⟩

/-! ### Contains -/
def IdxRel (zs : List Int) (n : Int) (i : Value) : Prop := ∃ k : Nat, k ≤ zs.length ∧ i = .int .i64 k ∧ n ∉ zs.take k
set_option maxHeartbeats 400000 in
theorem index_any (w : World) (lo hi : Nat) (v : Value) (zs : List Int) (n : Int) (h : IntsAt w lo hi v zs) :
    Calls Try.prog 38 #[v, .int .i64 n] w fun e w' => ∃ i : Int, e = .returned (.int .i64 i) ∧ (0 ≤ i ↔ n ∈ zs) ∧ -1 ≤ i ∧ w = w' := by
  obtain ⟨a, cap, rfl, h2, h3, h4, h5, h6⟩ := h
  have hl : zs.length ≤ 9223372036854775807 := by omega
  have H6 := Lib.hid h6
  clear h4 h5 h6
  go_enter Try.func38, Try.ntmps38
  go_wp2
  go_loop [8] (IdxRel zs n) (fun i => zs.length - (intOf i).toNat)
  case atStart => exact ⟨0, Nat.zero_le _, rfl, by simp⟩
  case round =>
    obtain ⟨k, hk, rfl, hn⟩ := hrel
    by_cases hlt : k < zs.length
    · obtain ⟨z, hz⟩ : ∃ z, zs[k]? = some z := ⟨_, List.getElem?_eq_getElem hlt⟩
      obtain ⟨g, o, rfl, hc⟩ := H6.out k z hz
      have Hz := Lib.hid hz
      have Hn := Lib.hid hn
      clear hz hn
      by_cases e : n = z
      · subst e
        have Hx : Hid (n ∈ zs) := Lib.hid (List.mem_of_getElem? Hz.out)
        go_wp2
        go_ret
        exact ⟨_, rfl, ⟨fun _ => Hx.out, fun _ => by omega⟩, by omega, rfl⟩
      · have e' : (n == z) = false := by simpa using e
        clear e
        go_wp2
        go_round
        case rel =>
          refine ⟨k + 1, hlt, rfl, ?_⟩
          obtain ⟨hk', rfl⟩ := List.getElem?_eq_some_iff.1 Hz.out
          rw [List.take_succ_eq_append_getElem hk', List.mem_append]
          rintro (x | x)
          · exact Hn.out x
          · simp only [List.mem_singleton] at x; rw [x] at e'; simp at e'
        case measure => simp [intOf]; omega
    · obtain rfl : k = zs.length := by omega
      rw [List.take_length] at hn
      have Hx : Hid (n ∉ zs) := Lib.hid hn
      clear hn
      go_wp2
      go_ret
      exact ⟨-1, rfl, ⟨fun h => absurd h (by omega), fun h => absurd h Hx.out⟩, by omega, rfl⟩

set_option maxHeartbeats 400000 in
theorem contains_any (w : World) (lo hi : Nat) (v : Value) (zs : List Int) (n : Int) (h : IntsAt w lo hi v zs) :
    Calls Try.prog 35 #[v, .int .i64 n] w fun e w' => e = .returned (.bool (decide (n ∈ zs))) ∧ w = w' := by
  have H := Lib.hid h
  clear h
  by_cases hm : n ∈ zs
  · have HM : Hid (decide (n ∈ zs) = true) := Lib.hid (decide_eq_true hm)
    have HN := Lib.hid hm
    clear hm
    go_enter Try.func35, Try.ntmps35
    go_wp2_with (go_at_call 38; refine (index_any w lo hi v zs n H.out).mono ?_; rintro e w' ⟨i, rfl, hi, h1, rfl⟩; have h0 : 0 ≤ i := hi.2 HN.out; have HI := Lib.hid hi; clear hi)
    go_ret
    exact ⟨by rw [HM.out]; rfl, rfl⟩
  · have HM : Hid (decide (n ∈ zs) = false) := Lib.hid (decide_eq_false hm)
    have HN := Lib.hid hm
    clear hm
    go_enter Try.func35, Try.ntmps35
    go_wp2_with (go_at_call 38; refine (index_any w lo hi v zs n H.out).mono ?_; rintro e w' ⟨i, rfl, hi, h1, rfl⟩; have h0 : decide (0 ≤ i) = false := decide_eq_false (fun h => HN.out (hi.1 h)); have HI := Lib.hid hi; clear hi)
    go_ret
    exact ⟨by rw [HM.out]; rfl, rfl⟩
theorem contains_yes (w : World) (lo hi : Nat) (v : Value) (zs : List Int) (n : Int) (h : IntsAt w lo hi v zs) (hn : n ∈ zs) :
    Calls Try.prog 35 #[v, .int .i64 n] w fun e w' => e = .returned (.bool true) ∧ w = w' := by
  have := contains_any w lo hi v zs n h
  rwa [decide_eq_true hn] at this
theorem contains_no (w : World) (lo hi : Nat) (v : Value) (zs : List Int) (n : Int) (h : IntsAt w lo hi v zs) (hn : n ∉ zs) :
    Calls Try.prog 35 #[v, .int .i64 n] w fun e w' => e = .returned (.bool false) ∧ w = w' := by
  have := contains_any w lo hi v zs n h
  rwa [decide_eq_false hn] at this

/-! ### Clone -/
/-- What is told is new: its row lies from B on. -/
def NewInts (B : Nat) (zs : List Int) (w : World) (e : Ending) (w' : World) : Prop := ∃ v', e = .returned v' ∧ IntsT w' B w'.heap.size v' zs ∧ Below w.heap.size w w'
theorem clone_done {w w1 w' : World} {v : Value} {zs : List Int} (hB : w.heap.size ≤ w1.heap.size) (hK : Keeps (fun _ => False) w w1) (ho : w'.ownsRow w.heap.size 3 1 v (0 + zs.length) ([] ++ zs.map (Value.int .i64))) (hg : w1.grownBy w' (Value.slice (some ⟨w.heap.size, 0, none⟩) 0 0).ownBlock) (hw : ∀ z ∈ zs, (Lit.int .i64 z).wf = true) :
    NewInts w.heap.size zs w (.returned v) w' :=
  ⟨v, rfl, IntsT.ofOwn (n := zs.length) (by simpa using ho) hw (Nat.le_refl _), (hK.toBelow (Nat.le_refl _) (fun _ _ x => x)).grown hg hB (fun k hk => by simp [Value.ownBlock] at hk; omega)⟩

set_option maxHeartbeats 400000 in
theorem clone_any (w : World) (lo hi : Nat) (v : Value) (zs : List Int) (h : IntsT w lo hi v zs) (hl : zs.length ≤ 1000) :
    Calls Try.prog 30 #[v] w (NewInts w.heap.size zs w) := by
  obtain ⟨i0, hi0, hz0, hz1, hz2⟩ := info_parts intInfo3
  obtain ⟨a, cap, rfl, h2, h3⟩ := h.form
  have HW := Lib.hid h.wf
  cases a with
  | none =>
    have hz : zs = [] := by
      cases zs with
      | nil => rfl
      | cons z r => obtain ⟨x, hx, _⟩ := h.cells 0 (.int .i64 z) (by simp); cases hx
    subst hz
    clear h
    have he := fun W => Lib.run_eql_slice_nil (P := Try.prog) W 22 3 none 0 cap 0 0 Try.underlying22
    go_enter Try.func30, Try.ntmps30
    go_wp2
    go_ret
    exact ⟨_, rfl, IntsT.nil _ _ _, Below.refl _ _⟩
  | some a =>
    have he := fun W => Lib.run_eql_slice_nil (P := Try.prog) W 22 3 (some a) zs.length cap 0 0 Try.underlying22
    have HC : Hid (∀ W, Keeps (fun _ => False) w W → ∀ j u, (zs.map (Value.int .i64))[j]? = some u → ∃ x, (some a) = some x ∧ W.cell? (x.add j) = some u) := Lib.hid (fun W hW j u hu => by
      obtain ⟨x, hx, hc⟩ := h.cells j u hu
      exact ⟨x, hx, by rw [hW.cell (World.block_lt_of_cell? _ _ hc) (fun x => x)]; exact hc⟩)
    have HQ : Hid ((zs.map (Value.int .i64)).length = zs.length * 1) := Lib.hid (by simp)
    have HC3 := Lib.hid (ints_oneCell .i64 zs)
    have HC4 : Hid (0 + zs.length ≤ maxLen) := Lib.hid (by unfold maxLen; omega)
    have HC5 : Hid ((0 + zs.length) * 8 ≤ 140737488355328) := Lib.hid (by omega)
    have Hz0 := Lib.hid hz0
    have Hz1 := Lib.hid hz1
    have Hz2 := Lib.hid hz2
    have Hi0 := Lib.hid hi0
    clear hz0 hz1 hz2 hi0 h
    go_enter Try.func30, Try.ntmps30
    go_wp2_with (first | (refine wpL_buildNone 22 3 i0 1 Try.underlying22 Hi0.out rfl rfl ?_; intro w1 O1 K1 S1; have HO1 := Lib.hid O1; have HK1 := Lib.hid K1; have HS1 := Lib.hid S1; clear O1 K1 S1) | (at_builtin; (refine wpL_append0 rfl (.tmp 5) (.tmp 6) 22 rfl w.heap.size 3 i0 (.int .i64 0) 1 8 Try.underlying22 Hi0.out Hz0.out Hz1.out Hz2.out rfl Nat.one_pos (.slice (some ⟨w.heap.size, 0, none⟩) 0 0) 0 [] rfl HO1.out (some a) zs.length cap (zs.map (Value.int .i64)) rfl HQ.out (HC.out w1 HK1.out) HC3.out HC4.out HC5.out HK1.out.size ?_); intro v' w2 hown hg; have HO := Lib.hid hown; have HG := Lib.hid hg; clear hown hg))
    go_ret
    exact clone_done HK1.out.size HK1.out HO.out HG.out HW.out

/-! ### Kids -/
def kidsOf (zs : List Int) : List Int × List Int := if zs.length < 2 then ([], []) else (zs.take (leftOf zs.length), zs.drop (leftOf zs.length))
def NewKids (B : Nat) (zs : List Int) (w : World) (e : Ending) (w' : World) : Prop := ∃ a b, e = .returned (.tuple #[a, b]) ∧ IntsT w' B w'.heap.size a (kidsOf zs).1 ∧ IntsT w' B w'.heap.size b (kidsOf zs).2 ∧ Below w.heap.size w w'

set_option maxHeartbeats 1000000 in
theorem kids_any (w : World) (lo hi : Nat) (v : Value) (zs : List Int) (h : IntsT w lo hi v zs) (hl : zs.length ≤ 16) :
    Calls Try.prog 15 #[v] w (NewKids w.heap.size zs w) := by
  obtain ⟨i0, hi0, hz0, hz1, hz2⟩ := info_parts intInfo3
  obtain ⟨a, cap, rfl, h2, h3⟩ := h.form
  by_cases hlt : zs.length < 2
  · have HK : Hid (kidsOf zs = ([], [])) := Lib.hid (if_pos hlt)
    clear h hz0 hz1 hz2 hi0
    go_enter Try.func15, Try.ntmps15
    go_wp2
    go_ret2
    exact ⟨_, _, rfl, by rw [HK.out]; exact IntsT.nil _ _ _, by rw [HK.out]; exact IntsT.nil _ _ _, Below.refl _ _⟩
  · have HK : Hid (kidsOf zs = (zs.take (leftOf zs.length), zs.drop (leftOf zs.length))) := Lib.hid (if_neg hlt)
    obtain ⟨k, hk⟩ : ∃ k, k = leftOf zs.length := ⟨_, rfl⟩
    have hk1 : k < zs.length := by rw [hk]; exact leftOf_lt (by omega)
    have hkp : 1 ≤ k := by rw [hk]; exact leftOf_pos _
    have HL : Hid (∀ W, Calls Try.prog 29 #[.int .i64 zs.length] W fun e w' => e = .returned (.int .i64 k) ∧ W = w') := Lib.hid (fun W => by rw [hk]; exact left_any zs.length W hl)
    rw [← hk] at HK
    have hs1 := run_slice_pre (P := Try.prog) 22 3 i0 Try.underlying22 hi0 a zs.length cap k (by omega)
    have hs2 := run_slice_suf (P := Try.prog) 22 3 i0 Try.underlying22 hi0 a zs.length cap k (by omega)
    rw [hz1] at hs2
    have H1 := Lib.hid (h.take (k := k) (by omega))
    have H2 := Lib.hid (h.drop (k := k) (by omega))
    obtain ⟨a2, ha2⟩ : ∃ a2, a2 = (if cap = k then a else a.map (·.add (k * 1))) := ⟨_, rfl⟩
    rw [← ha2] at H2 hs2
    have HL1 : Hid ((zs.take k).length ≤ 1000) := Lib.hid (by simp; omega)
    have HL2 : Hid ((zs.drop k).length ≤ 1000) := Lib.hid (by simp; omega)
    clear h hz0 hz1 hz2 hi0 hk ha2
    go_enter Try.func15, Try.ntmps15
    go_wp2_with (go_at_call 29; refine (HL.out w).mono ?_; rintro e w' ⟨rfl, rfl⟩)
    go_region_held3 (fun _ => True) (first | go_keep | trivial) (first
      | (go_at_call 30; (with_reducible refine (clone_any _ lo hi (.slice a k cap) (zs.take k) (H1.out.keeps ((Keeps.refl (fun _ => False) w).drew) (fun _ _ _ x => x)) HL1.out).mono ?_); rintro e w1 ⟨v1, rfl, hI1, hB1⟩; have HI1 : Hid (IntsT w1 w.heap.size w1.heap.size v1 (zs.take k)) := Lib.hid hI1; have HB1 : Hid (Below w.heap.size w w1) := Lib.hid (((Below.refl w.heap.size w).drew).trans hB1); clear hI1 hB1)
      | (go_at_call 30; (with_reducible refine (clone_any _ lo hi (.slice a2 (zs.length - k) (cap - k)) (zs.drop k) (H2.out.below HB1.out) HL2.out).mono ?_); rintro e w2 ⟨v2, rfl, hI2, hB2⟩; have HI2 := Lib.hid hI2; have HB2 := Lib.hid hB2; clear hI2 hB2))
    go_wp2
    go_ret2
    exact ⟨v1, v2, rfl, by rw [HK.out]; exact (HI1.out.below HB2.out).mono (Nat.le_refl _) HB2.out.size, by rw [HK.out]; exact HI2.out.mono HB1.out.size (Nat.le_refl _), HB1.out.trans (HB2.out.mono HB1.out.size)⟩
end Go.Proofs.Ytappaadadkoamaa
