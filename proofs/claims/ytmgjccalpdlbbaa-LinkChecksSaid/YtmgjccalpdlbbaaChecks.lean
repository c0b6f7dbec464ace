/- LinkChecks, walked: it answers true, and changes nothing that was there. -/
import Derived.Test.YtmgjccalpdlbbaaArg
import Derived.Test.YtmgjccalpdlbbaaLives
namespace Go.Proofs.Ytmgjccalpdlbbaa
open Go.RowKit
set_option linter.unusedVariables false

/-! ### what is made of numbers is right -/
theorem wrong_stepV (x : Int) : wrongOf (stepV x) = 0 := by
  have h0 := around_lo x 10000000 (by omega)
  unfold stepV
  generalize around x 10000000 = k at h0 ⊢
  have hs : ∀ j, badSet (setOf j) = false := by
    intro j
    unfold setOf
    repeat' split
    all_goals decide
  by_cases h6 : k % 6 = 0
  · have hd : doOf k = 3 := by simp [doOf, h6]
    simp only [h6, hd, if_true]
    unfold wrongOf
    simp only [hs, isFault]
    rw [if_neg (by simp), if_neg (by omega)]
    simp
  · have hd : doOf k ≠ 3 := by
      unfold doOf
      rw [if_neg h6]
      repeat' split
      all_goals decide
    simp only [if_neg h6]
    unfold wrongOf
    simp only
    split
    · rfl
    · rw [if_neg (by omega), if_neg (by omega)]
theorem check_stepsOf (zs : List Int) : checkOf (stepsOf zs) = 0 := checkOf_fine _ (fun s hs => by
  obtain ⟨x, _, rfl⟩ := List.mem_map.1 hs
  exact wrong_stepV x)

/-! ### the first lines of an argument -/
theorem StepsArg.cells {w : World} {a : Option Addr} {n cap m : Nat} {ss : List StepV} (h : StepsArg w (.slice a n cap) ss) (hm : m ≤ n) :
    ∃ arrs : List (Array Value), arrs.length = m ∧ (∀ (i : Nat) (arr : Array Value), arrs[i]? = some arr → ∃ s, ss[i]? = some s ∧ StepArg w s arr) ∧ (arrs.flatMap Array.toList).length = m * 34 ∧
      (∀ j u, (arrs.flatMap Array.toList)[j]? = some u → ∃ x, a = some x ∧ w.cell? (x.add j) = some u) ∧ ∀ u ∈ arrs.flatMap Array.toList, u.oneCell' = true := by
  obtain ⟨a', cap', he, q2, q3, q6⟩ := h
  simp at he
  obtain ⟨rfl, rfl, rfl⟩ := he
  obtain ⟨arrs, hl, ha⟩ := list_of (fun (i : Nat) (arr : Array Value) => ∃ s, ss[i]? = some s ∧ StepArg w s arr ∧ ∀ j u, arr.toList[j]? = some u → ∃ x, a = some x ∧ w.cell? (x.add (i * 34 + j)) = some u) m (fun i hi => by
    obtain ⟨g, o, arr, rfl, hr, hA⟩ := q6 i ss[i] (List.getElem?_eq_getElem (by omega))
    exact ⟨arr, ss[i], List.getElem?_eq_getElem (by omega), hA, fun j u hu => ⟨_, rfl, by rw [Go.WideShapes.add_plain, ← Nat.add_assoc]; exact hr j u hu⟩⟩)
  have hsz : ∀ arr ∈ arrs, arr.size = 34 := by
    intro arr hm
    obtain ⟨i, hi⟩ := List.mem_iff_getElem?.1 hm
    obtain ⟨s, _, hA, _⟩ := ha i arr hi
    exact hA.size
  have hlen : (arrs.flatMap Array.toList).length = m * 34 := by
    rw [List.length_flatMap, List.map_congr_left (g := fun _ => 34) (fun arr hm => by simpa using hsz arr hm), List.map_const', List.sum_replicate_nat, hl]
  refine ⟨arrs, hl, fun i arr hi => by obtain ⟨s, q1, q2, _⟩ := ha i arr hi; exact ⟨s, q1, q2⟩, hlen, fun j u hu => ?_, fun u hu => ?_⟩
  · have hj : j < m * 34 := by rw [← hlen]; exact (List.getElem?_eq_some_iff.1 hu).1
    have hi : arrs[j / 34]? = some (arrs[j / 34]'(by omega)) := List.getElem?_eq_getElem (by omega)
    obtain ⟨s, _, hA, hc⟩ := ha _ _ hi
    have e : j = j / 34 * 34 + j % 34 := by omega
    rw [e, flat_get arrs (j / 34) (j % 34) _ hsz hi (by omega)] at hu
    obtain ⟨x, hx, hcx⟩ := hc (j % 34) u (by simpa using hu)
    exact ⟨x, hx, by rw [← e] at hcx; exact hcx⟩
  · obtain ⟨arr, hm, hu⟩ := List.mem_flatMap.1 hu
    obtain ⟨i, hi⟩ := List.mem_iff_getElem?.1 hm
    obtain ⟨s, _, hA, _⟩ := ha i arr hi
    exact Array.all_eq_true_iff_forall_mem.1 hA.one u (by simpa using hu)

/-- What the call itself has gathered reads as a list of lines. -/
theorem StepsArg.ofOwn {w : World} {base n : Nat} {v : Value} {arrs : List (Array Value)} {ss : List StepV} (h : w.ownsRow base 38 34 v n (arrs.flatMap Array.toList)) (hn : n = ss.length) (hl : arrs.length = ss.length) (ha : ∀ (i : Nat) s arr, ss[i]? = some s → arrs[i]? = some arr → StepArg w s arr) : StepsArg w v ss := by
  subst hn
  have hsz : ∀ a ∈ arrs, a.size = 34 := by
    intro a hm
    obtain ⟨i, hi⟩ := List.mem_iff_getElem?.1 hm
    have hlt := (List.getElem?_eq_some_iff.1 hi).1
    exact (ha i _ a (List.getElem?_eq_getElem (by omega)) hi).size
  rcases h.2 with ⟨rfl, hn⟩ | ⟨g, cap, cur, rfl, hb, hg, hle, hm, hs, ht⟩
  · refine ⟨none, 0, by rw [hn], by omega, by omega, fun i s hs => ?_⟩
    have := (List.getElem?_eq_some_iff.1 hs).1
    omega
  · refine ⟨some ⟨g, 0, none⟩, cap, rfl, hle, by unfold maxLen at hm; omega, fun i s hs => ?_⟩
    have hlt := (List.getElem?_eq_some_iff.1 hs).1
    obtain ⟨arr, harr⟩ : ∃ arr, arrs[i]? = some arr := ⟨_, List.getElem?_eq_getElem (by omega)⟩
    have hA := ha i s arr hs harr
    refine ⟨g, 0, arr, rfl, fun j u hu => ?_, hA⟩
    have hj : j < 34 := by have := (List.getElem?_eq_some_iff.1 hu).1; simp [hA.size] at this; exact this
    have hc := h.cells (g := g) rfl (i * 34 + j) u (by rw [flat_get arrs i j arr hsz harr hj]; simpa using hu)
    rwa [Go.WideShapes.add_plain, ← Nat.add_assoc] at hc

/-! ### one field of one line is another -/
theorem StepArr.toArg {w : World} {lo hi : Nat} {s : StepV} {arr : Array Value} (h : StepArr w lo hi s arr) : StepArg w s arr := by
  obtain ⟨sv, q1, q2⟩ := h.set
  exact ⟨h.size, h.one, h.dk, h.fr, h.til, h.n, sv, q1, ArgInts.of q2⟩

theorem Gathered.cellAt {w : World} {base g n cap : Nat} {ss : List StepV} {arrs : List (Array Value)} (h : Gathered w base (.slice (some ⟨g, 0, none⟩) n cap) ss arrs) {j r : Nat} {arr : Array Value} {u : Value} (hj : arrs[j]? = some arr) (hu : arr[r]? = some u) : w.cell? ⟨g, j * 34 + r, none⟩ = some u := by
  have hsz : ∀ a ∈ arrs, a.size = 34 := by
    intro a hm
    obtain ⟨i, hi⟩ := List.mem_iff_getElem?.1 hm
    have hlt := (List.getElem?_eq_some_iff.1 hi).1
    exact (h.at' i _ a (List.getElem?_eq_getElem (by rw [← h.len]; exact hlt)) hi).size
  have hr : r < 34 := by rw [← hsz arr (List.mem_of_getElem? hj)]; exact (Array.getElem?_eq_some_iff.1 hu).1
  have hc := h.own.cells (g := g) rfl (j * 34 + r) u (by rw [flat_get arrs j r arr hsz hj hr]; exact hu)
  rwa [Go.WideShapes.add_plain, Nat.zero_add] at hc

theorem Gathered.below {w w' : World} {base : Nat} {v : Value} {ss : List StepV} {arrs : List (Array Value)} (h : Gathered w base v ss arrs) (hb : Below w.heap.size w w') : Gathered w' base v ss arrs := by
  have hK := Keeps.below hb
  refine ⟨ownsRow_keeps h.own hK (fun b hb x => by have := (h.own.lt b hb).2; omega), h.len, fun j s arr hj ha => ?_, h.apart⟩
  exact ((h.at' j s arr hj ha).keeps hK (fun b _ h1 h2 => by omega)).mono (Nat.le_refl _) hb.size

theorem Gathered.put {w : World} {base g n cap : Nat} {ss : List StepV} {arrs : List (Array Value)} (h : Gathered w base (.slice (some ⟨g, 0, none⟩) n cap) ss arrs) {i f : Nat} {s s' : StepV} {arr : Array Value} {u : Value} (hs : ss[i]? = some s) (ha : arrs[i]? = some arr) (hf : f < 34)
    (hu : StepArg (w.setCell ⟨g, i * 34 + f, none⟩ u) s arr → StepArg (w.setCell ⟨g, i * 34 + f, none⟩ u) s' (arr.setIfInBounds f u)) : StepsArg (w.setCell ⟨g, i * 34 + f, none⟩ u) (.slice (some ⟨g, 0, none⟩) n cap) (ss.set i s') := by
  have hK : Keeps (fun b => b = g) w (w.setCell ⟨g, i * 34 + f, none⟩ u) := (Keeps.refl (fun b => b = g) w).setCell (p := ⟨g, i * 34 + f, none⟩) (fun _ => rfl) _
  have hkeep : ∀ j t b, ss[j]? = some t → arrs[j]? = some b → StepArg (w.setCell ⟨g, i * 34 + f, none⟩ u) t b := fun j t b hj hb =>
    ((h.at' j t b hj hb).keepsOwn hK (fun sv q q1 q2 q3 => h.apart j b sv q hb q1 q2 (by subst q3; rfl))).toArg
  obtain ⟨a', cap', he, q2, q3, q5, q6⟩ := h.steps
  simp at he
  obtain ⟨rfl, e2, rfl⟩ := he
  refine ⟨_, cap, by rw [List.length_set, ← e2], by simpa using q2, q3, fun j t hj => ?_⟩
  have hjl : j < ss.length := by have := (List.getElem?_eq_some_iff.1 hj).1; simpa using this
  obtain ⟨b, hb⟩ : ∃ b, arrs[j]? = some b := ⟨_, List.getElem?_eq_getElem (by rw [h.len]; exact hjl)⟩
  by_cases hji : j = i
  · subst hji
    rw [List.getElem?_set_self hjl] at hj
    obtain rfl := Option.some.inj hj
    rw [hb] at ha
    obtain rfl := Option.some.inj ha
    have hA := hu (hkeep j s _ hs hb)
    refine ⟨g, 0, _, rfl, fun r z hz => ?_, hA⟩
    rw [Nat.zero_add]
    have hz' : (b.setIfInBounds f u)[r]? = some z := by rw [← Array.getElem?_toList]; exact hz
    have hsz : b.size = 34 := (h.at' j s b hs hb).size
    by_cases hr : r = f
    · subst hr
      rw [Array.getElem?_setIfInBounds_self_of_lt (by omega)] at hz'
      obtain rfl := Option.some.inj hz'
      obtain ⟨y, hy⟩ : ∃ y, b[r]? = some y := ⟨_, Array.getElem?_eq_getElem (by omega)⟩
      exact World.cell?_setCell_same' _ _ _ (by rw [h.cellAt hb hy]; rfl)
    · rw [Array.getElem?_setIfInBounds_ne (fun e => hr e.symm)] at hz'
      rw [World.cell?_setCell_other _ _ _ _ (fun e => hr (by injection e with _ h _; omega))]
      exact h.cellAt hb hz'
  · rw [List.getElem?_set_ne (fun e => hji e.symm)] at hj
    refine ⟨g, 0, b, rfl, fun r z hz => ?_, hkeep j t b hj hb⟩
    rw [Nat.zero_add]
    have hz' : b[r]? = some z := by simpa using hz
    have hr : r < 34 := by rw [← (h.at' j t b hj hb).size]; exact (Array.getElem?_eq_some_iff.1 hz').1
    rw [World.cell?_setCell_other _ _ _ _ (fun e => hji (by injection e with _ h _; omega))]
    exact h.cellAt hb hz'

theorem ints_form {w : World} {lo hi : Nat} {v : Value} {zs : List Int} (h : IntsAt w lo hi v zs) : ∃ a n c, v = .slice a n c := by
  obtain ⟨a, c, e, _⟩ := h
  exact ⟨_, _, _, e⟩

theorem StepArg.one_set {arr : Array Value} (h : arr.all (·.oneCell') = true) (f : Nat) {u : Value} (hu : u.oneCell' = true) : (arr.setIfInBounds f u).all (·.oneCell') = true := by
  rw [Array.all_eq_true_iff_forall_mem] at h ⊢
  intro x hx
  obtain ⟨i, hi⟩ := Array.mem_iff_getElem?.1 hx
  rw [Array.getElem?_setIfInBounds] at hi
  split at hi
  · split at hi
    · cases hi; exact hu
    · cases hi
  · exact h x (Array.mem_iff_getElem?.2 ⟨i, hi⟩)
theorem StepArg.set0 {w : World} {s : StepV} {arr : Array Value} (h : StepArg w s arr) (n : Int) : StepArg w { s with dk := n } (arr.setIfInBounds 0 (.int .i64 n)) := by
  obtain ⟨h1, h2, h3, h4, h5, h6, sv, h7, h8⟩ := h
  exact ⟨by simpa using h1, StepArg.one_set h2 0 rfl, by simp [h1], by simpa using h4, by simpa using h5, by simpa using h6, sv, by simpa using h7, h8⟩
theorem StepArg.set1 {w : World} {s : StepV} {arr : Array Value} (h : StepArg w s arr) (n : Int) : StepArg w { s with fr := n } (arr.setIfInBounds 1 (.int .i64 n)) := by
  obtain ⟨h1, h2, h3, h4, h5, h6, sv, h7, h8⟩ := h
  exact ⟨by simpa using h1, StepArg.one_set h2 1 rfl, by simpa using h3, by simp [h1], by simpa using h5, by simpa using h6, sv, by simpa using h7, h8⟩
theorem StepArg.set2 {w : World} {s : StepV} {arr : Array Value} (h : StepArg w s arr) (n : Int) : StepArg w { s with til := n } (arr.setIfInBounds 2 (.int .i64 n)) := by
  obtain ⟨h1, h2, h3, h4, h5, h6, sv, h7, h8⟩ := h
  exact ⟨by simpa using h1, StepArg.one_set h2 2 rfl, by simpa using h3, by simpa using h4, by simp [h1], by simpa using h6, sv, by simpa using h7, h8⟩
theorem StepArg.set4 {w : World} {s : StepV} {arr : Array Value} (h : StepArg w s arr) (n : Int) : StepArg w { s with n := n } (arr.setIfInBounds 4 (.int .i64 n)) := by
  obtain ⟨h1, h2, h3, h4, h5, h6, sv, h7, h8⟩ := h
  exact ⟨by simpa using h1, StepArg.one_set h2 4 rfl, by simpa using h3, by simpa using h4, by simpa using h5, by simp [h1], sv, by simpa using h7, h8⟩
theorem StepArg.set5 {w : World} {s : StepV} {arr : Array Value} (h : StepArg w s arr) {v : Value} {zs : List Int} (hv : ArgInts w v zs) : StepArg w { s with set := zs } (arr.setIfInBounds 5 v) := by
  obtain ⟨h1, h2, h3, h4, h5, h6, sv, h7, h8⟩ := h
  exact ⟨by simpa using h1, StepArg.one_set h2 5 (by obtain ⟨a, c, rfl, _⟩ := hv; rfl), by simpa using h3, by simpa using h4, by simpa using h5, by simpa using h6, v, by simp [h1], hv⟩

set_option maxRecDepth 100000 in
set_option maxHeartbeats 4000000 in
theorem checks_walk (w : World) (a0 : Option Addr) (n0 cap0 : Nat) (ss : List StepV) (h0 : StepsArg w (.slice a0 n0 cap0) ss) (v1 : Value) (zs : List Int) (h1 : ArgInts w v1 zs) (at_ how n : Int) (hat : (Lit.int .i64 at_).wf = true) (hhow : (Lit.int .i64 how).wf = true) (hn : (Lit.int .i64 n).wf = true) (v5 : Value) (set : List Int) (h5 : ArgInts w v5 set) :
    Calls Try.prog 8 #[.slice a0 n0 cap0, v1, .int .i64 at_, .int .i64 how, .int .i64 n, v5] w fun e w' => e = .returned (.bool true) ∧ Below w.heap.size w w' := by
  obtain ⟨i0, hi0, hz0, hz1, hz2⟩ := info_parts stepInfo3
  have hl0 : n0 = ss.length ∧ n0 ≤ cap0 ∧ cap0 ≤ 9223372036854775807 := by
    obtain ⟨a', c', he, q2, q3, _⟩ := id h0
    simp at he
    obtain ⟨rfl, rfl, rfl⟩ := he
    exact ⟨rfl, q2, q3⟩
  obtain ⟨m, m2, m3, m4, m5⟩ : ∃ m : Nat, m ≤ n0 ∧ m ≤ 5 ∧ (if (5 : Int) < (n0 : Int) then (5 : Int) else (n0 : Int)) = (m : Int) ∧ m = (ss.take 5).length := ⟨min n0 5, by omega, by omega, by split <;> omega, by rw [List.length_take, ← hl0.1]; omega⟩
  have hsl := run_slice_pre (P := Try.prog) 41 38 i0 Try.underlying41 hi0 a0 n0 cap0 m (by omega)
  have hb0 : n0 ≤ 9223372036854775807 := by omega
  obtain ⟨arrs, al, as_, an, ac, ao⟩ := h0.cells m2
  obtain ⟨news, hnews⟩ : ∃ news, news = arrs.flatMap Array.toList := ⟨_, rfl⟩
  have HNews := Lib.hid hnews
  have HC : Hid (∀ W, Keeps (fun _ => False) w W → ∀ j u, news[j]? = some u → ∃ x, a0 = some x ∧ W.cell? (x.add j) = some u) := Lib.hid (fun W hW j u hu => by
    rw [hnews] at hu
    obtain ⟨x, hx, hc⟩ := ac j u hu
    exact ⟨x, hx, by rw [hW.cell (World.block_lt_of_cell? _ _ hc) (fun h => h)]; exact hc⟩)
  have HAN : Hid (news.length = m * 34) := Lib.hid (by rw [hnews]; exact an)
  have HAO : Hid (∀ u ∈ news, u.oneCell' = true) := Lib.hid (by rw [hnews]; exact ao)
  have HAS := Lib.hid as_
  have HAL := Lib.hid al
  have HC4 : Hid (0 + m ≤ maxLen) := Lib.hid (by unfold maxLen; omega)
  have HC5 : Hid ((0 + m) * 408 ≤ 140737488355328) := Lib.hid (by omega)
  have H0 := Lib.hid h0
  have H1 := Lib.hid h1
  have H5 := Lib.hid h5
  have Hat := Lib.hid hat
  have Hhow := Lib.hid hhow
  have Hn := Lib.hid hn
  have Hz0 := Lib.hid hz0
  have Hz1 := Lib.hid hz1
  have Hz2 := Lib.hid hz2
  have Hi0 := Lib.hid hi0
  have M5 := Lib.hid m5
  have HL0 := Lib.hid hl0
  clear h0 h1 h5 hat hhow hn hz0 hz1 hz2 hi0 m5 hl0 as_ al an ac ao hnews
  go_enter Try.func8, Try.ntmps8
  go_upto_region 2 with (first | (refine wpL_buildNone rfl rfl ?_; intro w1 O1 K1 S1; have HO1 := Lib.hid O1; have HK1 := Lib.hid K1; have HS1 := Lib.hid S1; clear O1 K1 S1) | (at_builtin; (refine wpL_append0 rfl (.tmp 16) (.tmp 21) 41 rfl w.heap.size 38 i0 (.agg (stepMk 0 0 0 0 (.slice none 0 0))) 34 408 Try.underlying41 Hi0.out Hz0.out Hz1.out Hz2.out rfl (Nat.succ_pos _) (.slice (some ⟨w.heap.size, 0, none⟩) 0 0) 0 [] rfl HO1.out a0 m cap0 news rfl HAN.out (HC.out w1 HK1.out) HAO.out HC4.out HC5.out HK1.out.size ?_); intro vf w2 O2 G2; have HO2 := Lib.hid O2; have HG2 := Lib.hid G2; clear O2 G2))
  have HB2 : Hid (Below w.heap.size w w2) := Lib.hid ((HK1.out.toBelow (Nat.le_refl _) (fun _ _ h => h)).grown HG2.out HK1.out.size (fun k hk => by simp [Value.ownBlock] at hk; omega))
  have HF : Hid (StepsArg w2 vf (ss.take 5)) := Lib.hid (by
    refine StepsArg.ofOwn (arrs := arrs) (n := 0 + m) (by rw [← HNews.out]; exact HO2.out) (by rw [Nat.zero_add]; exact M5.out) (by rw [HAL.out]; exact M5.out) (fun i s arr hs ha => ?_)
    obtain ⟨s', q1, q2⟩ := HAS.out i arr ha
    rw [List.getElem?_take] at hs
    split at hs
    · have e := q1.symm.trans hs
      cases e
      exact q2.below HB2.out
    · cases hs)
  have H1b : Hid (ArgInts w2 v1 zs) := Lib.hid (H1.out.below HB2.out)
  clear HO2 HG2 HC HAN HAO HAS HAL HC4 HC5 HO1 HK1 HS1 M5 HNews hsl m4 H1
  go_wp2_with fail
  refine (steps_own w2 v1 zs H1b.out).mono ?_
  rintro e w3 ⟨vm, arr3, rfl, hG, hB⟩
  obtain ⟨C, hCC⟩ : ∃ C, C = checkOf (ss.take 5) := ⟨_, rfl⟩
  have HCC := Lib.hid hCC
  have hlen3 := stepsOf_len zs
  obtain ⟨am, cm, hvm⟩ := own_form hG.own
  have HVM := Lib.hid hvm
  rw [hvm] at hG ⊢
  have HG := Lib.hid hG
  have HB3 := Lib.hid hB
  have HF3 : Hid (StepsArg w3 vf (ss.take 5)) := Lib.hid (HF.out.below HB3.out)
  have HM3 : Hid (StepsArg w3 (.slice am (stepsOf zs).length cm) (stepsOf zs)) := Lib.hid (StepsArg.of HG.out.steps)
  have HBW3 : Hid (Below w.heap.size w w3) := Lib.hid (HB2.out.trans (HB3.out.mono HB2.out.size))
  have HH5 : Hid (ArgInts w3 v5 set) := Lib.hid (H5.out.below HBW3.out)
  have HW2 : Hid (w.heap.size ≤ w2.heap.size) := Lib.hid HB2.out.size
  clear hG hB hvm hCC HF H1b HB2 HB3 H5
  obtain ⟨sl, hsl⟩ : ∃ sl, sl = stepsOf zs := ⟨_, rfl⟩
  have HZ : Hid (checkOf sl = 0) := Lib.hid (by rw [hsl]; exact check_stepsOf zs)
  rw [← hsl] at HG HM3 hlen3 ⊢
  clear hsl HVM
  go_upto_region 5 with (first | (go_at_call 21; (with_reducible refine (lcheck_any w3 (.slice am sl.length cm) sl HM3.out).mono ?_); rw [HZ.out]; rintro e w4 ⟨rfl, hB⟩; have HB4 := Lib.hid hB; clear hB) | (go_at_call 21; (with_reducible refine (lcheck_any w4 vf (ss.take 5) (HF3.out.below HB4.out)).mono ?_); rw [← HCC.out]; rintro e w5 ⟨rfl, hB⟩; have HB5 := Lib.hid hB; clear hB) | (go_at_call 22; refine (rcheck_any w5 vf (ss.take 5) (HF3.out.below (HB4.out.trans (HB5.out.mono HB4.out.size)))).mono ?_; rw [← HCC.out]; rintro e w6 ⟨rfl, hB⟩; have HB6 := Lib.hid hB; clear hB))
  have HBW6 : Hid (Below w.heap.size w w6) := Lib.hid (((HBW3.out.trans (HB4.out.mono HBW3.out.size)).trans (HB5.out.mono (Nat.le_trans HBW3.out.size HB4.out.size))).trans (HB6.out.mono (Nat.le_trans (Nat.le_trans HBW3.out.size HB4.out.size) HB5.out.size)))
  have HB36 : Hid (Below w3.heap.size w3 w6) := Lib.hid ((HB4.out.trans (HB5.out.mono HB4.out.size)).trans (HB6.out.mono (Nat.le_trans HB4.out.size HB5.out.size)))
  have HG6 : Hid (Gathered w6 w2.heap.size (Value.slice am sl.length cm) sl arr3) := Lib.hid (HG.out.below HB36.out)
  have HM6 : Hid (StepsArg w6 (.slice am sl.length cm) sl) := Lib.hid (HM3.out.below HB36.out)
  have HH6 : Hid (ArgInts w6 v5 set) := Lib.hid (HH5.out.below HB36.out)
  clear HB4 HB5 HB6 HF3 HBW3 HG HM3 HB36 HH5
  by_cases hpos : 0 < sl.length
  · obtain ⟨g, hg⟩ : ∃ g, am = some ⟨g, 0, none⟩ := by
      rcases HG6.out.own.2 with ⟨_, h0⟩ | ⟨g, cap, cur, hv, _⟩
      · omega
      · simp only [Value.slice.injEq] at hv
        exact ⟨g, hv.1⟩
    subst hg
    obtain ⟨q, hq⟩ : ∃ q, q = around how 5 := ⟨_, rfl⟩
    have hq0 := around_lo how 5 (by omega)
    have hq1 := around_hi how 5 (by omega)
    rw [← hq] at hq0 hq1
    obtain ⟨k, hk⟩ : ∃ k : Nat, (k : Int) = around at_ sl.length := ⟨(around at_ sl.length).toNat, Int.toNat_of_nonneg (around_lo _ _ (by omega))⟩
    have hk1 : k < sl.length := by have := around_hi at_ sl.length (by omega); omega
    have HA1 : Hid (Calls Try.prog 9 #[.int .i64 at_, .int .i64 sl.length] w6 fun e w' => e = .returned (.int .i64 k) ∧ w6 = w') := Lib.hid (by rw [hk]; exact around_any at_ sl.length w6 Hat.out (by omega) (by omega))
    have HA2 : Hid (Calls Try.prog 9 #[.int .i64 how, .int .i64 5] w6 fun e w' => e = .returned (.int .i64 q) ∧ w6 = w') := Lib.hid (by rw [hq]; exact around_any how 5 w6 Hhow.out (by omega) (by omega))
    clear hk hq
    have hq5 : q = 0 ∨ q = 1 ∨ q = 2 ∨ q = 3 ∨ q = 4 := by omega
    clear hq0 hq1
    obtain ⟨s, hs⟩ : ∃ s, sl[k]? = some s := ⟨_, List.getElem?_eq_getElem hk1⟩
    obtain ⟨arr, harr⟩ : ∃ arr, arr3[k]? = some arr := ⟨_, List.getElem?_eq_getElem (by rw [HG6.out.len]; exact hk1)⟩
    have hA := HG6.out.at' k s arr hs harr
    have HFZ : Hid (∀ i, w6.frozen? ⟨g, i, none⟩ = false) := Lib.hid (fun i => by
      rcases HG6.out.own.2 with ⟨h, _⟩ | ⟨g', cap, cur, hv, _, hg, _⟩
      · simp at h
      · simp at hv
        obtain ⟨rfl, _⟩ := hv
        exact frozen_of_row w6 g i _ _ hg)
    have HGB : Hid (w.heap.size ≤ g) := Lib.hid (by
      rcases HG6.out.own.2 with ⟨h, _⟩ | ⟨g', cap, cur, hv, hb, hg, _⟩
      · simp at h
      · simp at hv
        obtain ⟨rfl, _⟩ := hv
        exact Nat.le_trans HW2.out hb)
    have HGS : Hid (g < w6.heap.size) := Lib.hid (World.block_lt_of_cell? _ _ (HG6.out.cellAt harr hA.dk))
    have HSS := Lib.hid hs
    have HAR := Lib.hid harr
    have HAA := Lib.hid hA
    clear hs harr hA
    rcases hq5 with rfl | rfl | rfl | rfl | rfl
    · have hcell : w6.cell? ⟨g, k * 34 + 1, none⟩ = some (.int .i64 s.fr) := HG6.out.cellAt HAR.out HAA.out.fr
      have hfz : w6.frozen? ⟨g, k * 34 + 1, none⟩ = false := HFZ.out _
      go_upto_region 17 with (first | (go_at_call 9; (with_reducible refine HA1.out.mono ?_); rintro e w' ⟨rfl, rfl⟩) | (go_at_call 9; (with_reducible refine HA2.out.mono ?_); rintro e w' ⟨rfl, rfl⟩))
      have HS : Hid (StepsArg (w6.setCell ⟨g, k * 34 + 1, none⟩ (.int .i64 n)) (.slice (some ⟨g, 0, none⟩) sl.length cm) (sl.set k { s with fr := n })) := Lib.hid (HG6.out.put (f := 1) HSS.out HAR.out (by omega) (fun h => h.set1 n))
      have HBE : Hid (Below w.heap.size w (w6.setCell ⟨g, k * 34 + 1, none⟩ (.int .i64 n))) := Lib.hid (HBW6.out.setCell (p := ⟨g, k * 34 + 1, none⟩) HGB.out _)
      clear hcell hfz HA1 HA2
      generalize w6.setCell ⟨g, k * 34 + 1, none⟩ (.int .i64 n) = wE at HS HBE ⊢
      go_wp2_with (first | (go_at_call 21; refine (lcheck_any wE (.slice (some ⟨g, 0, none⟩) sl.length cm) _ HS.out).mono ?_; rintro e x1 ⟨rfl, hB⟩; have HX1 := Lib.hid hB; clear hB) | (go_at_call 22; refine (rcheck_any x1 (.slice (some ⟨g, 0, none⟩) sl.length cm) _ (HS.out.below HX1.out)).mono ?_; rintro e x2 ⟨rfl, hB⟩; have HX2 := Lib.hid hB; clear hB) | (go_at_call 12; refine (lives_any x2).mono ?_; rintro e x3 ⟨rfl, hB⟩; have HX3 := Lib.hid hB; clear hB))
      go_ret
      exact ⟨rfl, ((HBE.out.trans (HX1.out.mono HBE.out.size)).trans (HX2.out.mono (Nat.le_trans HBE.out.size HX1.out.size))).trans (HX3.out.mono (Nat.le_trans (Nat.le_trans HBE.out.size HX1.out.size) HX2.out.size))⟩
    · have hcell : w6.cell? ⟨g, k * 34 + 2, none⟩ = some (.int .i64 s.til) := HG6.out.cellAt HAR.out HAA.out.til
      have hfz : w6.frozen? ⟨g, k * 34 + 2, none⟩ = false := HFZ.out _
      go_upto_region 17 with (first | (go_at_call 9; (with_reducible refine HA1.out.mono ?_); rintro e w' ⟨rfl, rfl⟩) | (go_at_call 9; (with_reducible refine HA2.out.mono ?_); rintro e w' ⟨rfl, rfl⟩))
      have HS : Hid (StepsArg (w6.setCell ⟨g, k * 34 + 2, none⟩ (.int .i64 n)) (.slice (some ⟨g, 0, none⟩) sl.length cm) (sl.set k { s with til := n })) := Lib.hid (HG6.out.put (f := 2) HSS.out HAR.out (by omega) (fun h => h.set2 n))
      have HBE : Hid (Below w.heap.size w (w6.setCell ⟨g, k * 34 + 2, none⟩ (.int .i64 n))) := Lib.hid (HBW6.out.setCell (p := ⟨g, k * 34 + 2, none⟩) HGB.out _)
      clear hcell hfz HA1 HA2
      generalize w6.setCell ⟨g, k * 34 + 2, none⟩ (.int .i64 n) = wE at HS HBE ⊢
      go_wp2_with (first | (go_at_call 21; refine (lcheck_any wE (.slice (some ⟨g, 0, none⟩) sl.length cm) _ HS.out).mono ?_; rintro e x1 ⟨rfl, hB⟩; have HX1 := Lib.hid hB; clear hB) | (go_at_call 22; refine (rcheck_any x1 (.slice (some ⟨g, 0, none⟩) sl.length cm) _ (HS.out.below HX1.out)).mono ?_; rintro e x2 ⟨rfl, hB⟩; have HX2 := Lib.hid hB; clear hB) | (go_at_call 12; refine (lives_any x2).mono ?_; rintro e x3 ⟨rfl, hB⟩; have HX3 := Lib.hid hB; clear hB))
      go_ret
      exact ⟨rfl, ((HBE.out.trans (HX1.out.mono HBE.out.size)).trans (HX2.out.mono (Nat.le_trans HBE.out.size HX1.out.size))).trans (HX3.out.mono (Nat.le_trans (Nat.le_trans HBE.out.size HX1.out.size) HX2.out.size))⟩
    · have hcell : w6.cell? ⟨g, k * 34 + 4, none⟩ = some (.int .i64 s.n) := HG6.out.cellAt HAR.out HAA.out.n
      have hfz : w6.frozen? ⟨g, k * 34 + 4, none⟩ = false := HFZ.out _
      go_upto_region 17 with (first | (go_at_call 9; (with_reducible refine HA1.out.mono ?_); rintro e w' ⟨rfl, rfl⟩) | (go_at_call 9; (with_reducible refine HA2.out.mono ?_); rintro e w' ⟨rfl, rfl⟩))
      have HS : Hid (StepsArg (w6.setCell ⟨g, k * 34 + 4, none⟩ (.int .i64 n)) (.slice (some ⟨g, 0, none⟩) sl.length cm) (sl.set k { s with n := n })) := Lib.hid (HG6.out.put (f := 4) HSS.out HAR.out (by omega) (fun h => h.set4 n))
      have HBE : Hid (Below w.heap.size w (w6.setCell ⟨g, k * 34 + 4, none⟩ (.int .i64 n))) := Lib.hid (HBW6.out.setCell (p := ⟨g, k * 34 + 4, none⟩) HGB.out _)
      clear hcell hfz HA1 HA2
      generalize w6.setCell ⟨g, k * 34 + 4, none⟩ (.int .i64 n) = wE at HS HBE ⊢
      go_wp2_with (first | (go_at_call 21; refine (lcheck_any wE (.slice (some ⟨g, 0, none⟩) sl.length cm) _ HS.out).mono ?_; rintro e x1 ⟨rfl, hB⟩; have HX1 := Lib.hid hB; clear hB) | (go_at_call 22; refine (rcheck_any x1 (.slice (some ⟨g, 0, none⟩) sl.length cm) _ (HS.out.below HX1.out)).mono ?_; rintro e x2 ⟨rfl, hB⟩; have HX2 := Lib.hid hB; clear hB) | (go_at_call 12; refine (lives_any x2).mono ?_; rintro e x3 ⟨rfl, hB⟩; have HX3 := Lib.hid hB; clear hB))
      go_ret
      exact ⟨rfl, ((HBE.out.trans (HX1.out.mono HBE.out.size)).trans (HX2.out.mono (Nat.le_trans HBE.out.size HX1.out.size))).trans (HX3.out.mono (Nat.le_trans (Nat.le_trans HBE.out.size HX1.out.size) HX2.out.size))⟩
    · obtain ⟨sv, hsv, _⟩ := HAA.out.set
      go_upto_region 17 with (first | (go_at_call 9; (with_reducible refine HA1.out.mono ?_); rintro e w' ⟨rfl, rfl⟩) | (go_at_call 9; (with_reducible refine HA2.out.mono ?_); rintro e w' ⟨rfl, rfl⟩) | (go_at_call 23; refine (ints_any w6 v5 set HH6.out).mono ?_; rintro e w7 ⟨v', rfl, hI, hB⟩; have HB7 := Lib.hid hB; obtain ⟨av, nv, cv, hv'⟩ := ints_form hI; subst hv'; have HI := Lib.hid hI; have hcell : w7.cell? ⟨g, k * 34 + 5, none⟩ = some sv := (hB.cell (p := ⟨g, k * 34 + 5, none⟩) HGS.out).trans (HG6.out.cellAt HAR.out hsv); have hfz : w7.frozen? ⟨g, k * 34 + 5, none⟩ = false := (hB.frozen (p := ⟨g, k * 34 + 5, none⟩) HGS.out).trans (HFZ.out _); clear hI hB))
      have HS : Hid (StepsArg (w7.setCell ⟨g, k * 34 + 5, none⟩ (.slice av nv cv)) (.slice (some ⟨g, 0, none⟩) sl.length cm) (sl.set k { s with set := set.take 14 })) := Lib.hid ((HG6.out.below HB7.out).put (f := 5) HSS.out HAR.out (by omega) (fun h => h.set5 (ArgInts.of (HI.out.keeps ((Keeps.refl (fun b => b = g) w7).setCell (p := ⟨g, k * 34 + 5, none⟩) (fun _ => rfl) _) (fun b h1 h2 e => by have := HGS.out; omega)))))
      have HBE : Hid (Below w.heap.size w (w7.setCell ⟨g, k * 34 + 5, none⟩ (.slice av nv cv))) := Lib.hid ((HBW6.out.trans (HB7.out.mono HBW6.out.size)).setCell (p := ⟨g, k * 34 + 5, none⟩) HGB.out _)
      clear hcell hfz HA1 HA2
      generalize w7.setCell ⟨g, k * 34 + 5, none⟩ (.slice av nv cv) = wE at HS HBE ⊢
      go_wp2_with (first | (go_at_call 21; refine (lcheck_any wE (.slice (some ⟨g, 0, none⟩) sl.length cm) _ HS.out).mono ?_; rintro e x1 ⟨rfl, hB⟩; have HX1 := Lib.hid hB; clear hB) | (go_at_call 22; refine (rcheck_any x1 (.slice (some ⟨g, 0, none⟩) sl.length cm) _ (HS.out.below HX1.out)).mono ?_; rintro e x2 ⟨rfl, hB⟩; have HX2 := Lib.hid hB; clear hB) | (go_at_call 12; refine (lives_any x2).mono ?_; rintro e x3 ⟨rfl, hB⟩; have HX3 := Lib.hid hB; clear hB))
      go_ret
      exact ⟨rfl, ((HBE.out.trans (HX1.out.mono HBE.out.size)).trans (HX2.out.mono (Nat.le_trans HBE.out.size HX1.out.size))).trans (HX3.out.mono (Nat.le_trans (Nat.le_trans HBE.out.size HX1.out.size) HX2.out.size))⟩
    · have hcell : w6.cell? ⟨g, k * 34, none⟩ = some (.int .i64 s.dk) := by
        have h := HG6.out.cellAt (r := 0) HAR.out HAA.out.dk
        rwa [Nat.add_zero] at h
      have hfz : w6.frozen? ⟨g, k * 34, none⟩ = false := HFZ.out _
      go_upto_region 17 with (first | (go_at_call 9; (with_reducible refine HA1.out.mono ?_); rintro e w' ⟨rfl, rfl⟩) | (go_at_call 9; (with_reducible refine HA2.out.mono ?_); rintro e w' ⟨rfl, rfl⟩))
      have HS : Hid (StepsArg (w6.setCell ⟨g, k * 34, none⟩ (.int .i64 n)) (.slice (some ⟨g, 0, none⟩) sl.length cm) (sl.set k { s with dk := n })) := Lib.hid (by
        have h := HG6.out.put (f := 0) (s' := { s with dk := n }) (u := .int .i64 n) HSS.out HAR.out (by omega) (fun h => h.set0 n)
        rwa [Nat.add_zero] at h)
      have HBE : Hid (Below w.heap.size w (w6.setCell ⟨g, k * 34, none⟩ (.int .i64 n))) := Lib.hid (HBW6.out.setCell (p := ⟨g, k * 34, none⟩) HGB.out _)
      clear hcell hfz HA1 HA2
      generalize w6.setCell ⟨g, k * 34, none⟩ (.int .i64 n) = wE at HS HBE ⊢
      go_wp2_with (first | (go_at_call 21; refine (lcheck_any wE (.slice (some ⟨g, 0, none⟩) sl.length cm) _ HS.out).mono ?_; rintro e x1 ⟨rfl, hB⟩; have HX1 := Lib.hid hB; clear hB) | (go_at_call 22; refine (rcheck_any x1 (.slice (some ⟨g, 0, none⟩) sl.length cm) _ (HS.out.below HX1.out)).mono ?_; rintro e x2 ⟨rfl, hB⟩; have HX2 := Lib.hid hB; clear hB) | (go_at_call 12; refine (lives_any x2).mono ?_; rintro e x3 ⟨rfl, hB⟩; have HX3 := Lib.hid hB; clear hB))
      go_ret
      exact ⟨rfl, ((HBE.out.trans (HX1.out.mono HBE.out.size)).trans (HX2.out.mono (Nat.le_trans HBE.out.size HX1.out.size))).trans (HX3.out.mono (Nat.le_trans (Nat.le_trans HBE.out.size HX1.out.size) HX2.out.size))⟩
  · have hd : decide (0 < sl.length) = false := decide_eq_false hpos
    clear hpos
    go_wp2_with (first | (go_at_call 21; refine (lcheck_any w6 (.slice am sl.length cm) sl HM6.out).mono ?_; rintro e x1 ⟨rfl, hB⟩; have HX1 := Lib.hid hB; clear hB) | (go_at_call 22; refine (rcheck_any x1 (.slice am sl.length cm) sl (HM6.out.below HX1.out)).mono ?_; rintro e x2 ⟨rfl, hB⟩; have HX2 := Lib.hid hB; clear hB) | (go_at_call 12; refine (lives_any x2).mono ?_; rintro e x3 ⟨rfl, hB⟩; have HX3 := Lib.hid hB; clear hB))
    go_ret
    exact ⟨rfl, ((HBW6.out.trans (HX1.out.mono HBW6.out.size)).trans (HX2.out.mono (Nat.le_trans HBW6.out.size HX1.out.size))).trans (HX3.out.mono (Nat.le_trans (Nat.le_trans HBW6.out.size HX1.out.size) HX2.out.size))⟩
end Go.Proofs.Ytmgjccalpdlbbaa
