/- How one line of faults is wrong: the package's and the reference's, by one contract. -/
import Derived.Test.YtmgjccalpdlbbaaNew
import Derived.Test.YtmgjccalpdlbbaaLMet
import Derived.Maps.OwnSet
namespace Go.Proofs.Ytmgjccalpdlbbaa
open Go.RowKit
set_option linter.unusedVariables false

theorem SetAt.len {P : Program} {kT eT mT : TypeId} {w : World} {b : Nat} {S : Int → Bool} {size : Nat} (h : SetAt P kT eT w b S size) (ht : P.underlying mT = some (.map kT eT)) (ty : TypeId) :
    ∃ n : Nat, (Builtin.len_ #[mT] ty #[.map (some b)]).run P w = .ok (.int .i64 n) w ∧ n ≤ size ∧ ∀ x, (Lit.int .i64 x).wf = true → S x = true → 0 < n := by
  obtain ⟨n, D, hns, h, hS⟩ := h
  refine ⟨Maps.size D, h.len ht ty, ?_, fun x hx hs => ?_⟩
  · obtain ⟨es, clock, hb, F, he, rfl⟩ := h
    have e1 : Maps.size (DataW.map (H := Unit) ((es.toList.map (Go.WideElems.rg P kT (plainElem P eT))).foldr DataW.insert [])) = es.size := by simp [Maps.size, length_sorted]
    omega
  · rcases Nat.eq_zero_or_pos (Maps.size D) with h0 | h0
    · obtain ⟨es, clock, hb, F, he, rfl⟩ := h
      have := hS x hx
      have hn : ((es.toList.map (Go.WideElems.rg P kT (plainElem (H := Unit) P eT))).foldr DataW.insert []) = [] := List.eq_nil_of_length_eq_zero h0
      rw [hn, hs] at this
      simp [DataW.atKey] at this
    · exact h0

def badAt (set : List Int) (i : Nat) : Bool := match set[i]? with | none => false | some z => decide (z < 1 ∨ 12 < z ∨ z ∈ set.take i)
def badSet (set : List Int) : Bool := set.isEmpty || (List.range set.length).any (badAt set)
/-- How a line is wrong. -/
def wrongOf (s : StepV) : Int :=
  if isFault s = false then 0 else if s.fr < 0 ∨ s.til ≤ s.fr ∨ 200 < s.til then 8
  else if s.dk = 3 then (if badSet s.set = true then 17 else 0) else (if s.n < 1 ∨ 1000 < s.n then 1 else 0)
theorem badSet_hit {set : List Int} {i : Nat} (h : i < set.length) (hb : badAt set i = true) : badSet set = true := by
  unfold badSet
  have : (List.range set.length).any (badAt set) = true := List.any_eq_true.2 ⟨i, List.mem_range.2 h, hb⟩
  simp [this]
theorem badSet_fine {set : List Int} (h : set ≠ []) (hb : ∀ i, i < set.length → badAt set i = false) : badSet set = false := by
  unfold badSet
  have h1 : (List.range set.length).any (badAt set) = false := by
    rw [List.any_eq_false]
    intro x hx
    simp [hb x (List.mem_range.1 hx)]
  rw [h1]
  cases set with
  | nil => exact absurd rfl h
  | cons a r => rfl
theorem badAt_of {set : List Int} {i : Nat} {z : Int} (h : set[i]? = some z) : badAt set i = decide (z < 1 ∨ 12 < z ∨ z ∈ set.take i) := by
  unfold badAt; rw [h]

def LWRel (W : World) (m : Nat) (zs : List Int) (i : Value) (wi : World) : Prop :=
  ∃ j : Nat, j ≤ zs.length ∧ i = .int .i64 j ∧ SetAt Try.prog 3 4 wi m (fun x => decide (x ∈ zs.take j)) j ∧ Keeps (fun b => b = m) W wi ∧ ∀ q, q < j → badAt zs q = false

set_option maxRecDepth 100000 in
set_option maxHeartbeats 1000000 in
theorem lwrong_cut (w : World) (lo hi : Nat) (arr : Array Value) (s : StepV) (h : StepArr w lo hi s arr) (h3 : s.dk = 3) (hr : ¬ (s.fr < 0 ∨ s.til ≤ s.fr ∨ 200 < s.til)) (V : Int) (hV : V = if badSet s.set = true then 17 else 0) :
    Calls Try.prog 28 #[.agg arr] w fun e w' => e = .returned (.int .i64 V) ∧ Below w.heap.size w w' := by
  have hdk := h.dk
  have hfr := h.fr
  have htil := h.til
  obtain ⟨sv, hsv, hset⟩ := h.set
  rw [h3] at hdk
  obtain ⟨r1, r2, r3⟩ : ¬ s.fr < 0 ∧ ¬ s.til ≤ s.fr ∧ ¬ 200 < s.til := by omega
  obtain ⟨sa, caps, rfl, p2, p3, p4, p5, p6⟩ := hset
  obtain ⟨dk, fr, til, n, set⟩ := s
  simp only at *
  have HV := Lib.hid hV
  have P4 := Lib.hid p4
  have P6 := Lib.hid p6
  have hl63 : set.length ≤ 9223372036854775807 := by omega
  have hmm := @run_makeMap Try.prog
  clear h p4 p5 p6 hr h3 hV
  go_enter Try.func28, Try.ntmps28
  go_wp2
  have HW : Hid (SetAt Try.prog 3 4 ((w.alloc (.cells arr 38)).alloc (.map #[] 0)) (w.heap.size + 1) (fun _ => false) 0) := Lib.hid (by have := SetAt.made (P := Try.prog) (kT := 3) (eT := 4) (w.alloc (.cells arr 38)); simpa using this)
  have HKW : Hid (Keeps (fun _ => False) w ((w.alloc (.cells arr 38)).alloc (.map #[] 0))) := Lib.hid (((Keeps.refl _ w).alloc _).alloc _)
  have hWs : ((w.alloc (.cells arr 38)).alloc (.map #[] 0)).heap.size = w.heap.size + 2 := by simp
  generalize (w.alloc (.cells arr 38)).alloc (.map #[] 0) = W at HW HKW hWs ⊢
  have HWs := Lib.hid hWs
  clear hWs hdk hfr htil hsv hmm r1 r2 r3
  go_loopw [42] (LWRel W (w.heap.size + 1) set) (fun i _ => set.length - (intOf i).toNat)
  case atStart => exact ⟨0, Nat.zero_le _, rfl, by simpa using HW.out, Keeps.refl _ _, fun q hq => absurd hq (Nat.not_lt_zero q)⟩
  case round =>
    obtain ⟨j, hj, rfl, hSet, hKi, hbad⟩ := hrel
    have HSet := Lib.hid hSet
    have HKi := Lib.hid hKi
    have Hbad := Lib.hid hbad
    clear hSet hKi hbad
    by_cases hjl : j < set.length
    · obtain ⟨x, hx⟩ : ∃ x, set[j]? = some x := ⟨_, List.getElem?_eq_getElem hjl⟩
      obtain ⟨g2, o2, rfl, hcx⟩ := P6.out j x hx
      have hg2 : g2 < w.heap.size := World.block_lt_of_cell? _ _ hcx
      have cx : wr.cell? ⟨g2, o2 + j, none⟩ = some (.int .i64 x) := by
        rw [HKi.out.cell (p := ⟨g2, o2 + j, none⟩) (by have := HWs.out; show g2 < _; omega) (by show ¬ g2 = _; omega), HKW.out.cell (p := ⟨g2, o2 + j, none⟩) hg2 (fun x => x)]
        exact hcx
      have HX := Lib.hid hx
      have Hwf := Lib.hid (P4.out x (List.mem_of_getElem? hx))
      have HB := Lib.hid (badAt_of hx)
      have HBel : Hid (Below w.heap.size w wr) := Lib.hid ((HKW.out.mono (S' := fun b => b = w.heap.size + 1) (fun _ _ x => x.elim)).trans HKi.out |>.toBelow (Nat.le_refl _) (fun b hb e => by omega))
      clear hcx hx
      by_cases hx1 : x < 1
      · have HE : Hid (V = 17) := Lib.hid (by rw [HV.out, if_pos]; exact badSet_hit hjl (by rw [HB.out]; exact decide_eq_true (.inl hx1)))
        go_wp2
        go_ret
        exact ⟨by rw [HE.out]; rfl, HBel.out⟩
      by_cases hx2 : 12 < x
      · have HE : Hid (V = 17) := Lib.hid (by rw [HV.out, if_pos]; exact badSet_hit hjl (by rw [HB.out]; exact decide_eq_true (.inr (.inl hx2))))
        go_wp2
        go_ret
        exact ⟨by rw [HE.out]; rfl, HBel.out⟩
      have hlook := HSet.out.look Try.underlying3 Try.underlying4 Try.underlying64 zeroBool x Hwf.out
      by_cases hx3 : x ∈ set.take j
      · have HE : Hid (V = 17) := Lib.hid (by rw [HV.out, if_pos]; exact badSet_hit hjl (by rw [HB.out]; exact decide_eq_true (.inr (.inr hx3))))
        rw [show decide (x ∈ set.take j) = true from decide_eq_true hx3] at hlook
        clear hx3
        go_wp2
        go_ret
        exact ⟨by rw [HE.out]; rfl, HBel.out⟩
      · rw [show decide (x ∈ set.take j) = false from decide_eq_false hx3] at hlook
        obtain ⟨w', hrun, hset', hgrow, hsize'⟩ := HSet.out.update2 Try.underlying3 Try.underlying4 Try.underlying64 (by unfold maxLen; omega) x Hwf.out true
        have HSet' := Lib.hid hset'
        have HGrow := Lib.hid hgrow
        have HF : Hid (badAt set j = false) := Lib.hid (by rw [HB.out]; exact decide_eq_false (fun h => by rcases h with h | h | h; exact hx1 h; exact hx2 h; exact hx3 h))
        clear hset' hgrow hsize' hx3
        go_wp2
        go_roundw
        case rel =>
          refine ⟨j + 1, hjl, rfl, ?_, HKi.out.grown HGrow.out (fun b hb _ => (Option.some.inj hb).symm), fun q hq => ?_⟩
          · obtain ⟨_, rfl⟩ := List.getElem?_eq_some_iff.1 HX.out
            have e : (fun y => decide (y ∈ set.take (j + 1))) = (fun y => if y = set[j] then true else decide (y ∈ set.take j)) := by
              funext y
              exact dec_take hjl y
            rw [e]
            exact HSet'.out
          · rcases Nat.lt_or_ge q j with h | h
            · exact Hbad.out q h
            · obtain rfl : q = j := by omega
              exact HF.out
        case measure => simp [intOf]; omega
    · obtain rfl : j = set.length := by omega
      have HBel : Hid (Below w.heap.size w wr) := Lib.hid ((HKW.out.mono (S' := fun b => b = w.heap.size + 1) (fun _ _ x => x.elim)).trans HKi.out |>.toBelow (Nat.le_refl _) (fun b hb e => by omega))
      obtain ⟨n0, hlen, hle, hpos⟩ := HSet.out.len Try.underlying64 3
      by_cases he : set = []
      · have HE : Hid (V = 17) := Lib.hid (by rw [HV.out, if_pos]; rw [he]; rfl)
        obtain rfl : n0 = 0 := by rw [he] at hle; simpa using hle
        clear he hpos hle
        go_wp2
        go_ret
        exact ⟨by rw [HE.out]; rfl, HBel.out⟩
      · have HE : Hid (V = 0) := Lib.hid (by rw [HV.out, if_neg]; rw [badSet_fine he Hbad.out]; simp)
        obtain ⟨x, r, hxr⟩ := List.exists_cons_of_ne_nil he
        have hn0 : 0 < n0 := hpos x (P4.out x (by rw [hxr]; simp)) (by rw [List.take_length]; exact decide_eq_true (by rw [hxr]; simp))
        have hn1 : ((n0 : Int) == 0) = false := by simp; omega
        clear he hpos hle hxr hn0
        go_wp2
        go_ret
        exact ⟨by rw [HE.out]; rfl, HBel.out⟩

/-- The field cells of a line, its numbers. -/
structure Nums (arr : Array Value) (dk fr til n : Int) : Prop where
  dk : arr[0]? = some (.int .i64 dk)
  fr : arr[1]? = some (.int .i64 fr)
  til : arr[2]? = some (.int .i64 til)
  n : arr[4]? = some (.int .i64 n)

set_option maxRecDepth 100000 in
set_option maxHeartbeats 1000000 in
theorem lwrong_none (w : World) (arr : Array Value) (dk : Int) (h0 : arr[0]? = some (.int .i64 dk)) (h3 : ¬ dk = 3) (h4 : ¬ dk = 4) (h5 : ¬ dk = 5) :
    Calls Try.prog 28 #[.agg arr] w fun e w' => e = .returned (.int .i64 0) ∧ Below w.heap.size w w' := by
  have e3 : (dk == 3) = false := by simpa using h3
  have e4 : (dk == 4) = false := by simpa using h4
  have e5 : (dk == 5) = false := by simpa using h5
  clear h3 h4 h5
  go_enter Try.func28, Try.ntmps28
  go_wp2
  go_ret
  exact ⟨rfl, (Below.refl _ _).alloc (Nat.le_refl _) _⟩

set_option maxRecDepth 100000 in
set_option maxHeartbeats 1000000 in
theorem lwrong_range (w : World) (arr : Array Value) (dk fr til n : Int) (h : Nums arr dk fr til n) (hd : dk = 3 ∨ dk = 4 ∨ dk = 5) (hr : fr < 0 ∨ til ≤ fr ∨ 200 < til) :
    Calls Try.prog 28 #[.agg arr] w fun e w' => e = .returned (.int .i64 8) ∧ Below w.heap.size w w' := by
  obtain ⟨h0, h1, h2, h4⟩ := h
  clear h4
  by_cases r1 : fr < 0
  · clear hr
    rcases hd with rfl | rfl | rfl <;>
    · go_enter Try.func28, Try.ntmps28
      go_wp2
      go_ret
      exact ⟨rfl, (Below.refl _ _).alloc (Nat.le_refl _) _⟩
  by_cases r2 : til ≤ fr
  · clear hr
    rcases hd with rfl | rfl | rfl <;>
    · go_enter Try.func28, Try.ntmps28
      go_wp2
      go_ret
      exact ⟨rfl, (Below.refl _ _).alloc (Nat.le_refl _) _⟩
  have r3 : 200 < til := by omega
  clear hr
  rcases hd with rfl | rfl | rfl <;>
  · go_enter Try.func28, Try.ntmps28
    go_wp2
    go_ret
    exact ⟨rfl, (Below.refl _ _).alloc (Nat.le_refl _) _⟩

set_option maxRecDepth 100000 in
set_option maxHeartbeats 1000000 in
theorem lwrong_num (w : World) (arr : Array Value) (dk fr til n : Int) (h : Nums arr dk fr til n) (hd : dk = 4 ∨ dk = 5) (hr : ¬ (fr < 0 ∨ til ≤ fr ∨ 200 < til)) (V : Int) (hV : V = if n < 1 ∨ 1000 < n then 1 else 0) :
    Calls Try.prog 28 #[.agg arr] w fun e w' => e = .returned (.int .i64 V) ∧ Below w.heap.size w w' := by
  obtain ⟨h0, h1, h2, h4⟩ := h
  obtain ⟨r1, r2, r3⟩ : ¬ fr < 0 ∧ ¬ til ≤ fr ∧ ¬ 200 < til := by omega
  clear hr
  by_cases q1 : n < 1
  · obtain rfl : V = 1 := by rw [hV, if_pos (.inl q1)]
    clear hV
    rcases hd with rfl | rfl <;>
    · go_enter Try.func28, Try.ntmps28
      go_wp2
      go_ret
      exact ⟨rfl, (Below.refl _ _).alloc (Nat.le_refl _) _⟩
  by_cases q2 : 1000 < n
  · obtain rfl : V = 1 := by rw [hV, if_pos (.inr q2)]
    clear hV
    rcases hd with rfl | rfl <;>
    · go_enter Try.func28, Try.ntmps28
      go_wp2
      go_ret
      exact ⟨rfl, (Below.refl _ _).alloc (Nat.le_refl _) _⟩
  obtain rfl : V = 0 := by rw [hV, if_neg (by omega)]
  clear hV
  rcases hd with rfl | rfl <;>
  · go_enter Try.func28, Try.ntmps28
    go_wp2
    go_ret
    exact ⟨rfl, (Below.refl _ _).alloc (Nat.le_refl _) _⟩

theorem lwrong_any (w : World) (lo hi : Nat) (arr : Array Value) (s : StepV) (h : StepArr w lo hi s arr) :
    Calls Try.prog 28 #[.agg arr] w fun e w' => e = .returned (.int .i64 (wrongOf s)) ∧ Below w.heap.size w w' := by
  have hn : Nums arr s.dk s.fr s.til s.n := ⟨h.dk, h.fr, h.til, h.n⟩
  by_cases hf : s.dk = 3 ∨ s.dk = 4 ∨ s.dk = 5
  · have hF : ¬ isFault s = false := by simp [isFault, hf]
    by_cases hr : s.fr < 0 ∨ s.til ≤ s.fr ∨ 200 < s.til
    · have e : wrongOf s = 8 := by unfold wrongOf; rw [if_neg hF, if_pos hr]
      rw [e]
      exact lwrong_range w arr _ _ _ _ hn hf hr
    · by_cases h3 : s.dk = 3
      · refine lwrong_cut w lo hi arr s h h3 hr _ ?_
        unfold wrongOf
        rw [if_neg hF, if_neg hr, if_pos h3]
      · refine lwrong_num w arr _ _ _ _ hn (by omega) hr _ ?_
        unfold wrongOf
        rw [if_neg hF, if_neg hr, if_neg h3]
  · have e : wrongOf s = 0 := by unfold wrongOf; rw [if_pos (by simp [isFault]; omega)]
    rw [e]
    exact lwrong_none w arr _ h.dk (by omega) (by omega) (by omega)
end Go.Proofs.Ytmgjccalpdlbbaa
