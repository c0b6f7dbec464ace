/- Plain laws of links: what a link tells, after some rounds, is what the reference reckons from the rounds. No program in sight. -/
import Derived.Test.YtmgjccalpdlbbaaNew
import Derived.Test.YtmgjccalpdlbbaaOver
import Derived.Test.YtmgjccalpdlbbaaLMet
import Derived.Test.YtmgjccalpdlbbaaRMet
import Derived.Test.YtmgjccalpdlbbaaROver
import Derived.Test.YtmgjccalpdlbbaaRounds
namespace Go.Proofs.Ytmgjccalpdlbbaa
open Go.RowKit
set_option linter.unusedVariables false

/-- A fault behind some rounds in which something went over. -/
def after (ahead : List Int) (f : Flt) : Flt := ahead.foldl (fun f r => f.tick r) f
def passed (f : Flt) (ahead : List Int) : Nat := (ahead.filter fun x => f.there x).length

theorem tick_there (r x : Int) (f : Flt) : (f.tick r).there x = f.there x := by unfold Flt.tick; split <;> rfl
theorem after_eq : ∀ (ahead : List Int) (f : Flt), after ahead f = { f with count := f.count + if f.dk = 3 then 0 else (passed f ahead : Int) }
  | [], f => by simp [after, passed]
  | r :: rest, f => by
    have ih := after_eq rest (f.tick r)
    have e : after (r :: rest) f = after rest (f.tick r) := rfl
    rw [e, ih]
    unfold Flt.tick Flt.counts passed
    by_cases h3 : f.dk = 3
    · simp [h3]
    · by_cases ht : f.there r = true
      · have e2 : (fun x => Flt.there { dk := f.dk, fr := f.fr, til := f.til, each := f.each, set := f.set, count := f.count + 1 } x) = fun x => f.there x := by funext x; rfl
        simp [h3, ht]
        simp only [e2]
        omega
      · have ht' : f.there r = false := by simpa using ht
        simp [h3, ht']
theorem after_snoc (ahead : List Int) (r : Int) (f : Flt) : after (ahead ++ [r]) f = (after ahead f).tick r := by simp [after]
theorem map_after_snoc (ahead : List Int) (r : Int) (fs : List Flt) : fs.map (after (ahead ++ [r])) = (fs.map (after ahead)).map (Flt.tick r) := by
  rw [List.map_map]
  congr 1
  funext f
  exact after_snoc ahead r f
theorem after_nil (fs : List Flt) : fs.map (after []) = fs := by
  have : after [] = id := rfl
  rw [this]; simp

theorem toFlt_cases (s : StepV) : (s.dk = 3 ∧ toFlt s = some { dk := 3, fr := s.fr, til := s.til, each := 0, set := fun d => decide (d ∈ s.set), count := 0 }) ∨
    ((s.dk = 4 ∨ s.dk = 5) ∧ s.dk ≠ 3 ∧ toFlt s = some { dk := s.dk, fr := s.fr, til := s.til, each := s.n, set := fun _ => false, count := 0 }) ∨
    (s.dk ≠ 3 ∧ s.dk ≠ 4 ∧ s.dk ≠ 5 ∧ toFlt s = none) := by
  unfold toFlt
  by_cases h3 : s.dk = 3
  · exact .inl ⟨h3, by simp [h3]⟩
  · by_cases h4 : s.dk = 4 ∨ s.dk = 5
    · exact .inr (.inl ⟨h4, h3, by simp [h3, h4]⟩)
    · exact .inr (.inr ⟨h3, fun e => h4 (.inl e), fun e => h4 (.inr e), by simp [h3, h4]⟩)

theorem any_newOf (g : Flt → Bool) (k : StepV → Bool) (h : ∀ s, (match toFlt s with | some f => g f | none => false) = k s) (ss : List StepV) : (newOf ss).any g = ss.any k := by
  induction ss with
  | nil => rfl
  | cons s r ih =>
    have hs := h s
    unfold newOf at ih ⊢
    cases ht : toFlt s with
    | none => rw [ht] at hs; rw [List.filterMap_cons_none ht, ih]; simp [← hs]
    | some f => rw [ht] at hs; rw [List.filterMap_cons_some ht]; simp only [List.any_cons]; rw [ih, ← hs]

theorem hit_eq (ahead : List Int) (r : Int) (s : StepV) : (match toFlt s with | some f => (after ahead f).hit r | none => false) = hitS ahead r s := by
  rcases toFlt_cases s with ⟨h3, e⟩ | ⟨h4, h3, e⟩ | ⟨h3, h4, h5, e⟩
  · rw [e]
    simp [after_eq, Flt.hit, Flt.counts, hitS, countsS, h3]
  · rw [e]
    have hp : passed { dk := s.dk, fr := s.fr, til := s.til, each := s.n, set := fun _ => false, count := 0 } ahead = (ahead.filter fun x => thereS x s).length := rfl
    have hc : (0 : Int) + ((ahead.filter fun x => thereS x s).length : Int) + 1 = countIn s ahead := by unfold countIn; omega
    have hd : decide (s.dk = 4 ∨ s.dk = 5) = true := decide_eq_true h4
    simp only [after_eq, Flt.hit, Flt.counts, hitS, countsS, hp, hd, if_neg h3, hc]
    simp [h3, Flt.there, thereS]
  · rw [e]
    simp [hitS, countsS, h4, h5]
theorem dk_after (ahead : List Int) (f : Flt) : (after ahead f).dk = f.dk := by rw [after_eq]
theorem lose_eq (ahead : List Int) (r : Int) (s : StepV) : (match toFlt s with | some f => Flt.lose r (after ahead f) | none => false) = loseS ahead r s := by
  have h := hit_eq ahead r s
  unfold loseS
  rw [← h]
  rcases toFlt_cases s with ⟨h3, e⟩ | ⟨h4, h3, e⟩ | ⟨h3, h4, h5, e⟩ <;> rw [e] <;> simp [Flt.lose, dk_after, *]
theorem twice_eq (ahead : List Int) (r : Int) (s : StepV) : (match toFlt s with | some f => Flt.twice r (after ahead f) | none => false) = twiceS ahead r s := by
  have h := hit_eq ahead r s
  unfold twiceS
  rw [← h]
  rcases toFlt_cases s with ⟨h3, e⟩ | ⟨h4, h3, e⟩ | ⟨h3, h4, h5, e⟩ <;> rw [e] <;> simp [Flt.twice, dk_after, *]

/-- What comes is the document's. -/
theorem over_eq (ss : List StepV) (ahead : List Int) (r : Int) : overVal ((newOf ss).map (after ahead)) r = overOf ss ahead r := by
  unfold overVal overOf
  rw [List.any_map, List.any_map, any_newOf (Flt.lose r ∘ after ahead) _ (lose_eq ahead r), any_newOf (Flt.twice r ∘ after ahead) _ (twice_eq ahead r)]

theorem cuts_eq (ahead : List Int) (r d : Int) (s : StepV) : (match toFlt s with | some f => lcuts r d (after ahead f) | none => false) = cutsOff r d s := by
  rcases toFlt_cases s with ⟨h3, e⟩ | ⟨h4, h3, e⟩ | ⟨h3, h4, h5, e⟩
  · rw [e]
    simp [after_eq, lcuts, cutsOff, Flt.there, h3]
  · rw [e]
    simp [after_eq, lcuts, cutsOff, h3]
  · rw [e]
    simp [cutsOff, h3]
theorem met_eq (ss : List StepV) (ahead : List Int) (r d : Int) : lmetOf ((newOf ss).map (after ahead)) r d = metOf ss r d := by
  unfold lmetOf metOf
  rw [List.any_map, any_newOf (lcuts r d ∘ after ahead) _ (cuts_eq ahead r d)]

theorem fold_newOf (ahead : List Int) : ∀ (ss : List StepV) (b : Int), ((newOf ss).map (after ahead)).foldl (fun m f => max m f.til) b = ss.foldl (fun m s => if isFault s then max m s.til else m) b
  | [], b => rfl
  | s :: r, b => by
    have ih := fold_newOf ahead r
    unfold newOf at ih ⊢
    rcases toFlt_cases s with ⟨h3, e⟩ | ⟨h4, h3, e⟩ | ⟨h3, h4, h5, e⟩
    · rw [List.filterMap_cons_some e]
      simp only [List.map_cons, List.foldl_cons]
      rw [ih]
      simp [isFault, h3, after_eq]
    · rw [List.filterMap_cons_some e]
      simp only [List.map_cons, List.foldl_cons]
      rw [ih]
      have : isFault s = true := by unfold isFault; exact decide_eq_true (.inr h4)
      simp [this, after_eq]
    · rw [List.filterMap_cons_none e, ih]
      have : isFault s = false := by simp [isFault, h3, h4, h5]
      simp [this]
theorem quiet_eq (ss : List StepV) (ahead : List Int) : lquietOf ((newOf ss).map (after ahead)) = quietOf ss := fold_newOf ahead ss 0

/-- None has counted more than went over. -/
theorem count_bd (ss : List StepV) (ahead : List Int) : ∀ f ∈ (newOf ss).map (after ahead), f.count ≤ ahead.length := by
  intro f hf
  obtain ⟨f0, h0, rfl⟩ := List.mem_map.1 hf
  unfold newOf at h0
  obtain ⟨s, _, hs⟩ := List.mem_filterMap.1 h0
  have hc : f0.count = 0 := by
    rcases toFlt_cases s with ⟨h3, e⟩ | ⟨h4, h3, e⟩ | ⟨h3, h4, h5, e⟩ <;> rw [e] at hs <;> simp at hs <;> subst hs <;> rfl
  rw [after_eq, hc]
  have := List.length_filter_le (fun x => f0.there x) ahead
  simp only [passed]
  split <;> omega
end Go.Proofs.Ytmgjccalpdlbbaa
