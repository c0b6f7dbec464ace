/- An argument that is a slice of lines, opened: each line's numbers, and its set. -/
import Derived.Test.YtmgjccalpdlbbaaInts
import Derived.Deep.Slices
import Derived.Deep.Fields
import Derived.ChangeSame
import Derived.OpenShut
namespace Go.Proofs.Ytmgjccalpdlbbaa
open Go.RowKit Go.ChangeShapes Go.WideShapes Go.Deep
set_option linter.unusedVariables false

theorem list_of {α : Type} (p : Nat → α → Prop) : ∀ n : Nat, (∀ i, i < n → ∃ a, p i a) → ∃ l : List α, l.length = n ∧ ∀ i a, l[i]? = some a → p i a
  | 0, _ => ⟨[], rfl, by simp⟩
  | n + 1, h => by
    obtain ⟨l, hl, hp⟩ := list_of p n (fun i hi => h i (by omega))
    obtain ⟨a, ha⟩ := h n (by omega)
    refine ⟨l ++ [a], by simp [hl], fun i b hb => ?_⟩
    rcases Nat.lt_or_ge i l.length with hlt | hge
    · rw [List.getElem?_append_left hlt] at hb
      exact hp i b hb
    · have hi : i = l.length := by have := (List.getElem?_eq_some_iff.1 hb).1; simp at this; omega
      subst hi
      simp at hb
      subst hb
      rw [hl]
      exact ha

section
variable {H : Type} {enc : TypeId × Value → H} {P : Program} {w : World} {base : Nat} {spare : Nat → Bool} {held : Bool}
/-- A type whose cells are each a field's own, no array among them. -/
def flatOK (P : Program) : Nat → TypeId → Bool
  | 0, _ => false
  | n + 1, t =>
    match P.underlying t with
    | some (.struct fs) => (List.range (P.cellsOf t)).all fun j => fs.toList.any fun f => decide (f.offset ≤ j) && decide (j < f.offset + P.cellsOf f.type) && flatOK P n f.type
    | some (.array _ _) => false
    | none => false
    | some _ => true

theorem trod_flat : ∀ (n : Nat) (t : TypeId) (fuel : Nat) (cs : List Value) (x : DataW H × List MemPlace), flatOK P n t = true → DataW.trod enc P w base spare held fuel t cs = some x → ∀ (j : Nat) (v : Value), cs[j]? = some v → v.oneCell' = true
  | 0, t, fuel, cs, x, h, _ => by simp [flatOK] at h
  | n + 1, t, fuel, cs, x, h, ht => by
    intro j v hj
    unfold flatOK at h
    cases hu : P.underlying t with
    | none => rw [hu] at h; simp at h
    | some d =>
      rw [hu] at h
      cases d with
      | struct fs =>
        obtain ⟨xs, m, _, _, hl, hlen, hf⟩ := DataW.trod_struct hu ht
        simp only at h
        have hjl : j < cs.length := (List.getElem?_eq_some_iff.1 hj).1
        have h1 := List.all_eq_true.1 h j (List.mem_range.2 (by omega))
        obtain ⟨f, hfm, h2⟩ := List.any_eq_true.1 h1
        simp only [Bool.and_eq_true, decide_eq_true_eq] at h2
        obtain ⟨⟨h3, h4⟩, h5⟩ := h2
        obtain ⟨i, hi⟩ := List.mem_iff_getElem?.1 hfm
        have hi' : fs[i]? = some f := by simpa using hi
        have h6 := hf i f hi'
        have hil : i < fs.size := (Array.getElem?_eq_some_iff.1 hi').1
        rw [List.getElem?_eq_getElem (by omega)] at h6
        refine trod_flat n f.type m _ _ h5 h6 (j - f.offset) v ?_
        rw [List.getElem?_take, if_pos (by omega), List.getElem?_drop, ← hj]
        congr 1
        omega
      | array _ _ => simp at h
      | _ =>
        cases fuel with
        | zero => simp [DataW.trod] at ht
        | succ m =>
          unfold DataW.trod at ht
          rw [hu] at ht
          simp only at ht
          first
            | (cases ht; done)
            | (split at ht <;> first
                | (cases ht; done)
                | (have hq := ‹some (_ : TypeDesc) = some _›; cases hq; done)
                | (have hj0 : j = 0 := by have := (List.getElem?_eq_some_iff.1 hj).1; simp at this; omega
                   subst hj0
                   simp at hj
                   subst hj
                   rfl))

end

section
variable {H : Type} {enc : TypeId × Value → H} {w : World}
theorem stepFlat : flatOK Try.prog 5 38 = true := by kernel_rfl
theorem stepCells : Try.prog.cellsOf 38 = 34 := by kernel_rfl
theorem intCells : Try.prog.cellsOf 3 = 1 := by kernel_rfl
theorem intsCells : Try.prog.cellsOf 23 = 1 := by kernel_rfl

theorem field_one {fs : Array Field} {n : Nat} {cs : List Value} {xs : List (DataW H × List MemPlace)} (hf : ∀ (i : Nat) (f : Field), fs[i]? = some f → DataW.trod enc Try.prog w 0 (fun _ => true) true n f.type ((cs.drop f.offset).take (Try.prog.cellsOf f.type)) = xs[i]?)
    (hlen : xs.length = fs.size) (hl : cs.length = 34) {i : Nat} {f : Field} (hi : fs[i]? = some f) (h1 : Try.prog.cellsOf f.type = 1) (ho : f.offset < 34) : ∃ v x, cs[f.offset]? = some v ∧ DataW.trod enc Try.prog w 0 (fun _ => true) true n f.type [v] = some x := by
  have h := hf i f hi
  have hil : i < fs.size := (Array.getElem?_eq_some_iff.1 hi).1
  rw [List.getElem?_eq_getElem (by omega), h1, List.drop_eq_getElem_cons (by omega)] at h
  exact ⟨cs[f.offset], _, List.getElem?_eq_getElem (by omega), h⟩

theorem set_open {n : Nat} {v : Value} {x : DataW H × List MemPlace} (h : DataW.trod enc Try.prog w 0 (fun _ => true) true n 23 [v] = some x) : ∃ zs, ArgInts w v zs := by
  rcases open_ints Try.underlying23 Try.underlying3 intCells h with ⟨hcs, _⟩ | ⟨a, l, c, zs, hcs, _, hl, hm, hz, _, hcell, hwz⟩
  · simp at hcs
    subst hcs
    exact ⟨[], ArgInts.row (len := 0) (zs := []) (.inl ⟨rfl, rfl, rfl, rfl⟩)⟩
  · simp at hcs
    subst hcs
    exact ⟨_, ArgInts.row (len := l) (cap := c) (zs := zs) (.inr ⟨a, rfl, hl, hm, by simpa using hz, hcell, hwz⟩)⟩

theorem step_open {fuel : Nat} {cs : List Value} {x : DataW H × List MemPlace} (h : DataW.trod enc Try.prog w 0 (fun _ => true) true fuel 38 cs = some x) : ∃ s, StepArg w s cs.toArray := by
  have h1 := trod_flat 5 38 fuel cs x stepFlat h
  obtain ⟨xs, n, _, _, hl, hlen, hf⟩ := DataW.trod_struct Try.underlying38 h
  rw [stepCells] at hl
  obtain ⟨v0, x0, c0, t0⟩ := field_one hf hlen hl (i := 0) rfl intCells (by decide)
  obtain ⟨v1, x1, c1, t1⟩ := field_one hf hlen hl (i := 1) rfl intCells (by decide)
  obtain ⟨v2, x2, c2, t2⟩ := field_one hf hlen hl (i := 2) rfl intCells (by decide)
  obtain ⟨v4, x4, c4, t4⟩ := field_one hf hlen hl (i := 4) rfl intCells (by decide)
  obtain ⟨v5, x5, c5, t5⟩ := field_one hf hlen hl (i := 5) rfl intsCells (by decide)
  obtain ⟨n0, e0, _⟩ := DataW.trod_int Try.underlying3 t0
  obtain ⟨n1, e1, _⟩ := DataW.trod_int Try.underlying3 t1
  obtain ⟨n2, e2, _⟩ := DataW.trod_int Try.underlying3 t2
  obtain ⟨n4, e4, _⟩ := DataW.trod_int Try.underlying3 t4
  obtain ⟨zs, hz⟩ := set_open t5
  simp only [List.cons.injEq, and_true] at e0 e1 e2 e4
  subst e0 e1 e2 e4
  refine ⟨⟨n0, n1, n2, n4, zs⟩, ⟨by simpa using hl, ?_, by simpa using c0, by simpa using c1, by simpa using c2, by simpa using c4, v5, by simpa using c5, hz⟩⟩
  refine Array.all_eq_true_iff_forall_mem.2 fun u hu => ?_
  obtain ⟨j, hj⟩ := List.mem_iff_getElem?.1 (by simpa using hu : u ∈ cs)
  exact h1 j u hj

theorem steps_open {fuel : Nat} {v : Value} {x : DataW H × List MemPlace} (h : DataW.trod enc Try.prog w 0 (fun _ => true) true fuel 41 [v] = some x) : ∃ ss, StepsArg w v ss ∧ ∀ n c, v = .slice none n c → c = 0 := by
  rcases open_slice Try.underlying41 h with ⟨hcs, _⟩ | ⟨a, l, c, m, n, D, Pl, hcs, _, hl, hm, hmm, _, hi⟩
  · simp at hcs
    subst hcs
    exact ⟨[], ⟨none, 0, rfl, Nat.le_refl _, by omega, by simp⟩, fun n c e => by simp at e; exact e.2.symm⟩
  · simp at hcs
    subst hcs
    simp only [if_true] at hmm
    obtain rfl : c = m := hmm.symm
    obtain ⟨ss, hsl, hss⟩ := list_of (fun i s => ∃ arr, StepArg w s arr ∧ ∀ j u, arr.toList[j]? = some u → w.cell? (a.add (i * 34 + j)) = some u) l (fun i hil => by
      obtain ⟨cs', hc, ht⟩ := hi i (by omega)
      rw [stepCells] at hc
      obtain ⟨s, hs⟩ := step_open ht
      obtain ⟨_, hcl, hat⟩ := World.cells?_some hc
      refine ⟨s, cs'.toArray, hs, fun j u hu => ?_⟩
      have hu' : cs'[j]? = some u := by simpa using hu
      have hj : j < 34 := by have := (List.getElem?_eq_some_iff.1 hu').1; omega
      rw [← Go.Deep.add_add, hat j hj, hu'])
    refine ⟨ss, ⟨some a, c, by rw [hsl], by omega, by unfold maxLen at hm; omega, fun i s hs => ?_⟩, fun n c e => by simp at e⟩
    obtain ⟨arr, ha, hcell⟩ := hss i s hs
    have hsp : a.spot = none := by
      have hil := (List.getElem?_eq_some_iff.1 hs).1
      obtain ⟨arr0, ha0, hc0⟩ := hss 0 _ (List.getElem?_eq_getElem (by omega))
      have h0 := hc0 0 _ (by simpa using ha0.dk)
      simpa [Addr.add] using World.cell?_spot h0
    obtain ⟨b, o, sp⟩ := a
    simp only at hsp
    subst hsp
    refine ⟨b, o, arr, rfl, fun j u hu => ?_, ha⟩
    have := hcell j u hu
    rwa [add_plain, ← Nat.add_assoc] at this
end
end Go.Proofs.Ytmgjccalpdlbbaa
