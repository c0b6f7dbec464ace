/- A machine of values over the model, second part: objects that are written, moved, forgotten. -/
import Derived.Test.YtfnglmepfjaimaaGreatDoorGA
namespace Go.Proofs.YtfnglmepfjaimaaGreatDoor
open Go.RowKit
set_option linter.unusedVariables false

/-- An object is forgotten: its block is nobody's from now on. -/
theorem RelB.kill {P : Program} {cx : Cx} {st : St} {a : Act} {w : World} {β : Bm} (h : RelB P cx st a w β) (k : Nat) : RelB P cx { st with σ := (k, none) :: st.σ } a w β := by
  have hg : ∀ i o, sget ((k, none) :: st.σ) i = some o → sget st.σ i = some o := by
    intro i o ho
    rw [sget_cons] at ho
    split at ho
    · cases ho
    · exact ho
  have hS : ∀ b', b' < w.heap.size → Av cx.S0 β ((k, none) :: st.σ) b' → Av cx.S0 β st.σ b' := by
    rintro b' _ (hx | ⟨i, o, D, ho, hx⟩)
    · exact .inl hx
    · exact .inr ⟨i, o, D, hg i o ho, hx⟩
  exact { h with
    fr := fun i => (h.fr i).step (fun _ _ x => x) hS (Keeps.refl _ _)
    ob := fun i o ho => (h.ob i o (hg i o ho)).step (fun _ _ x => x) hS (Keeps.refl _ _) (fun _ _ _ => rfl)
    inj := fun i j o o' b C D hi hj => h.inj i j o o' b C D (hg i o hi) (hg j o' hj)
    glob := fun g l hl => (h.glob g l hl).sub hS
    own := fun i o b C hi => h.own i o b C (hg i o hi)
    sep := fun i o b C hi => h.sep i o b C (hg i o hi) }

/-- A row that has no block yet, or a number that is kept. -/
theorem RelB.virtX {P : Program} {cx : Cx} {st : St} {a : Act} {w : World} {β : Bm} (h : RelB P cx st a w β) (t : TypeId) {x0 : Option Xob} (hx0 : x0 = none ∨ x0 = some .resv) {k : Nat} (hkc : st.c ≤ k) :
    RelB P cx { st with σ := (k, some ⟨t, [], x0⟩) :: st.σ, c := k + 1 } a w (fun i => if i = k then some none else β i) := by
  have hβ : ∀ i x, β i = some x → (fun i => if i = k then some none else β i) i = some x := by
    intro i x hx
    have : i ≠ k := fun e => by rw [e, h.fresh k hkc] at hx; cases hx
    simp [this, hx]
  have hg : ∀ (i : Nat) o b C, sget ((k, some ⟨t, [], x0⟩) :: st.σ) i = some o → (if i = k then some none else β i) = some (some (b, C)) → i ≠ k ∧ sget st.σ i = some o ∧ β i = some (some (b, C)) := by
    intro i o b C ho hb
    rw [sget_cons] at ho
    by_cases e : i = k
    · rw [if_pos e] at hb; cases hb
    · rw [if_neg e] at hb
      rw [if_neg (fun x => e x.symm)] at ho
      exact ⟨e, ho, hb⟩
  have hS : ∀ b', b' < w.heap.size → Av cx.S0 (fun i => if i = k then some none else β i) ((k, some ⟨t, [], x0⟩) :: st.σ) b' → Av cx.S0 β st.σ b' := by
    rintro b' _ (hx | ⟨i, o, D, ho, hx⟩)
    · exact .inl hx
    · obtain ⟨_, h1, h2⟩ := hg i o b' D ho hx
      exact .inr ⟨i, o, D, h1, h2⟩
  exact {
    size := h.size
    defers := h.defers
    loose := h.loose
    rnd := h.rnd
    fr := fun i => (h.fr i).step hβ hS (Keeps.refl _ _)
    ob := fun i o ho => by
      have ho' : sget ((k, some ⟨t, [], x0⟩) :: st.σ) i = some o := ho
      rw [sget_cons] at ho'
      by_cases e : k = i
      · subst e
        rw [if_pos rfl] at ho'
        cases ho'
        exact .inl ⟨by simp, rfl, hx0⟩
      · rw [if_neg e] at ho'
        exact (h.ob i o ho').step hβ hS (Keeps.refl _ _) (fun _ _ _ => rfl)
    inj := fun i j o o' b C D hi hj hbi hbj => by
      obtain ⟨_, h1, h2⟩ := hg i o b C hi hbi
      obtain ⟨_, h3, h4⟩ := hg j o' b D hj hbj
      exact h.inj i j o o' b C D h1 h3 h2 h4
    own := fun i o b C hi hbi => by
      obtain ⟨_, h1, h2⟩ := hg i o b C hi hbi
      exact h.own i o b C h1 h2
    sep := fun i o b C hi hbi => by
      obtain ⟨_, h1, h2⟩ := hg i o b C hi hbi
      exact h.sep i o b C h1 h2
    fresh := fun i hi => by
      have hi' : k + 1 ≤ i := hi
      have e : i ≠ k := by omega
      simp only [e, if_false]
      exact h.fresh i (by omega)
    glob := fun g l hl => (h.glob g l hl).sub hS
    keep := h.keep
    old := h.old
    pin := fun i x hx => ⟨(h.pin i x hx).1, hβ i x (h.pin i x hx).2⟩ }

/-- A row that has no block yet. -/
theorem RelB.virt {P : Program} {cx : Cx} {st : St} {a : Act} {w : World} {β : Bm} (h : RelB P cx st a w β) (t : TypeId) {k : Nat} (hkc : st.c ≤ k) :
    RelB P cx { st with σ := (k, some ⟨t, [], none⟩) :: st.σ, c := k + 1 } a w (fun i => if i = k then some none else β i) := h.virtX t (.inl rfl) hkc

/-- An object gets a new number; what names the elder one serves no more. -/
theorem RelB.move {P : Program} {cx : Cx} {st : St} {a : Act} {w : World} {β : Bm} (h : RelB P cx st a w β) {i k : Nat} {ob : Ob} (ho : sget st.σ i = some ob) (hkc : st.c ≤ k) :
    RelB P cx { st with σ := (k, some ob) :: (i, none) :: st.σ, c := k + 1 } a w (fun j => if j = k then β i else β j) := by
  have hik : i ≠ k := by
    intro e
    have h1 := h.fresh k hkc
    rcases (h.ob i ob ho).at with h2 | ⟨b, C, o', h2, _⟩ <;> rw [e, h1] at h2 <;> cases h2
  have hβ : ∀ j x, β j = some x → (fun j => if j = k then β i else β j) j = some x := by
    intro j x hx
    have : j ≠ k := fun e => by rw [e, h.fresh k hkc] at hx; cases hx
    simp [this, hx]
  have hg : ∀ (j : Nat) o b C, sget ((k, some ob) :: (i, none) :: st.σ) j = some o → (if j = k then β i else β j) = some (some (b, C)) → sget st.σ (if j = k then i else j) = some o ∧ β (if j = k then i else j) = some (some (b, C)) ∧ j ≠ i := by
    intro j o b C hj hb
    rw [sget_cons] at hj
    by_cases e : j = k
    · subst e
      rw [if_pos rfl] at hj hb ⊢
      cases hj
      exact ⟨ho, hb, fun x => hik x.symm⟩
    · rw [if_neg e] at hb ⊢
      rw [if_neg (fun x => e x.symm), sget_cons] at hj
      split at hj
      · cases hj
      · exact ⟨hj, hb, fun x => by rename_i h'; exact h' x.symm⟩
  have hS : ∀ b', b' < w.heap.size → Av cx.S0 (fun j => if j = k then β i else β j) ((k, some ob) :: (i, none) :: st.σ) b' → Av cx.S0 β st.σ b' := by
    rintro b' _ (hx | ⟨j, o, D, hj, hx⟩)
    · exact .inl hx
    · obtain ⟨h1, h2, _⟩ := hg j o b' D hj hx
      exact .inr ⟨_, o, D, h1, h2⟩
  exact {
    size := h.size
    defers := h.defers
    loose := h.loose
    rnd := h.rnd
    fr := fun j => (h.fr j).step hβ hS (Keeps.refl _ _)
    ob := fun j o hj => by
      have hj' : sget ((k, some ob) :: (i, none) :: st.σ) j = some o := hj
      rw [sget_cons] at hj'
      by_cases e : k = j
      · subst e
        rw [if_pos rfl] at hj'
        cases hj'
        have := (h.ob i ob ho).step hβ hS (Keeps.refl _ _) (fun _ _ _ => rfl)
        rcases this with ⟨h1, h2⟩ | ⟨b, x, o, h1, h2, h3, hrest⟩ | ⟨b, C, cur, hx, h1, hrest⟩
        · exact .inl ⟨by simpa [hik] using h1, h2⟩
        · exact .inr (.inl ⟨b, x, o, h1, h2, by simpa [hik] using h3, hrest⟩)
        · exact .inr (.inr ⟨b, C, cur, hx, by simpa [hik] using h1, hrest⟩)
      · rw [if_neg e, sget_cons] at hj'
        split at hj'
        · cases hj'
        · exact (h.ob j o hj').step hβ hS (Keeps.refl _ _) (fun _ _ _ => rfl)
    inj := fun x y o o' b C D hx hy hbx hby => by
      obtain ⟨h1, h2, h3⟩ := hg x o b C hx hbx
      obtain ⟨h4, h5, h6⟩ := hg y o' b D hy hby
      have := h.inj _ _ o o' b C D h1 h4 h2 h5
      split at this <;> split at this
      · simp_all
      · exact absurd this.symm h6
      · exact absurd this h3
      · exact this
    own := fun x o b C hx hbx => by
      obtain ⟨h1, h2, _⟩ := hg x o b C hx hbx
      exact h.own _ o b C h1 h2
    sep := fun x o b C hx hbx => by
      obtain ⟨h1, h2, _⟩ := hg x o b C hx hbx
      exact h.sep _ o b C h1 h2
    fresh := fun x hx => by
      have hx' : k + 1 ≤ x := hx
      have e : x ≠ k := by omega
      simp only [e, if_false]
      exact h.fresh x (by omega)
    glob := fun g l hl => (h.glob g l hl).sub hS
    keep := h.keep
    old := h.old
    pin := fun i x hx => ⟨(h.pin i x hx).1, hβ i x (h.pin i x hx).2⟩ }

/-- No object's block is one of deferred calls. -/
theorem RelB.not_marks {P : Program} {cx : Cx} {st : St} {a : Act} {w : World} {β : Bm} (h : RelB P cx st a w β) {i : Nat} {ob : Ob} {b C : Nat} (ho : sget st.σ i = some ob) (hb : β i = some (some (b, C))) {l : Option (List Deferred)} (hd : w.heap[b]? = some (.deferred l)) : False := by
  rcases (h.ob i ob ho).at with h1 | ⟨b', C', o, h1, h2, h3⟩
  · rw [h1] at hb; cases hb
  · rw [h1] at hb; cases hb
    rw [h2] at hd; cases hd
    exact h3 l rfl

/-- An object's cells are written. -/
theorem RelB.write {P : Program} {cx : Cx} {st : St} {a : Act} {w w' : World} {β : Bm} (h : RelB P cx st a w β) {i : Nat} {ob : Ob} {b C : Nat} {cur : Array Value} {l : List G} (ho : sget st.σ i = some ob) (hb : β i = some (some (b, C))) (hk : Keeps (fun k => k = b) w w')
    (hcur : w'.heap[b]? = some (.cells cur ob.t (0, 0))) (hs : cur.size = C * tsz P ob.t) (hC : C ≤ maxLen) (hl : l.length ≤ cur.size) (hr : ∀ (j : Nat) (g : G), l[j]? = some g → ∃ u, cur[j]? = some u ∧ u.oneCell' = true ∧ RV β (Av cx.S0 β st.σ) w g u) :
    RelB P cx { st with σ := (i, some ⟨ob.t, l, none⟩) :: st.σ } a w' β := by
  have hg : ∀ (j : Nat) o, sget ((i, some ⟨ob.t, l, none⟩) :: st.σ) j = some o → ∃ o', sget st.σ j = some o' := by
    intro j o hj
    rw [sget_cons] at hj
    split at hj
    · subst_vars; exact ⟨_, ho⟩
    · exact ⟨o, hj⟩
  have hS : ∀ b', b' < w.heap.size → Av cx.S0 β ((i, some ⟨ob.t, l, none⟩) :: st.σ) b' → Av cx.S0 β st.σ b' := by
    rintro b' _ (hx | ⟨j, o, D, hj, hx⟩)
    · exact .inl hx
    · obtain ⟨o', h1⟩ := hg j o hj
      exact .inr ⟨j, o', D, h1, hx⟩
  have hk' : Keeps (Av cx.S0 β st.σ) w w' := hk.mono fun x _ e => by subst e; exact .inr ⟨i, ob, C, ho, hb⟩
  exact {
    size := h.size
    defers := h.defers.keep hk (fun D hD e => by subst e; exact h.not_marks ho hb hD)
    loose := h.loose
    rnd := h.rnd
    fr := fun j => (h.fr j).step (fun _ _ x => x) hS hk'
    ob := fun j o hj => by
      have hj' : sget ((i, some ⟨ob.t, l, none⟩) :: st.σ) j = some o := hj
      rw [sget_cons] at hj'
      by_cases e : i = j
      · subst e
        rw [if_pos rfl] at hj'
        cases hj'
        refine .inr (.inr ⟨b, C, cur, rfl, hb, hcur, hs, hC, hl, fun j g hj => ?_⟩)
        obtain ⟨u, hu, h1, hr'⟩ := hr j g hj
        exact ⟨u, hu, h1, hr'.step (fun _ _ x => x) hS hk'⟩
      · rw [if_neg e] at hj'
        exact (h.ob j o hj').step (fun _ _ x => x) hS hk' (fun b' D hb' => hk.block b' (h.lt hj' hb') (fun x => e (by subst x; exact h.inj i j ob o b' C D ho hj' hb hb')))
    inj := fun x y o o' b' C' D hx hy hbx hby => by
      obtain ⟨o1, h1⟩ := hg x o hx
      obtain ⟨o2, h2⟩ := hg y o' hy
      exact h.inj x y o1 o2 b' C' D h1 h2 hbx hby
    own := fun x o b' C' hx hbx => by
      obtain ⟨o1, h1⟩ := hg x o hx
      exact h.own x o1 b' C' h1 hbx
    sep := fun x o b' C' hx hbx => by
      obtain ⟨o1, h1⟩ := hg x o hx
      exact h.sep x o1 b' C' h1 hbx
    fresh := h.fresh
    glob := fun g l hl => (h.glob g l hl).step hS hk'
    keep := h.keep.then hk (fun x hx e => by
      subst e
      rcases h.own i ob x C ho hb with h1 | h1
      · exact h1
      · omega)
    old := h.old
    pin := h.pin }
/-- An object that is no row of cells is written. -/
theorem RelB.writeX {P : Program} {cx : Cx} {st : St} {a : Act} {w w' : World} {β : Bm} (h : RelB P cx st a w β) {i : Nat} {ob : Ob} {b : Nat} {x : Xob} {o0 : Obj} (ho : sget st.σ i = some ob) (hb : β i = some (some (b, 0))) (hk : Keeps (fun k => k = b) w w') (hcur : w'.heap[b]? = some o0) (hr : XO β (Av cx.S0 β st.σ) w x o0) :
    RelB P cx { st with σ := (i, some ⟨ob.t, [], some x⟩) :: st.σ } a w' β := by
  have hg : ∀ (j : Nat) o, sget ((i, some ⟨ob.t, [], some x⟩) :: st.σ) j = some o → ∃ o', sget st.σ j = some o' := by
    intro j o hj
    rw [sget_cons] at hj
    split at hj
    · subst_vars; exact ⟨_, ho⟩
    · exact ⟨o, hj⟩
  have hS : ∀ b', b' < w.heap.size → Av cx.S0 β ((i, some ⟨ob.t, [], some x⟩) :: st.σ) b' → Av cx.S0 β st.σ b' := by
    rintro b' _ (hx | ⟨j, o, D, hj, hx⟩)
    · exact .inl hx
    · obtain ⟨o', h1⟩ := hg j o hj
      exact .inr ⟨j, o', D, h1, hx⟩
  have hk' : Keeps (Av cx.S0 β st.σ) w w' := hk.mono fun x _ e => by subst e; exact .inr ⟨i, ob, 0, ho, hb⟩
  exact {
    size := h.size
    defers := h.defers.keep hk (fun D hD e => by subst e; exact h.not_marks ho hb hD)
    loose := h.loose
    rnd := h.rnd
    fr := fun j => (h.fr j).step (fun _ _ x => x) hS hk'
    ob := fun j o hj => by
      have hj' : sget ((i, some ⟨ob.t, [], some x⟩) :: st.σ) j = some o := hj
      rw [sget_cons] at hj'
      by_cases e : i = j
      · subst e
        rw [if_pos rfl] at hj'
        cases hj'
        exact .inr (.inl ⟨b, x, o0, rfl, rfl, hb, hcur, hr.step (fun _ _ x => x) hS hk'⟩)
      · rw [if_neg e] at hj'
        exact (h.ob j o hj').step (fun _ _ x => x) hS hk' (fun b' D hb' => hk.block b' (h.lt hj' hb') (fun x => e (by subst x; exact h.inj i j ob o b' 0 D ho hj' hb hb')))
    inj := fun x y o o' b' C' D hx hy hbx hby => by
      obtain ⟨o1, h1⟩ := hg x o hx
      obtain ⟨o2, h2⟩ := hg y o' hy
      exact h.inj x y o1 o2 b' C' D h1 h2 hbx hby
    own := fun x o b' C' hx hbx => by
      obtain ⟨o1, h1⟩ := hg x o hx
      exact h.own x o1 b' C' h1 hbx
    sep := fun x o b' C' hx hbx => by
      obtain ⟨o1, h1⟩ := hg x o hx
      exact h.sep x o1 b' C' h1 hbx
    fresh := h.fresh
    glob := fun g l hl => (h.glob g l hl).step hS hk'
    keep := h.keep.then hk (fun x hx e => by
      subst e
      rcases h.own i ob _ 0 ho hb with h1 | h1
      · exact h1
      · omega)
    old := h.old
    pin := h.pin }

/-! ### the deferred calls of loops over functions, at a function's end -/
def shutAll (ds : List Nat) (w : World) : World := ds.foldl (fun w D => w.putObj D (.deferred none)) w
theorem shutAll_spec : ∀ (ds : List Nat) (w : World), (shutAll ds w).heap.size = w.heap.size ∧ (shutAll ds w).os = w.os ∧ (shutAll ds w).tape = w.tape ∧ (shutAll ds w).output = w.output ∧ ∀ k, k ∉ ds → (shutAll ds w).heap[k]? = w.heap[k]?
  | [], w => ⟨rfl, rfl, rfl, rfl, fun _ _ => rfl⟩
  | D :: ds, w => by
    obtain ⟨h1, h2, h3, h4, h5⟩ := shutAll_spec ds (w.putObj D (.deferred none))
    refine ⟨h1.trans (by simp), h2, h3, h4, fun k hk => ?_⟩
    simp only [List.mem_cons, not_or] at hk
    exact (h5 k hk.2).trans (World.putObj_heap_other hk.1)
theorem RelB.shut {P : Program} {cx : Cx} {st : St} {a : Act} {w : World} {β : Bm} (h : RelB P cx st a w β) {ds : List Nat} (hds : ∀ D ∈ ds, cx.w0.heap.size ≤ D ∧ w.heap[D]? = some (.deferred (some []))) : RelB P cx st { a with defers := [] } (shutAll ds w) β := by
  obtain ⟨s1, s2, s3, s4, s5⟩ := shutAll_spec ds w
  have hck : CellKeeps (Av cx.S0 β st.σ) w (shutAll ds w) := by
    refine ⟨Nat.le_of_eq s1.symm, fun {b o u} hb hs hc => ?_⟩
    have hn : b ∉ ds := fun hD => by
      have := (hds b hD).2
      simp [World.cell?, this] at hc
    unfold World.cell? at hc ⊢
    simp only [s5 b hn]
    exact hc
  have hob : ∀ i o b C, sget st.σ i = some o → β i = some (some (b, C)) → (shutAll ds w).heap[b]? = w.heap[b]? := fun i o b C ho hb => s5 b fun hD => h.not_marks ho hb (hds b hD).2
  exact { h with
    size := h.size
    defers := .nil rfl
    fr := fun i => (h.fr i).stepC (fun _ _ x => x) (fun _ _ x => x) hck
    ob := fun i o ho => (h.ob i o ho).stepC (fun _ _ x => x) (fun _ _ x => x) hck (fun b C hb => hob i o b C ho hb)
    glob := fun g l hl => (h.glob g l hl).stepC (fun _ _ x => x) hck
    keep := ⟨s2.trans h.keep.os, s3.trans h.keep.tape, s4.trans h.keep.output, by rw [s1]; exact h.keep.size, fun k hk hB => (s5 k (fun hD => by have := (hds k hD).1; omega)).trans (h.keep.block k hk hB)⟩ }
end Go.Proofs.YtfnglmepfjaimaaGreatDoor
