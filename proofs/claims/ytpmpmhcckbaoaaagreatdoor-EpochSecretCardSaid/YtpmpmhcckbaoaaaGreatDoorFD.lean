/- A machine of values over the model: a region that draws, by what is true behind each set of its operations. -/
import Derived.Test.YtpmpmhcckbaoaaaGreatDoorFB
namespace Go.Proofs.YtpmpmhcckbaoaaaGreatDoor
open Go.RowKit
set_option linter.unusedVariables false
section
variable {P : Program} {l : List Oper} {cx : Cx} {Q : Exit → Act → World → Prop}
/-- Which operations are done. -/
abbrev Dn := Nat → Bool
def dn (L : Array Bool) : Dn := fun i => L.getD i false
def Dn.add (D : Dn) (j : Nat) : Dn := fun i => if j = i then true else D i
theorem anyI_run {I : Dn → St → Prop} (hg : ∀ (j : Nat) (o : Oper), l[j]? = some o → o.guard = none)
    (hed : ∀ (j : Nat) (o : Oper), l[j]? = some o → ∀ e ∈ o.after, Region.binds .any e = true → e.on < j)
    (hs : ∀ (D : Dn) (s : St) (j : Nat) (o : Oper), I D s → l[j]? = some o → D j = false → (∀ e ∈ o.after, Region.binds .any e = true → D e.on = true) → GSn P o s (fun s' => I (D.add j) s'))
    (hq : ∀ D s a w, I D s → (∀ j, j < l.length → D j = true) → Rel P cx s a w → Q .normal a w) :
    ∀ (fuel : Nat) (L : Array Bool) (a : Act) (w : World) (s : St), L.toList.count false ≤ fuel → L.size = l.length → I (dn L) s → Rel P cx s a w → wpAnyIn cx.F cx.nn P .any l.toArray Q fuel L a w := by
  have empty : ∀ (L : Array Bool), L.size = l.length → Region.ready .any l.toArray L = [] → ∀ j, j < l.length → L.getD j false = true := by
    intro L hsz hr j
    induction j using Nat.strongRecOn with
    | _ j ih =>
      intro hj
      cases h : L.getD j false with
      | true => rfl
      | false =>
        have : j ∈ Region.ready .any l.toArray L := by
          rw [mem_ready]
          have ho : l[j]? = some (l[j]'hj) := List.getElem?_eq_getElem hj
          refine ⟨?_, l[j]'hj, by simp, fun e he hbe => ?_⟩
          · have hs : j < L.size := by rw [hsz]; exact hj
            simp [hs] at h ⊢; exact h
          · have := hed j _ ho e he hbe
            exact ih e.on this (by omega)
        rw [hr] at this
        cases this
  intro fuel
  induction fuel with
  | zero =>
    intro L a w s hc hsz hI R
    have hall : ∀ j, j < l.length → L.getD j false = true := by
      intro j hj
      have hs : j < L.size := by rw [hsz]; exact hj
      have h0 : L.toList.count false = 0 := by omega
      rw [List.count_eq_zero] at h0
      cases h : L.getD j false with
      | true => rfl
      | false =>
        simp [hs] at h
        exact absurd (by rw [← h]; simp : false ∈ L.toList) h0
    refine ⟨?_, hq _ s a w hI hall R⟩
    cases hr : Region.ready .any l.toArray L with
    | nil => rfl
    | cons x xs =>
      have hx : x ∈ Region.ready .any l.toArray L := by rw [hr]; simp
      obtain ⟨h1, o, ho, _⟩ := mem_ready.1 hx
      have hxl : x < l.length := by have := (Array.getElem?_eq_some_iff.1 ho).1; simpa using this
      have hs : x < L.size := by rw [hsz]; exact hxl
      have := hall x hxl
      simp [hs] at h1 this
      rw [h1] at this; cases this
  | succ fuel ih =>
    intro L a w s hc hsz hI R
    refine ⟨fun hr => hq _ s a w hI (empty L hsz hr) R, fun j hj => ?_⟩
    obtain ⟨h1, o, ho', hr⟩ := mem_ready.1 hj
    have ho : l[j]? = some o := by simpa using ho'
    have hjl := (List.getElem?_eq_some_iff.1 ho).1
    have hs' : j < L.size := by rw [hsz]; exact hjl
    have hL : L.getD j false = false := by simp [hs'] at h1 ⊢; exact h1
    have hcnt : (L.setIfInBounds j true).toList.count false ≤ fuel := by
      have := count_set L.toList j (by simp [hs'] at h1; simp [hs', h1])
      rw [Array.toList_setIfInBounds]
      omega
    have hD : dn (L.setIfInBounds j true) = (dn L).add j := by
      funext i
      exact getD_set hs'
    unfold wpOpIn
    simp only [ho']
    obtain ⟨β, rb⟩ := R
    have hw : gwant s l.toArray o = some true := by
      unfold gwant
      rw [hg j o ho]
    rw [if_pos (gwant_spec rb hw)]
    refine hs (dn L) s j o hI ho hL hr cx a w _ Q ⟨β, rb⟩ fun s' hs2 a' w' r' => ?_
    exact ih _ a' w' s' hcnt (by simp [hsz]) (by rw [hD]; exact hs2) r'
theorem tr_region_inv {id : Nat} {st : St} {Q : Exit → St → Prop} (hm : P.follows .mixedOrders = true) (I : Dn → St → Prop) (hg : ∀ (j : Nat) (o : Oper), l[j]? = some o → o.guard = none)
    (hed : ∀ (j : Nat) (o : Oper), l[j]? = some o → ∀ e ∈ o.after, Region.binds .any e = true → e.on < j) (h0 : I (fun _ => false) st)
    (hs : ∀ (D : Dn) (s : St) (j : Nat) (o : Oper), I D s → l[j]? = some o → D j = false → (∀ e ∈ o.after, Region.binds .any e = true → D e.on = true) → GSn P o s (fun s' => I (D.add j) s'))
    (hq : ∀ D s, I D s → (∀ j, j < l.length → D j = true) → Q .normal s) : Tr P (.region id l.toArray true) st Q := fun cx a w R ⟨β, r⟩ k => by
  refine wpIn_region_any hm ?_
  have hr : RelB P cx st a { w with drawn := w.drawn + 1 } β := r.world ⟨rfl, rfl, rfl, Nat.le_refl _, fun _ _ _ => rfl⟩
  have hno : dn (Array.replicate l.toArray.size false) = fun _ => false := by
    funext i
    show (Array.replicate l.toArray.size false).getD i false = false
    rw [Array.getD_eq_getD_getElem?]
    cases hx : (Array.replicate l.toArray.size false)[i]? with
    | none => rfl
    | some b => rw [Array.getElem?_replicate] at hx; split at hx <;> cases hx; rfl
  refine anyI_run (cx := cx) (I := I) hg hed hs (fun D s a' w' hI hall r' => k .normal s a' w' (hq D s hI hall) r') _ _ _ _ st ?_ (by simp) (by rw [hno]; exact h0) ⟨β, hr⟩
  simp
end
end Go.Proofs.YtpmpmhcckbaoaaaGreatDoor
