/- Equality of values and stores that the kernel runs. -/
import Derived.Test.YtfnglmepfjaimaaGreatDoorEA
namespace Go.Proofs.YtfnglmepfjaimaaGreatDoor
open Go.RowKit
set_option linter.unusedVariables false
section
variable {P : Program}
/-! ### equality that the kernel runs -/
def iEq : Int → Int → Bool
  | .ofNat a, .ofNat b => Nat.beq a b
  | .negSucc a, .negSucc b => Nat.beq a b
  | _, _ => false
theorem iEq_spec {a b : Int} (h : iEq a b = true) : a = b := by
  unfold iEq at h
  split at h
  · rw [Nat.eq_of_beq_eq_true h]
  · rw [Nat.eq_of_beq_eq_true h]
  · cases h
def all2 {α : Type} (f : α → α → Bool) : List α → List α → Bool
  | [], [] => true
  | x :: r, y :: s => bif f x y then all2 f r s else false
  | _, _ => false
theorem all2_spec {α : Type} {f : α → α → Bool} (hf : ∀ x y, f x y = true → x = y) : ∀ {l m : List α}, all2 f l m = true → l = m
  | [], [], _ => rfl
  | x :: r, y :: s, h => by
    unfold all2 at h
    cases hx : f x y with
    | false => rw [hx] at h; cases h
    | true =>
      rw [hx] at h
      rw [hf x y hx, all2_spec hf h]
  | [], _ :: _, h => by cases h
  | _ :: _, [], h => by cases h
def bEq (a b : UInt8) : Bool := Nat.beq a.toNat b.toNat
theorem bEq_spec {a b : UInt8} (h : bEq a b = true) : a = b := UInt8.toNat_inj.1 (Nat.eq_of_beq_eq_true h)
def vEq (a b : Value) : Bool := match a with
  | .int k x => (match b with
    | .int k' y => decide (k = k') && iEq x y
    | _ => false)
  | .bool x => (match b with
    | .bool y => x == y
    | _ => false)
  | .string s => (match b with
    | .string t => all2 bEq s.data.toList t.data.toList
    | _ => false)
  | .slice none n m => (match b with
    | .slice none n' m' => Nat.beq n n' && Nat.beq m m'
    | _ => false)
  | _ => false
theorem vEq_spec {a b : Value} (h : vEq a b = true) : a = b := by
  unfold vEq at h
  split at h
  · split at h
    · simp only [Bool.and_eq_true] at h
      rw [of_decide_eq_true h.1, iEq_spec h.2]
    · cases h
  · split at h
    · rw [beq_iff_eq.1 h]
    · cases h
  · rename_i s
    split at h
    · rename_i t
      have := all2_spec (fun _ _ => bEq_spec) h
      obtain ⟨⟨s⟩⟩ := s
      obtain ⟨⟨t⟩⟩ := t
      simp only at this
      rw [this]
    · cases h
  · split at h
    · simp only [Bool.and_eq_true] at h
      rw [Nat.eq_of_beq_eq_true h.1, Nat.eq_of_beq_eq_true h.2]
    · cases h
  · cases h
def gEq : Nat → G → G → Bool
  | 0, _, _ => false
  | k + 1, a, b => match a with
    | .lit v => (match b with
      | .lit u => vEq v u
      | _ => false)
    | .agg l => (match b with
      | .agg m => all2 (gEq k) l m
      | _ => false)
    | .tup l => (match b with
      | .tup m => all2 (gEq k) l m
      | _ => false)
    | .sl l n => (match b with
      | .sl m n' => Nat.beq n n' && all2 (gEq k) l m
      | _ => false)
    | _ => false
theorem gEq_spec : ∀ (k : Nat) (a b : G), gEq k a b = true → a = b
  | 0, a, b, h => by cases h
  | k + 1, a, b, h => by
    unfold gEq at h
    split at h
    · split at h
      · rw [vEq_spec h]
      · cases h
    · split at h
      · rw [all2_spec (gEq_spec k) h]
      · cases h
    · split at h
      · rw [all2_spec (gEq_spec k) h]
      · cases h
    · split at h
      · simp only [Bool.and_eq_true] at h
        rw [Nat.eq_of_beq_eq_true h.1, all2_spec (gEq_spec k) h.2]
      · cases h
    · cases h

def band (a b : Bool) : Bool := bif a then b else false
theorem band_spec {a b : Bool} (h : band a b = true) : a = true ∧ b = true := by
  cases a with
  | true => exact ⟨rfl, h⟩
  | false => cases h
def vEqX (a b : Value) : Bool := match a with
  | .pointer none => (match b with
    | .pointer none => true
    | _ => false)
  | .map none => (match b with
    | .map none => true
    | _ => false)
  | .nilFunc => (match b with
    | .nilFunc => true
    | _ => false)
  | .nilIface => (match b with
    | .nilIface => true
    | _ => false)
  | .agg cs => (match b with
    | .agg ds => all2 vEq cs.toList ds.toList
    | _ => false)
  | a => vEq a b
theorem vEqX_spec {a b : Value} (h : vEqX a b = true) : a = b := by
  unfold vEqX at h
  split at h
  · split at h
    · rfl
    · cases h
  · split at h
    · rfl
    · cases h
  · split at h
    · rfl
    · cases h
  · split at h
    · rfl
    · cases h
  · rename_i cs
    split at h
    · rename_i ds
      have := all2_spec (fun _ _ => vEq_spec) h
      rw [Array.toList_inj.1 this]
    · cases h
  · exact vEq_spec h
def fnEq (a b : Fn) : Bool := match a with
  | .func f => (match b with
    | .func g => Nat.beq f g
    | _ => false)
  | _ => false
theorem fnEq_spec {a b : Fn} (h : fnEq a b = true) : a = b := by
  unfold fnEq at h
  split at h
  · split at h
    · rw [Nat.eq_of_beq_eq_true h]
    · cases h
  · cases h
def gEqX : Nat → G → G → Bool
  | 0, _, _ => false
  | k + 1, a, b => match a with
    | .lit v => (match b with
      | .lit u => vEqX v u
      | _ => false)
    | .agg l => (match b with
      | .agg m => all2 (gEqX k) l m
      | _ => false)
    | .tup l => (match b with
      | .tup m => all2 (gEqX k) l m
      | _ => false)
    | .sl l n => (match b with
      | .sl m n' => band (Nat.beq n n') (all2 (gEqX k) l m)
      | _ => false)
    | .ptr l n => (match b with
      | .ptr m n' => band (Nat.beq n n') (all2 (gEqX k) l m)
      | _ => false)
    | .clo f x y => (match b with
      | .clo f' x' y' => band (fnEq f f') (band (all2 (gEqX k) x x') (all2 (gEqX k) y y'))
      | _ => false)
    | .ifc t g => (match b with
      | .ifc t' g' => band (Nat.beq t t') (gEqX k g g')
      | _ => false)
    | .ref i o => (match b with
      | .ref i' o' => band (Nat.beq i i') (Nat.beq o o')
      | _ => false)
    | .rsl i o n => (match b with
      | .rsl i' o' n' => band (Nat.beq i i') (band (Nat.beq o o') (Nat.beq n n'))
      | _ => false)
    | .mref i => (match b with
      | .mref i' => Nat.beq i i'
      | _ => false)
    | .yld i => (match b with
      | .yld i' => Nat.beq i i'
      | _ => false)
    | .junk => (match b with
      | .junk => true
      | _ => false)
theorem gEqX_spec : ∀ (k : Nat) (a b : G), gEqX k a b = true → a = b
  | 0, a, b, h => by cases h
  | k + 1, a, b, h => by
    unfold gEqX at h
    split at h
    · split at h
      · rw [vEqX_spec h]
      · cases h
    · split at h
      · rw [all2_spec (gEqX_spec k) h]
      · cases h
    · split at h
      · rw [all2_spec (gEqX_spec k) h]
      · cases h
    · split at h
      · obtain ⟨h1, h2⟩ := band_spec h
        rw [Nat.eq_of_beq_eq_true h1, all2_spec (gEqX_spec k) h2]
      · cases h
    · split at h
      · obtain ⟨h1, h2⟩ := band_spec h
        rw [Nat.eq_of_beq_eq_true h1, all2_spec (gEqX_spec k) h2]
      · cases h
    · split at h
      · obtain ⟨h1, h2⟩ := band_spec h
        obtain ⟨h2, h3⟩ := band_spec h2
        rw [fnEq_spec h1, all2_spec (gEqX_spec k) h2, all2_spec (gEqX_spec k) h3]
      · cases h
    · split at h
      · obtain ⟨h1, h2⟩ := band_spec h
        rw [Nat.eq_of_beq_eq_true h1, gEqX_spec k _ _ h2]
      · cases h
    · split at h
      · obtain ⟨h1, h2⟩ := band_spec h
        rw [Nat.eq_of_beq_eq_true h1, Nat.eq_of_beq_eq_true h2]
      · cases h
    · split at h
      · obtain ⟨h1, h2⟩ := band_spec h
        obtain ⟨h2, h3⟩ := band_spec h2
        rw [Nat.eq_of_beq_eq_true h1, Nat.eq_of_beq_eq_true h2, Nat.eq_of_beq_eq_true h3]
      · cases h
    · split at h
      · rw [Nat.eq_of_beq_eq_true h]
      · cases h
    · split at h
      · rw [Nat.eq_of_beq_eq_true h]
      · cases h
    · split at h
      · rfl
      · cases h
def enEq (k : Nat) (a b : Value × G × Nat) : Bool := band (vEqX a.1 b.1) (band (gEqX k a.2.1 b.2.1) (Nat.beq a.2.2 b.2.2))
theorem enEq_spec {k : Nat} {a b : Value × G × Nat} (h : enEq k a b = true) : a = b := by
  obtain ⟨h1, h2⟩ := band_spec h
  obtain ⟨h2, h3⟩ := band_spec h2
  exact Prod.ext (vEqX_spec h1) (Prod.ext (gEqX_spec k _ _ h2) (Nat.eq_of_beq_eq_true h3))
def xobEq (k : Nat) (a b : Option Xob) : Bool := match a with
  | none => (match b with
    | none => true
    | _ => false)
  | some (.map es n) => (match b with
    | some (.map es' n') => band (Nat.beq n n') (all2 (enEq k) es es')
    | _ => false)
  | some .resv => (match b with
    | some .resv => true
    | _ => false)
  | _ => false
theorem xobEq_spec {k : Nat} {a b : Option Xob} (h : xobEq k a b = true) : a = b := by
  unfold xobEq at h
  split at h
  · split at h
    · rfl
    · cases h
  · split at h
    · obtain ⟨h1, h2⟩ := band_spec h
      rw [Nat.eq_of_beq_eq_true h1, all2_spec (fun _ _ => enEq_spec) h2]
    · cases h
  · split at h
    · rfl
    · cases h
  · cases h
def obEq (k : Nat) (a b : Option Ob) : Bool := match a with
  | none => (match b with
    | none => true
    | _ => false)
  | some ⟨t, l, x⟩ => (match b with
    | some ⟨t', l', x'⟩ => band (Nat.beq t t') (band (all2 (gEqX k) l l') (xobEq k x x'))
    | _ => false)
theorem obEq_spec {k : Nat} {a b : Option Ob} (h : obEq k a b = true) : a = b := by
  unfold obEq at h
  split at h
  · split at h
    · rfl
    · cases h
  · split at h
    · obtain ⟨h1, h2⟩ := band_spec h
      obtain ⟨h2, h3⟩ := band_spec h2
      rw [Nat.eq_of_beq_eq_true h1, all2_spec (gEqX_spec k) h2, xobEq_spec h3]
    · cases h
def slotEq (k : Nat) (a b : Nat × Option Ob) : Bool := band (Nat.beq a.1 b.1) (obEq k a.2 b.2)
theorem slotEq_spec {k : Nat} {a b : Nat × Option Ob} (h : slotEq k a b = true) : a = b := by
  obtain ⟨h1, h2⟩ := band_spec h
  exact Prod.ext (Nat.eq_of_beq_eq_true h1) (obEq_spec h2)
def glEq (k : Nat) (a b : Nat × List G) : Bool := band (Nat.beq a.1 b.1) (all2 (gEqX k) a.2 b.2)
theorem glEq_spec {k : Nat} {a b : Nat × List G} (h : glEq k a b = true) : a = b := by
  obtain ⟨h1, h2⟩ := band_spec h
  exact Prod.ext (Nat.eq_of_beq_eq_true h1) (all2_spec (gEqX_spec k) h2)
def xrEq (k : Nat) (a b : G × Sto × Nat × Nat) : Bool := band (Nat.beq a.2.2.1 b.2.2.1) (band (Nat.beq a.2.2.2 b.2.2.2) (band (gEqX k a.1 b.1) (all2 (slotEq k) a.2.1 b.2.1)))
theorem xrEq_spec {k : Nat} {a b : G × Sto × Nat × Nat} (h : xrEq k a b = true) : a = b := by
  obtain ⟨h1, h2⟩ := band_spec h
  obtain ⟨h2, h3⟩ := band_spec h2
  obtain ⟨h3, h4⟩ := band_spec h3
  exact Prod.ext (gEqX_spec k _ _ h3) (Prod.ext (all2_spec (fun _ _ => slotEq_spec) h4) (Prod.ext (Nat.eq_of_beq_eq_true h1) (Nat.eq_of_beq_eq_true h2)))

def natsEq (a b : List Nat) : Bool := all2 Nat.beq a b
theorem natsEq_spec {a b : List Nat} (h : natsEq a b = true) : a = b := all2_spec (fun _ _ h => Nat.eq_of_beq_eq_true h) h
end
end Go.Proofs.YtfnglmepfjaimaaGreatDoor
