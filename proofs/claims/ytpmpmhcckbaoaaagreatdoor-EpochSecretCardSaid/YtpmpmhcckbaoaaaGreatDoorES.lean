/- Tables of pure calls, for the runner. -/
import Derived.Test.YtpmpmhcckbaoaaaGreatDoorEC
namespace Go.Proofs.YtpmpmhcckbaoaaaGreatDoor
open Go.RowKit
set_option linter.unusedVariables false
section
variable {P : Program}

/-! ### equality that the kernel runs -/
def iEq : Int → Int → Bool
  | .ofNat a, .ofNat b => Nat.beq a b
  | .negSucc a, .negSucc b => Nat.beq a b
  | _, _ => false
theorem iEq_spec {a b : Int} (h : iEq a b = true) : a = b := by
  unfold iEq at h
  split at h
  · rw [Nat.eq_of_beq_eq_true h]
  · rw [Nat.eq_of_beq_eq_true h]
  · cases h
def all2 {α : Type} (f : α → α → Bool) : List α → List α → Bool
  | [], [] => true
  | x :: r, y :: s => bif f x y then all2 f r s else false
  | _, _ => false
theorem all2_spec {α : Type} {f : α → α → Bool} (hf : ∀ x y, f x y = true → x = y) : ∀ {l m : List α}, all2 f l m = true → l = m
  | [], [], _ => rfl
  | x :: r, y :: s, h => by
    unfold all2 at h
    cases hx : f x y with
    | false => rw [hx] at h; cases h
    | true =>
      rw [hx] at h
      rw [hf x y hx, all2_spec hf h]
  | [], _ :: _, h => by cases h
  | _ :: _, [], h => by cases h
def bEq (a b : UInt8) : Bool := Nat.beq a.toNat b.toNat
theorem bEq_spec {a b : UInt8} (h : bEq a b = true) : a = b := UInt8.toNat_inj.1 (Nat.eq_of_beq_eq_true h)
def vEq (a b : Value) : Bool := match a with
  | .int k x => (match b with
    | .int k' y => decide (k = k') && iEq x y
    | _ => false)
  | .bool x => (match b with
    | .bool y => x == y
    | _ => false)
  | .string s => (match b with
    | .string t => all2 bEq s.data.toList t.data.toList
    | _ => false)
  | .slice none n m => (match b with
    | .slice none n' m' => Nat.beq n n' && Nat.beq m m'
    | _ => false)
  | _ => false
theorem vEq_spec {a b : Value} (h : vEq a b = true) : a = b := by
  unfold vEq at h
  split at h
  · split at h
    · simp only [Bool.and_eq_true] at h
      rw [of_decide_eq_true h.1, iEq_spec h.2]
    · cases h
  · split at h
    · rw [beq_iff_eq.1 h]
    · cases h
  · rename_i s
    split at h
    · rename_i t
      have := all2_spec (fun _ _ => bEq_spec) h
      obtain ⟨⟨s⟩⟩ := s
      obtain ⟨⟨t⟩⟩ := t
      simp only at this
      rw [this]
    · cases h
  · split at h
    · simp only [Bool.and_eq_true] at h
      rw [Nat.eq_of_beq_eq_true h.1, Nat.eq_of_beq_eq_true h.2]
    · cases h
  · cases h
def gEq : Nat → G → G → Bool
  | 0, _, _ => false
  | k + 1, a, b => match a with
    | .lit v => (match b with
      | .lit u => vEq v u
      | _ => false)
    | .agg l => (match b with
      | .agg m => all2 (gEq k) l m
      | _ => false)
    | .tup l => (match b with
      | .tup m => all2 (gEq k) l m
      | _ => false)
    | .sl l n => (match b with
      | .sl m n' => Nat.beq n n' && all2 (gEq k) l m
      | _ => false)
    | _ => false
theorem gEq_spec : ∀ (k : Nat) (a b : G), gEq k a b = true → a = b
  | 0, a, b, h => by cases h
  | k + 1, a, b, h => by
    unfold gEq at h
    split at h
    · split at h
      · rw [vEq_spec h]
      · cases h
    · split at h
      · rw [all2_spec (gEq_spec k) h]
      · cases h
    · split at h
      · rw [all2_spec (gEq_spec k) h]
      · cases h
    · split at h
      · simp only [Bool.and_eq_true] at h
        rw [Nat.eq_of_beq_eq_true h.1, all2_spec (gEq_spec k) h.2]
      · cases h
    · cases h

/-! ### tables -/
abbrev Tab := List (FuncId × List G × G)
def tabTp (T : Tab) (rest : XPure) : XPure := fun fid gs gl => match T with
  | [] => rest fid gs gl
  | q :: r => bif Nat.beq q.1 fid && all2 (gEq 12) q.2.1 gs then some q.2.2 else tabTp r rest fid gs gl
theorem fn_gl' {gl : List (Nat × List G)} {f : FuncId} {gs : List G} {r : G} (h : Fn' P [] f gs r) : Fn' P gl f gs r := fun w S vs hS _ hsz hvs => h w S vs hS (fun _ _ h => by cases h) hsz hvs
theorem tabTp_ok {rest : XPure} (hr : PureOk P rest) : ∀ {T : Tab}, (∀ q ∈ T, Fn' P [] q.1 q.2.1 q.2.2 ∧ Flat q.2.2 ∧ callable P q.1 = true) → PureOk P (tabTp T rest)
  | [], _, fid, gs, gl, r, h => hr fid gs gl r h
  | q :: T, hT, fid, gs, gl, r, h => by
    unfold tabTp at h
    cases hc : (Nat.beq q.1 fid && all2 (gEq 12) q.2.1 gs) with
    | true =>
      rw [hc] at h
      simp only [Bool.and_eq_true] at hc
      cases h
      have e1 := Nat.eq_of_beq_eq_true hc.1
      have e2 := all2_spec (gEq_spec 12) hc.2
      subst e1; subst e2
      obtain ⟨a, b, c⟩ := hT q (by simp)
      exact ⟨fn_gl' a, b, c⟩
    | false =>
      rw [hc] at h
      exact tabTp_ok hr (fun q' hq => hT q' (by simp [hq])) fid gs gl r h
noncomputable def chk1 (P : Program) (E : XEnv) (k : Nat) (q : FuncId × List G × G) : Bool := match xpureR P E (xcode P E k) q.1 q.2.1 [] with
  | some r => gEq 12 r q.2.2
  | none => false
theorem chk_ok (hm : P.follows .mixedOrders = true) {E : XEnv} (ht : PureOk P E.tp) (hk : KcOk P E) {k : Nat} {T : Tab} (h : T.all (chk1 P E k) = true) : ∀ q ∈ T, Fn' P [] q.1 q.2.1 q.2.2 ∧ Flat q.2.2 ∧ callable P q.1 = true := fun q hq => by
  have := List.all_eq_true.1 h q hq
  unfold chk1 at this
  split at this
  · rename_i r hr
    rw [← gEq_spec 12 _ _ this]
    exact xpureR_ok (xcode_ok hm ht hk k).toRunOk ht _ _ _ _ hr
  · cases this
end
end Go.Proofs.YtpmpmhcckbaoaaaGreatDoor
