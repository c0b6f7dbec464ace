/- Tables of pure calls, for the runner. -/
import Derived.Test.YtfnglmepfjaimaaGreatDoorEC
namespace Go.Proofs.YtfnglmepfjaimaaGreatDoor
open Go.RowKit
set_option linter.unusedVariables false
section
variable {P : Program}

/-! ### tables -/
abbrev Tab := List (FuncId × List G × G)
def tabTp (T : Tab) (rest : XPure) : XPure := fun fid gs gl => match T with
  | [] => rest fid gs gl
  | q :: r => bif Nat.beq q.1 fid && all2 (gEq 12) q.2.1 gs then some q.2.2 else tabTp r rest fid gs gl
theorem fn_gl' {gl : List (Nat × List G)} {f : FuncId} {gs : List G} {r : G} (h : Fn' P [] f gs r) : Fn' P gl f gs r := fun w S vs hS _ hsz hvs => h w S vs hS (fun _ _ h => by cases h) hsz hvs
theorem tabTp_ok {rest : XPure} (hr : PureOk P rest) : ∀ {T : Tab}, (∀ q ∈ T, Fn' P [] q.1 q.2.1 q.2.2 ∧ Flat q.2.2 ∧ callable P q.1 = true) → PureOk P (tabTp T rest)
  | [], _, fid, gs, gl, r, h => hr fid gs gl r h
  | q :: T, hT, fid, gs, gl, r, h => by
    unfold tabTp at h
    cases hc : (Nat.beq q.1 fid && all2 (gEq 12) q.2.1 gs) with
    | true =>
      rw [hc] at h
      simp only [Bool.and_eq_true] at hc
      cases h
      have e1 := Nat.eq_of_beq_eq_true hc.1
      have e2 := all2_spec (gEq_spec 12) hc.2
      subst e1; subst e2
      obtain ⟨a, b, c⟩ := hT q (by simp)
      exact ⟨fn_gl' a, b, c⟩
    | false =>
      rw [hc] at h
      exact tabTp_ok hr (fun q' hq => hT q' (by simp [hq])) fid gs gl r h
noncomputable def chk1 (P : Program) (E : XEnv) (k : Nat) (q : FuncId × List G × G) : Bool := match xpureR P E (xcode P E k) q.1 q.2.1 [] with
  | some r => gEq 12 r q.2.2
  | none => false
theorem chk_ok (hm : P.follows .mixedOrders = true) {E : XEnv} (ht : PureOk P E.tp) (hk : KcOk P E) {k : Nat} {T : Tab} (h : T.all (chk1 P E k) = true) : ∀ q ∈ T, Fn' P [] q.1 q.2.1 q.2.2 ∧ Flat q.2.2 ∧ callable P q.1 = true := fun q hq => by
  have := List.all_eq_true.1 h q hq
  unfold chk1 at this
  split at this
  · rename_i r hr
    rw [← gEq_spec 12 _ _ this]
    exact xpureR_ok (xcode_ok hm ht hk k).toRunOk ht _ _ _ _ hr
  · cases this
end
end Go.Proofs.YtfnglmepfjaimaaGreatDoor
