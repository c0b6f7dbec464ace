/- op.kinds, roll.asks, as values of the machine. -/
import Derived.Test.YtjbbgjbknfoddaaGreatDoorGO
namespace Go.Proofs.YtjbbgjbknfoddaaGreatDoor
section
open Go.RowKit
/-- op.kinds, roll.asks. -/
def kinds : List G := [0, 2064, 32793, 21, 16, 12, 480, 640, 512, 31744, 8704, 8705, 512, 33299].map gI
def fnG (n : Nat) : G := .clo (.func n) [] []
def asks : List G := [.lit .nilFunc, .lit .nilFunc, fnG 482, fnG 484, .lit .nilFunc, fnG 485, fnG 486, .lit .nilFunc, fnG 487, fnG 488, fnG 490, fnG 491, fnG 490, fnG 492]
def glc : List (Nat × List G) := [(0, kinds), (1, asks)]
end
section
open Go.RowKit
set_option linter.unusedVariables false
attribute [local irreducible] Tr Run RunD GS TG Le Wk Frz Fn' ImmG Flat WkFr WkSt
section gun
variable {P : Program} {ops : Array Oper} {K : St → Prop} {ty : TypeId} {pos : String} {af : Array Edge} {rest : List Oper} {n : Nat} {gl : List (Nat × List G)} {fr : Fr} {σ : Sto} {c p d : Nat} {rr : Bool} {gq : Option (Nat × Bool)}
theorem gun_v {op : Op} {g : G} (hw : gwant ⟨n, gl, fr, σ, c, p, rr⟩ ops ⟨some d, op, ty, pos, af, gq⟩ = some true) (he : evVal P (gev ⟨n, gl, fr, σ, c, p, rr⟩) σ ⟨some d, op, ty, pos, af, gq⟩ = some g) (hd : d < n) (h : Run P ops K rest ⟨n, gl, (d, g) :: fr, σ, c, p, rr⟩) : Run P ops K (⟨some d, op, ty, pos, af, gq⟩ :: rest) ⟨n, gl, fr, σ, c, p, rr⟩ := by
  unfold Run
  exact .inl ⟨hw, _, gs_val (fun _ e => by cases e; exact hd) he, h⟩
theorem gun_c {fid : FuncId} {xs : Array Operand} {ats : Array TypeId} {vs : List G} {r : G} (hw : gwant ⟨n, gl, fr, σ, c, p, rr⟩ ops ⟨some d, .call { callee := .value (.func fid), args := xs, argTypes := ats }, ty, pos, af, gq⟩ = some true) (hv : xs.toList.map (gev ⟨n, gl, fr, σ, c, p, rr⟩) = vs) (hc : callable P fid = true) (hi : ∀ g ∈ vs, ImmG g) (hF : Fn' P gl fid vs r) (hd : d < n) (h : Run P ops K rest ⟨n, gl, (d, r) :: fr, σ, c, p, rr⟩) :
    Run P ops K (⟨some d, .call { callee := .value (.func fid), args := xs, argTypes := ats }, ty, pos, af, gq⟩ :: rest) ⟨n, gl, fr, σ, c, p, rr⟩ := by
  unfold Run
  exact .inl ⟨hw, _, gs_call (f := .func fid) (fst := []) (cap := []) rfl (fun _ e => by cases e; exact hd) rfl hc (by simpa [hv] using hi) (by simpa [hv] using hF), h⟩
end gun
end
end Go.Proofs.YtjbbgjbknfoddaaGreatDoor
