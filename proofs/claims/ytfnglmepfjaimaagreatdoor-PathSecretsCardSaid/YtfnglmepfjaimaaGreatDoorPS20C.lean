/- PathSecrets: closed facts for its card; no goroutine is started by a text that is looked at: no text of the whole translation starts one. -/
import Derived.Test.YtfnglmepfjaimaaGreatDoorRows
import Derived.ProofKit
import GoSem.ClaimGoes
import Derived.SevenTiedAt
import Derived.KernelRfl
namespace Go.Proofs.YtfnglmepfjaimaaGreatDoor.pathSecrets
open Go.Proofs.YtfnglmepfjaimaaGreatDoor
theorem goes_none {P : Program} (h : P.funcs.any Func.goes = false) (f : FuncId) : P.goes f = false := by
  have h1 : ∀ g : FuncId, (P.funcs[g]?).any Func.goes = false := fun g => by
    cases hg : P.funcs[g]? with
    | none => rfl
    | some fn =>
      rw [Array.any_eq_false'] at h
      simpa using h fn (Array.mem_of_getElem? hg)
  unfold Program.goes
  rw [h, Bool.and_false, Bool.or_false]
  exact List.any_eq_false.2 fun g _ => by rw [h1 g]; decide
theorem goesBy_none {P : Program} (h : P.funcs.any Func.goes = false) (c : OpenClaim) (hs : c.start = .entering) : false = c.goesBy P := by
  unfold OpenClaim.goesBy Program.goesAt Program.goesFrom
  rw [hs]
  cases P.funcNamed c.func with
  | none => rfl
  | some f =>
    show false = (P.goes f || false)
    rw [goes_none h f]
    rfl
theorem noGo : Tryz.prog.funcs.any Func.goes = false := by kernel_rfl
theorem goes : false = Rows.pathSecretsRow.goesBy Tryz.prog := goesBy_none noGo _ rfl
theorem looks : false = Tryz.prog.looks [] := by kernel_rfl
theorem mainIs : Tryz.prog.mainIs = some (true, "c859cea4d91f29c36e3f5775765db4d8c94ea2adab5a1a82c2d2c0488e9ff9c7".toList) := by kernel_rfl
theorem wf : Rows.pathSecretsRow.wfByText (OpenSpec.ofChange Rows.pathSecretsSpec) = true := by kernel_rfl
theorem noStand : ([22, 3, 3].all fun u => !Tryz.prog.wantsStandIn u) = true := by kernel_rfl
end Go.Proofs.YtfnglmepfjaimaaGreatDoor.pathSecrets
