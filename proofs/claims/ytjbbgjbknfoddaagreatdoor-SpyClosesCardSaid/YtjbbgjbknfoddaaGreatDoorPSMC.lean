/- SpyCloses: closed facts for its card; no goroutine is started by a text that is looked at: no text of the whole translation starts one. -/
import Derived.Test.YtjbbgjbknfoddaaGreatDoorRows
import Derived.ProofKit
import GoSem.ClaimGoes
import Derived.SevenTiedAt
import Derived.KernelRfl
namespace Go.Proofs.YtjbbgjbknfoddaaGreatDoor.spyCloses
open Go.Proofs.YtjbbgjbknfoddaaGreatDoor
theorem goes_none {P : Program} (h : P.funcs.any Func.goes = false) (f : FuncId) : P.goes f = false := by
  have h1 : ∀ g : FuncId, (P.funcs[g]?).any Func.goes = false := fun g => by
    cases hg : P.funcs[g]? with
    | none => rfl
    | some fn =>
      rw [Array.any_eq_false'] at h
      simpa using h fn (Array.mem_of_getElem? hg)
  unfold Program.goes
  rw [h, Bool.and_false, Bool.or_false]
  exact List.any_eq_false.2 fun g _ => by rw [h1 g]; decide
theorem goesBy_none {P : Program} (h : P.funcs.any Func.goes = false) (c : OpenClaim) (hs : c.start = .entering) : false = c.goesBy P := by
  unfold OpenClaim.goesBy Program.goesAt Program.goesFrom
  rw [hs]
  cases P.funcNamed c.func with
  | none => rfl
  | some f =>
    show false = (P.goes f || false)
    rw [goes_none h f]
    rfl
theorem noGo : Tryz.prog.funcs.any Func.goes = false := by kernel_rfl
theorem goes : false = Rows.spyClosesRow.goesBy Tryz.prog := goesBy_none noGo _ rfl
theorem looks : false = Tryz.prog.looks [] := by kernel_rfl
theorem mainIs : Tryz.prog.mainIs = some (true, "25b1c6df0c6b5127aabb3a0d16ce46f4f515ea1e11bea6ed2f775a32fe27b30d".toList) := by kernel_rfl
theorem wf : Rows.spyClosesRow.wfByText (OpenSpec.ofChange Rows.spyClosesSpec) = true := by kernel_rfl
theorem noStand : ([22, 22, 22, 22].all fun u => !Tryz.prog.wantsStandIn u) = true := by kernel_rfl
end Go.Proofs.YtjbbgjbknfoddaaGreatDoor.spyCloses
