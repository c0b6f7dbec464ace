/- HoldBytes: closed facts for its card; no goroutine is started by a text that is looked at: no text of the whole translation starts one. -/
import Derived.Test.YtpehhhbmobmedaaGreatDoorRows
import Derived.ProofKit
import GoSem.ClaimGoes
import Derived.SevenTiedAt
import Derived.KernelRfl
namespace Go.Proofs.YtpehhhbmobmedaaGreatDoor.holdBytes
open Go.Proofs.YtpehhhbmobmedaaGreatDoor
theorem goes_none {P:Program} (h:P.funcs.any Func.goes = false) (f:FuncId):P.goes f = false:=by
 have h1:∀ g:FuncId,(P.funcs[g]?).any Func.goes = false:=fun g => by
  cases hg:P.funcs[g]? with
  | none => rfl
  | some fn =>
   rw [Array.any_eq_false'] at h
   simpa using h fn (Array.mem_of_getElem? hg)
 unfold Program.goes
 rw [h,Bool.and_false,Bool.or_false]
 exact List.any_eq_false.2 fun g _ => by rw [h1 g]; decide
theorem goesBy_none {P:Program} (h:P.funcs.any Func.goes = false) (c:OpenClaim) (hs:c.start = .entering):false = c.goesBy P:=by
 unfold OpenClaim.goesBy Program.goesAt Program.goesFrom
 rw [hs]
 cases P.funcNamed c.func with
 | none => rfl
 | some f =>
  show false = (P.goes f || false)
  rw [goes_none h f]
  rfl
theorem noGo:Tryz.prog.funcs.any Func.goes = false:=by kernel_rfl
theorem goes:false = Rows.holdBytesRow.goesBy Tryz.prog:=goesBy_none noGo _ rfl
theorem looks:false = Tryz.prog.looks []:=by kernel_rfl
theorem mainIs:Tryz.prog.mainIs = some (true, "7d58d3271a52bc6ba2212bb28a2e6d6e37f452be835d7590a039375aa68b756b".toList):=by kernel_rfl
theorem wf:Rows.holdBytesRow.wfByText (OpenSpec.ofChange Rows.holdBytesSpec) = true:=by kernel_rfl
theorem noStand:([22,3,23,24,3,5].all fun u => !Tryz.prog.wantsStandIn u) = true:=by kernel_rfl
end Go.Proofs.YtpehhhbmobmedaaGreatDoor.holdBytes
