/- SlotsAfter: facts for its card. -/
import Derived.KernelRfl
import Derived.ProofKit
import Derived.SevenTiedAt
import Derived.Test.YtaiecngnppbhlaaGreatDoorRows
import GoSem.ClaimGoes
namespace Go.Proofs.YtaiecngnppbhlaaGreatDoor.slotsAfter
open Go.Proofs.YtaiecngnppbhlaaGreatDoor
theorem NX{P:Program}(h:P.funcs.any Func.goes=false)(f:FuncId):P.goes f=false:=by
 have h1:∀g:FuncId,(P.funcs[g]?).any Func.goes=false:=λg=>by
  cases hg:P.funcs[g]? with
  |none=>rfl
  |some fn=>rw[Array.any_eq_false'] at h;simpa using h fn (Array.mem_of_getElem? hg)
 unfold Program.goes;rw[h,Bool.and_false,Bool.or_false];exact List.any_eq_false.2 λg _=>by rw[h1 g];decide
theorem Ik{P:Program}(h:P.funcs.any Func.goes=false)(c:OpenClaim)(hs:c.start= .entering):false=c.goesBy P:=by
 unfold OpenClaim.goesBy Program.goesAt Program.goesFrom;rw[hs];cases P.funcNamed c.func with
 |none=>rfl
 |some f=>show false=(P.goes f||false);rw[NX h f];rfl
theorem aaw:Tryz.prog.funcs.any Func.goes=false:=by kernel_rfl
theorem aax:false=Rows.slotsAfterRow.goesBy Tryz.prog:=Ik aaw _ rfl
theorem mO:false=Tryz.prog.looks []:=by kernel_rfl
theorem Wb:Tryz.prog.mainIs=some (true, "0ae86fb31e32935fe7e0544964c18d57c9f4f33082b4c99a70c3f332bdf4e450".toList):=by kernel_rfl
theorem wf:Rows.slotsAfterRow.wfByText (OpenSpec.ofChange Rows.slotsAfterSpec)=true:=by kernel_rfl
theorem Tj:([22,3].all λu=> !Tryz.prog.wantsStandIn u)=true:=by kernel_rfl
end Go.Proofs.YtaiecngnppbhlaaGreatDoor.slotsAfter
