/- HoldStable: facts for its card. -/
import Derived.KernelRfl
import Derived.ProofKit
import Derived.SevenTiedAt
import Derived.Test.YtdpdicldkohflaaGreatDoorRows
import GoSem.ClaimGoes
namespace Go.Proofs.YtdpdicldkohflaaGreatDoor.holdStable
open Go.Proofs.YtdpdicldkohflaaGreatDoor
theorem NX{P:Program}(h:P.funcs.any Func.goes=false)(f:FuncId):P.goes f=false:=by
 have h1:∀g:FuncId,(P.funcs[g]?).any Func.goes=false:=λg=>by
  cases hg:P.funcs[g]? with
  |none=>rfl
  |some fn=>rw[Array.any_eq_false'] at h;simpa using h fn (Array.mem_of_getElem? hg)
 unfold Program.goes;rw[h,Bool.and_false,Bool.or_false];exact List.any_eq_false.2 λg _=>by rw[h1 g];decide
theorem Ik{P:Program}(h:P.funcs.any Func.goes=false)(c:OpenClaim)(hs:c.start= .entering):false=c.goesBy P:=by
 unfold OpenClaim.goesBy Program.goesAt Program.goesFrom;rw[hs];cases P.funcNamed c.func with
 |none=>rfl
 |some f=>show false=(P.goes f||false);rw[NX h f];rfl
theorem aaw:Tryz.prog.funcs.any Func.goes=false:=by kernel_rfl
theorem aax:false=Rows.holdStableRow.goesBy Tryz.prog:=Ik aaw _ rfl
theorem mO:false=Tryz.prog.looks []:=by kernel_rfl
theorem Wb:Tryz.prog.mainIs=some (true, "195c00829bb5470001090d0418e3248dd0e854ec1d37ba70e85da5f10342896d".toList):=by kernel_rfl
theorem wf:Rows.holdStableRow.wfByText (OpenSpec.ofChange Rows.holdStableSpec)=true:=by kernel_rfl
theorem Tj:([22,25].all λu=> !Tryz.prog.wantsStandIn u)=true:=by kernel_rfl
end Go.Proofs.YtdpdicldkohflaaGreatDoor.holdStable
