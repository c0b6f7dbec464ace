/- HoldForward: facts for its card. -/
import Derived.KernelRfl
import Derived.ProofKit
import Derived.SevenTiedAt
import Derived.Test.YtjbfcillbjiajaaGreatDoorRows
import GoSem.ClaimGoes
namespace Go.Proofs.YtjbfcillbjiajaaGreatDoor.holdForward
open Go.Proofs.YtjbfcillbjiajaaGreatDoor
theorem NX{P:Program}(h:P.funcs.any Func.goes=false)(f:FuncId):P.goes f=false:=by
 have h1:∀g:FuncId,(P.funcs[g]?).any Func.goes=false:=λg=>by
  cases hg:P.funcs[g]? with
  |none=>rfl
  |some fn=>rw[Array.any_eq_false'] at h;simpa using h fn (Array.mem_of_getElem? hg)
 unfold Program.goes;rw[h,Bool.and_false,Bool.or_false];exact List.any_eq_false.2 λg _=>by rw[h1 g];decide
theorem Ik{P:Program}(h:P.funcs.any Func.goes=false)(c:OpenClaim)(hs:c.start= .entering):false=c.goesBy P:=by
 unfold OpenClaim.goesBy Program.goesAt Program.goesFrom;rw[hs];cases P.funcNamed c.func with
 |none=>rfl
 |some f=>show false=(P.goes f||false);rw[NX h f];rfl
theorem aaw:Tryz.prog.funcs.any Func.goes=false:=by kernel_rfl
theorem aax:false=Rows.holdForwardRow.goesBy Tryz.prog:=Ik aaw _ rfl
theorem mO:false=Tryz.prog.looks []:=by kernel_rfl
theorem Wb:Tryz.prog.mainIs=some (true, "12de3df7f8fd5052c1d437efe8ebc28d9af3e88e420c471a09f8871fad24bdca".toList):=by kernel_rfl
theorem wf:Rows.holdForwardRow.wfByText (OpenSpec.ofChange Rows.holdForwardSpec)=true:=by kernel_rfl
theorem Tj:([22,3].all λu=> !Tryz.prog.wantsStandIn u)=true:=by kernel_rfl
end Go.Proofs.YtjbfcillbjiajaaGreatDoor.holdForward
