/- EpochHeals: facts for its card. -/
import Derived.KernelRfl
import Derived.ProofKit
import Derived.SevenTiedAt
import Derived.Test.YtlimmeehdfbheaaGreatDoorRows
import GoSem.ClaimGoes
namespace Go.Proofs.YtlimmeehdfbheaaGreatDoor.epochHeals
open Go.Proofs.YtlimmeehdfbheaaGreatDoor
theorem NX{P:Program}(h:P.funcs.any Func.goes=false)(f:FuncId):P.goes f=false:=by
 have h1:∀g:FuncId,(P.funcs[g]?).any Func.goes=false:=λg=>by
  cases hg:P.funcs[g]? with
  |none=>rfl
  |some fn=>rw[Array.any_eq_false'] at h;simpa using h fn (Array.mem_of_getElem? hg)
 unfold Program.goes;rw[h,Bool.and_false,Bool.or_false];exact List.any_eq_false.2 λg _=>by rw[h1 g];decide
theorem Ik{P:Program}(h:P.funcs.any Func.goes=false)(c:OpenClaim)(hs:c.start= .entering):false=c.goesBy P:=by
 unfold OpenClaim.goesBy Program.goesAt Program.goesFrom;rw[hs];cases P.funcNamed c.func with
 |none=>rfl
 |some f=>show false=(P.goes f||false);rw[NX h f];rfl
theorem aaw:Tryz.prog.funcs.any Func.goes=false:=by kernel_rfl
theorem aax:false=Rows.epochHealsRow.goesBy Tryz.prog:=Ik aaw _ rfl
theorem mO:false=Tryz.prog.looks []:=by kernel_rfl
theorem Wb:Tryz.prog.mainIs=some (true, "245e7068a58bb363999cdd39d97d54049cf4fe19322c46cf18d2192c20674ef5".toList):=by kernel_rfl
theorem wf:Rows.epochHealsRow.wfByText (OpenSpec.ofChange Rows.epochHealsSpec)=true:=by kernel_rfl
theorem Tj:([22,3].all λu=> !Tryz.prog.wantsStandIn u)=true:=by kernel_rfl
end Go.Proofs.YtlimmeehdfbheaaGreatDoor.epochHeals
