/- SlotsStays: facts for its card. -/
import Derived.KernelRfl
import Derived.ProofKit
import Derived.SevenTiedAt
import Derived.Test.YtghphhhpagagbaaGreatDoorRows
import GoSem.ClaimGoes
namespace Go.Proofs.YtghphhhpagagbaaGreatDoor.slotsStays
open Go.Proofs.YtghphhhpagagbaaGreatDoor
theorem NX{P:Program}(h:P.funcs.any Func.goes=false)(f:FuncId):P.goes f=false:=by
 have h1:∀g:FuncId,(P.funcs[g]?).any Func.goes=false:=λg=>by
  cases hg:P.funcs[g]? with
  |none=>rfl
  |some fn=>rw[Array.any_eq_false'] at h;simpa using h fn (Array.mem_of_getElem? hg)
 unfold Program.goes;rw[h,Bool.and_false,Bool.or_false];exact List.any_eq_false.2 λg _=>by rw[h1 g];decide
theorem Ik{P:Program}(h:P.funcs.any Func.goes=false)(c:OpenClaim)(hs:c.start= .entering):false=c.goesBy P:=by
 unfold OpenClaim.goesBy Program.goesAt Program.goesFrom;rw[hs];cases P.funcNamed c.func with
 |none=>rfl
 |some f=>show false=(P.goes f||false);rw[NX h f];rfl
theorem aaw:Tryz.prog.funcs.any Func.goes=false:=by kernel_rfl
theorem aax:false=Rows.slotsStaysRow.goesBy Tryz.prog:=Ik aaw _ rfl
theorem mO:false=Tryz.prog.looks []:=by kernel_rfl
theorem Wb:Tryz.prog.mainIs=some (true, "5d534228321810c4a43265d399f0e38b91008de2899e42c528770836b662a2ce".toList):=by kernel_rfl
theorem wf:Rows.slotsStaysRow.wfByText (OpenSpec.ofChange Rows.slotsStaysSpec)=true:=by kernel_rfl
theorem Tj:([22].all λu=> !Tryz.prog.wantsStandIn u)=true:=by kernel_rfl
end Go.Proofs.YtghphhhpagagbaaGreatDoor.slotsStays
