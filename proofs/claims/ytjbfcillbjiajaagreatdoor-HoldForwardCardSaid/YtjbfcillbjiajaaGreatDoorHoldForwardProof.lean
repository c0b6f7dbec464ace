/- The statement HoldForward, of all arguments that can be read: the law answers true -/
import Derived.Test.YtjbfcillbjiajaaGreatDoorCards
import Derived.Test.YtjbfcillbjiajaaGreatDoorTie
import Derived.Test.YtjbfcillbjiajaaGreatDoorPSPAB
import Derived.Test.YtjbfcillbjiajaaGreatDoorPSPBB
import Derived.Test.YtjbfcillbjiajaaGreatDoorPSPCB
namespace Go.Proofs.YtjbfcillbjiajaaGreatDoor.holdForward
open Go.ChangeShapes Go.WideShapes Go.ChangeAt Go.RowKit Go.Joins Go.Proofs.YtjbfcillbjiajaaGreatDoor
theorem over:Rows.HoldForwardSaid:=
 OpenClaim.holds_of_wide 3 Tryz.f3 rfl rfl rfl rfl rfl rfl rfl ⟨rfl,rfl,rfl,rfl,rfl⟩ rfl rfl rfl rfl rfl Mn Tryz.func3 closed aau aav
  (λos started H enc _=>QA os started H enc)
set_option maxHeartbeats 20000000 in
theorem proved:Rows.HoldForwardCardSaid:=
 Claim7.holds_tied_plain_at .later [] [.funcs,.data] true (true, "12de3df7f8fd5052c1d437efe8ebc28d9af3e88e420c471a09f8871fad24bdca") false
  over (λ_ h=>by cases h) wf (λ_ h=>by cases h) holdForward_row_tie rfl ⟨rfl,rfl⟩ Wb rfl
  (
   λf fn hf hfn=>by
   obtain rfl:f=3:=Bp (Mn.symm.trans hf)|>.symm
   obtain rfl:fn=Tryz.f3:=(Bp (Tryz.func3.symm.trans hfn)).symm
   exact⟨mO,λj t ht=>by
    rw[Tryz.params3] at ht;have hm:t∈[22,3]:=by simpa using Array.mem_of_getElem? ht
    exact(show Tryz.prog.wantsStandIn t=false by simpa using GV.1 Tj t hm)⟩)
  aax
#print axioms proved
end Go.Proofs.YtjbfcillbjiajaaGreatDoor.holdForward
