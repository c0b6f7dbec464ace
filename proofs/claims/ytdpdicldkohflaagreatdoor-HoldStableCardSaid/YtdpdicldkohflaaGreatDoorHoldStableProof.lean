/- The statement HoldStable, of all arguments that can be read: the law answers true -/
import Derived.Test.YtdpdicldkohflaaGreatDoorCards
import Derived.Test.YtdpdicldkohflaaGreatDoorTie
import Derived.Test.YtdpdicldkohflaaGreatDoorPSPAB
import Derived.Test.YtdpdicldkohflaaGreatDoorPSPBB
import Derived.Test.YtdpdicldkohflaaGreatDoorPSPCB
namespace Go.Proofs.YtdpdicldkohflaaGreatDoor.holdStable
open Go.ChangeShapes Go.WideShapes Go.ChangeAt Go.RowKit Go.Joins Go.Proofs.YtdpdicldkohflaaGreatDoor
theorem over:Rows.HoldStableSaid:=
 OpenClaim.holds_of_wide 3 Tryz.f3 rfl rfl rfl rfl rfl rfl rfl ⟨rfl,rfl,rfl,rfl,rfl⟩ rfl rfl rfl rfl rfl Mn Tryz.func3 closed aau aav
  (λos started H enc _=>QA os started H enc)
set_option maxHeartbeats 20000000 in
theorem proved:Rows.HoldStableCardSaid:=
 Claim7.holds_tied_plain_at .later [] [.funcs,.data] true (true, "195c00829bb5470001090d0418e3248dd0e854ec1d37ba70e85da5f10342896d") false
  over (λ_ h=>by cases h) wf (λ_ h=>by cases h) holdStable_row_tie rfl ⟨rfl,rfl⟩ Wb rfl
  (
   λf fn hf hfn=>by
   obtain rfl:f=3:=Bo (Mn.symm.trans hf)|>.symm
   obtain rfl:fn=Tryz.f3:=(Bo (Tryz.func3.symm.trans hfn)).symm
   exact⟨mO,λj t ht=>by
    rw[Tryz.params3] at ht;have hm:t∈[22,25]:=by simpa using Array.mem_of_getElem? ht
    exact(show Tryz.prog.wantsStandIn t=false by simpa using GK.1 Tj t hm)⟩)
  aax
#print axioms proved
end Go.Proofs.YtdpdicldkohflaaGreatDoor.holdStable
