/- The statement EpochHeals, of all arguments that can be read: the law answers true -/
import Derived.Test.YtlimmeehdfbheaaGreatDoorCards
import Derived.Test.YtlimmeehdfbheaaGreatDoorTie
import Derived.Test.YtlimmeehdfbheaaGreatDoorPSPA
import Derived.Test.YtlimmeehdfbheaaGreatDoorPSPB
import Derived.Test.YtlimmeehdfbheaaGreatDoorPSPC
namespace Go.Proofs.YtlimmeehdfbheaaGreatDoor.epochHeals
open Go.ChangeShapes Go.WideShapes Go.ChangeAt Go.RowKit Go.Joins Go.Proofs.YtlimmeehdfbheaaGreatDoor
theorem over:Rows.EpochHealsSaid:=
 OpenClaim.holds_of_wide 3 Tryz.f3 rfl rfl rfl rfl rfl rfl rfl ⟨rfl,rfl,rfl,rfl,rfl⟩ rfl rfl rfl rfl rfl Mn Tryz.func3 closed aau aav
  (λos started H enc _=>QA os started H enc)
set_option maxHeartbeats 20000000 in
theorem proved:Rows.EpochHealsCardSaid:=
 Claim7.holds_tied_plain_at .later [] [.funcs,.data] true (true, "245e7068a58bb363999cdd39d97d54049cf4fe19322c46cf18d2192c20674ef5") false
  over (λ_ h=>by cases h) wf (λ_ h=>by cases h) epochHeals_row_tie rfl ⟨rfl,rfl⟩ Wb rfl
  (
   λf fn hf hfn=>by
   obtain rfl:f=3:=Bh (Mn.symm.trans hf)|>.symm
   obtain rfl:fn=Tryz.f3:=(Bh (Tryz.func3.symm.trans hfn)).symm
   exact⟨mO,λj t ht=>by
    rw[Tryz.params3] at ht;have hm:t∈[22,3]:=by simpa using Array.mem_of_getElem? ht
    exact(show Tryz.prog.wantsStandIn t=false by simpa using GE.1 Tj t hm)⟩)
  aax
#print axioms proved
end Go.Proofs.YtlimmeehdfbheaaGreatDoor.epochHeals
