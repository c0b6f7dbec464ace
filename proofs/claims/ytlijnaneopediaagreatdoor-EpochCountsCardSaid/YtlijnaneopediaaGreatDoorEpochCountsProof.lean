/- The statement EpochCountsCardSaid, proved: for any list the law answers true, and its argument reads afterwards as it did; op.kinds and roll.asks are tied to the program's text. No conditions. -/
import Derived.Test.YtlijnaneopediaaGreatDoorCards
import Derived.Test.YtlijnaneopediaaGreatDoorTie
import Derived.Test.YtlijnaneopediaaGreatDoorPSPAC
import Derived.Test.YtlijnaneopediaaGreatDoorPSPBC
import Derived.Test.YtlijnaneopediaaGreatDoorPSPCC
namespace Go.Proofs.YtlijnaneopediaaGreatDoor.epochCounts
open Go.ChangeShapes Go.WideShapes Go.ChangeAt Go.RowKit Go.Joins Go.Proofs.YtlijnaneopediaaGreatDoor
theorem over:Rows.EpochCountsSaid:=
 OpenClaim.holds_of_wide 9 Tryz.f9 rfl rfl rfl rfl rfl rfl rfl ⟨rfl,rfl,rfl,rfl,rfl⟩ rfl rfl rfl rfl rfl Mn Tryz.func9 closed aau aav
  (λos started H enc _=>QA os started H enc)
set_option maxHeartbeats 20000000 in
theorem proved:Rows.EpochCountsCardSaid:=
 Claim7.holds_tied_plain_at .later [] [.funcs,.data] true (true, "b67172619f78af97923284f26895d104d32f69a7f9727bf1bc068ab4b5246120") false
  over (λ_ h=>by cases h) wf (λ_ h=>by cases h) epochCounts_row_tie rfl ⟨rfl,rfl⟩ Wb rfl
  (
   λf fn hf hfn=>by
   obtain rfl:f=9:=Bo (Mn.symm.trans hf)|>.symm
   obtain rfl:fn=Tryz.f9:=(Bo (Tryz.func9.symm.trans hfn)).symm
   exact⟨mO,λj t ht=>by
    rw[Tryz.params9] at ht;have hm:t∈[22]:=by simpa using Array.mem_of_getElem? ht
    exact(show Tryz.prog.wantsStandIn t=false by simpa using Hd.1 Tj t hm)⟩)
  aax
#print axioms proved
end Go.Proofs.YtlijnaneopediaaGreatDoor.epochCounts
