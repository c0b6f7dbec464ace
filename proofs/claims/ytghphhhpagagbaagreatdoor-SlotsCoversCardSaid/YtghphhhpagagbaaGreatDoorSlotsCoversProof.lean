/- SlotsCoversCardSaid, proved: for any three lists the law answers true, and they read afterwards as they did. No conditions. -/
import Derived.Test.YtghphhhpagagbaaGreatDoorCards
import Derived.Test.YtghphhhpagagbaaGreatDoorTie
import Derived.Test.YtghphhhpagagbaaGreatDoorPSPAV
import Derived.Test.YtghphhhpagagbaaGreatDoorPSPBV
import Derived.Test.YtghphhhpagagbaaGreatDoorPSPCV
namespace Go.Proofs.YtghphhhpagagbaaGreatDoor.slotsCovers
open Go.ChangeShapes Go.WideShapes Go.ChangeAt Go.RowKit Go.Joins Go.Proofs.YtghphhhpagagbaaGreatDoor
theorem over:Rows.SlotsCoversSaid:=
 OpenClaim.holds_of_wide 8 Tryz.f8 rfl rfl rfl rfl rfl rfl rfl ⟨rfl,rfl,rfl,rfl,rfl⟩ rfl rfl rfl rfl rfl Mn Tryz.func8 closed aau aav
  (λos started H enc _=>QA os started H enc)
set_option maxHeartbeats 20000000 in
theorem proved:Rows.SlotsCoversCardSaid:=
 Claim7.holds_tied_plain_at .later [] [.funcs,.data] true (true, "5d534228321810c4a43265d399f0e38b91008de2899e42c528770836b662a2ce") false
  over (λ_ h=>by cases h) wf (λ_ h=>by cases h) slotsCovers_row_tie rfl ⟨rfl,rfl⟩ Wb rfl
  (
   λf fn hf hfn=>by
   obtain rfl:f=8:=Bj (Mn.symm.trans hf)|>.symm
   obtain rfl:fn=Tryz.f8:=(Bj (Tryz.func8.symm.trans hfn)).symm
   exact⟨mO,λj t ht=>by
    rw[Tryz.params8] at ht;have hm:t∈[22]:=by simpa using Array.mem_of_getElem? ht
    exact(show Tryz.prog.wantsStandIn t=false by simpa using GV.1 Tj t hm)⟩)
  aax
#print axioms proved
end Go.Proofs.YtghphhhpagagbaaGreatDoor.slotsCovers
