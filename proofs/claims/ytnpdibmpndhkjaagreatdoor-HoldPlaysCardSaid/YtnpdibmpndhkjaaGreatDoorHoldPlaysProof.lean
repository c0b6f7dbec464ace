/- The statement HoldPlaysCardSaid, proved: for any list, device, lead, acts and public key the law answers true, and its arguments read afterwards as they did; op.kinds and roll.asks are tied to the program's text. No conditions. -/
import Derived.Test.YtnpdibmpndhkjaaGreatDoorCards
import Derived.Test.YtnpdibmpndhkjaaGreatDoorTie
import Derived.Test.YtnpdibmpndhkjaaGreatDoorPSPA
import Derived.Test.YtnpdibmpndhkjaaGreatDoorPSPB
import Derived.Test.YtnpdibmpndhkjaaGreatDoorPSPC
namespace Go.Proofs.YtnpdibmpndhkjaaGreatDoor.holdPlays
open Go.ChangeShapes Go.WideShapes Go.ChangeAt Go.RowKit Go.Joins Go.Proofs.YtnpdibmpndhkjaaGreatDoor
theorem over:Rows.HoldPlaysSaid:=
 OpenClaim.holds_of_wide 3 Tryz.f3 rfl rfl rfl rfl rfl rfl rfl ⟨rfl,rfl,rfl,rfl,rfl⟩ rfl rfl rfl rfl rfl Mn Tryz.func3 closed aau aav
  (λos started H enc _=>QA os started H enc)
set_option maxHeartbeats 20000000 in
theorem proved:Rows.HoldPlaysCardSaid:=
 Claim7.holds_tied_plain_at .later [] [.funcs,.data] true (true, "d60027fd31ffe7b9f121d6d2f38b1e4c306965d136a6eb8b294e3bafcb5f7d17") false
  over (λ_ h=>by cases h) wf (λ_ h=>by cases h) holdPlays_row_tie rfl ⟨rfl,rfl⟩ Wb rfl
  (
   λf fn hf hfn=>by
   obtain rfl:f=3:=bn (Mn.symm.trans hf)|>.symm
   obtain rfl:fn=Tryz.f3:=(bn (Tryz.func3.symm.trans hfn)).symm
   exact⟨mO,λj t ht=>by
    rw[Tryz.params3] at ht;have hm:t∈[22,3,23,22,23]:=by simpa using Array.mem_of_getElem? ht
    exact(show Tryz.prog.wantsStandIn t=false by simpa using List.all_eq_true.1 Tj t hm)⟩)
  aax
#print axioms proved
end Go.Proofs.YtnpdibmpndhkjaaGreatDoor.holdPlays
