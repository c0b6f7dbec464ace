/- The statement SlotsAfterCardSaid, proved: for any list and any two numbers the law answers true, and its arguments read afterwards as they did; op.kinds and roll.asks are tied to the program's text. No conditions. -/
import Derived.Test.YtaiecngnppbhlaaGreatDoorCards
import Derived.Test.YtaiecngnppbhlaaGreatDoorTie
import Derived.Test.YtaiecngnppbhlaaGreatDoorPSPA
import Derived.Test.YtaiecngnppbhlaaGreatDoorPSPB
import Derived.Test.YtaiecngnppbhlaaGreatDoorPSPC
namespace Go.Proofs.YtaiecngnppbhlaaGreatDoor.slotsAfter
open Go.ChangeShapes Go.WideShapes Go.ChangeAt Go.RowKit Go.Joins Go.Proofs.YtaiecngnppbhlaaGreatDoor
theorem over:Rows.SlotsAfterSaid:=
 OpenClaim.holds_of_wide 3 Tryz.f3 rfl rfl rfl rfl rfl rfl rfl ⟨rfl,rfl,rfl,rfl,rfl⟩ rfl rfl rfl rfl rfl Mn Tryz.func3 closed aau aav
  (λos started H enc _=>QA os started H enc)
set_option maxHeartbeats 20000000 in
theorem proved:Rows.SlotsAfterCardSaid:=
 Claim7.holds_tied_plain_at .later [] [.funcs,.data] true (true, "0ae86fb31e32935fe7e0544964c18d57c9f4f33082b4c99a70c3f332bdf4e450") false
  over (λ_ h=>by cases h) wf (λ_ h=>by cases h) slotsAfter_row_tie rfl ⟨rfl,rfl⟩ Wb rfl
  (
   λf fn hf hfn=>by
   obtain rfl:f=3:=cP (Mn.symm.trans hf)|>.symm
   obtain rfl:fn=Tryz.f3:=(cP (Tryz.func3.symm.trans hfn)).symm
   exact⟨mO,λj t ht=>by
    rw[Tryz.params3] at ht;have hm:t∈[22,3]:=by simpa using Array.mem_of_getElem? ht
    exact(show Tryz.prog.wantsStandIn t=false by simpa using List.all_eq_true.1 Tj t hm)⟩)
  aax
#print axioms proved
end Go.Proofs.YtaiecngnppbhlaaGreatDoor.slotsAfter
