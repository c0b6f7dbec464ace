/- The statement SlotsStaysCardSaid, proved: for any two lists the law answers true, and its arguments read afterwards as they did; op.kinds and roll.asks are tied to the program's text. No conditions. -/
import Derived.Test.YtghphhhpagagbaaGreatDoorCards
import Derived.Test.YtghphhhpagagbaaGreatDoorTie
import Derived.Test.YtghphhhpagagbaaGreatDoorPSPAS
import Derived.Test.YtghphhhpagagbaaGreatDoorPSPBS
import Derived.Test.YtghphhhpagagbaaGreatDoorPSPCS
namespace Go.Proofs.YtghphhhpagagbaaGreatDoor.slotsStays
open Go.ChangeShapes Go.WideShapes Go.ChangeAt Go.RowKit Go.Joins Go.Proofs.YtghphhhpagagbaaGreatDoor
theorem over:Rows.SlotsStaysSaid:=
 OpenClaim.holds_of_wide 6 Tryz.f6 rfl rfl rfl rfl rfl rfl rfl ⟨rfl,rfl,rfl,rfl,rfl⟩ rfl rfl rfl rfl rfl Mn Tryz.func6 closed aau aav
  (λos started H enc _=>QA os started H enc)
set_option maxHeartbeats 20000000 in
theorem proved:Rows.SlotsStaysCardSaid:=
 Claim7.holds_tied_plain_at .later [] [.funcs,.data] true (true, "5d534228321810c4a43265d399f0e38b91008de2899e42c528770836b662a2ce") false
  over (λ_ h=>by cases h) wf (λ_ h=>by cases h) slotsStays_row_tie rfl ⟨rfl,rfl⟩ Wb rfl
  (
   λf fn hf hfn=>by
   obtain rfl:f=6:=Bf (Mn.symm.trans hf)|>.symm
   obtain rfl:fn=Tryz.f6:=(Bf (Tryz.func6.symm.trans hfn)).symm
   exact⟨mO,λj t ht=>by
    rw[Tryz.params6] at ht;have hm:t∈[22]:=by simpa using Array.mem_of_getElem? ht
    exact(show Tryz.prog.wantsStandIn t=false by simpa using Ge.1 Tj t hm)⟩)
  aax
#print axioms proved
end Go.Proofs.YtghphhhpagagbaaGreatDoor.slotsStays
