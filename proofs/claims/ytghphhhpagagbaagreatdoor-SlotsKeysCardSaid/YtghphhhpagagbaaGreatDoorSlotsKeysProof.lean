/- The statement SlotsKeysCardSaid, proved: for any three lists the law answers true, and its arguments read afterwards as they did; op.kinds and roll.asks are tied to the program's text. No conditions. -/
import Derived.Test.YtghphhhpagagbaaGreatDoorCards
import Derived.Test.YtghphhhpagagbaaGreatDoorTie
import Derived.Test.YtghphhhpagagbaaGreatDoorPSPAK
import Derived.Test.YtghphhhpagagbaaGreatDoorPSPBK
import Derived.Test.YtghphhhpagagbaaGreatDoorPSPCK
namespace Go.Proofs.YtghphhhpagagbaaGreatDoor.slotsKeys
open Go.ChangeShapes Go.WideShapes Go.ChangeAt Go.RowKit Go.Joins Go.Proofs.YtghphhhpagagbaaGreatDoor
theorem over:Rows.SlotsKeysSaid:=
 OpenClaim.holds_of_wide 4 Tryz.f4 rfl rfl rfl rfl rfl rfl rfl ⟨rfl,rfl,rfl,rfl,rfl⟩ rfl rfl rfl rfl rfl Mn Tryz.func4 closed aau aav
  (λos started H enc _=>QA os started H enc)
set_option maxHeartbeats 20000000 in
theorem proved:Rows.SlotsKeysCardSaid:=
 Claim7.holds_tied_plain_at .later [] [.funcs,.data] true (true, "5d534228321810c4a43265d399f0e38b91008de2899e42c528770836b662a2ce") false
  over (λ_ h=>by cases h) wf (λ_ h=>by cases h) slotsKeys_row_tie rfl ⟨rfl,rfl⟩ Wb rfl
  (
   λf fn hf hfn=>by
   obtain rfl:f=4:=Bj (Mn.symm.trans hf)|>.symm
   obtain rfl:fn=Tryz.f4:=(Bj (Tryz.func4.symm.trans hfn)).symm
   exact⟨mO,λj t ht=>by
    rw[Tryz.params4] at ht;have hm:t∈[22]:=by simpa using Array.mem_of_getElem? ht
    exact(show Tryz.prog.wantsStandIn t=false by simpa using GL.1 Tj t hm)⟩)
  aax
#print axioms proved
end Go.Proofs.YtghphhhpagagbaaGreatDoor.slotsKeys
