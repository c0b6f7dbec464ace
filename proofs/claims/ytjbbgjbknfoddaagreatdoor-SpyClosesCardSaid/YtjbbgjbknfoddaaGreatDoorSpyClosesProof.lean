/- The statement SpyClosesCardSaid, proved: for any 4 rows of ints the law answers true, and its arguments read afterwards as they did; op.kinds and roll.asks are tied to the program's text. No conditions. The frame is the kit's own shell for tied rows. -/
import Derived.Test.YtjbbgjbknfoddaaGreatDoorPSMA
import Derived.Test.YtjbbgjbknfoddaaGreatDoorPSMB
import Derived.Test.YtjbbgjbknfoddaaGreatDoorPSMC
import Derived.Test.YtjbbgjbknfoddaaGreatDoorTie
import Derived.Test.YtjbbgjbknfoddaaGreatDoorCards
import Derived.ProofKit
import Derived.LaidMore
import Derived.OpenShut
import Derived.Stop.Joined
import Derived.SevenTiedAt
import Derived.Lib.SmallJoins
namespace Go.Proofs.YtjbbgjbknfoddaaGreatDoor.spyCloses
open Go.ChangeShapes Go.WideShapes Go.ChangeAt Go.RowKit Go.Joins Go.Proofs.YtjbbgjbknfoddaaGreatDoor
theorem over : Rows.SpyClosesSaid :=
  OpenClaim.holds_of_wide 5 Tryz.f5 rfl rfl rfl rfl rfl rfl rfl ⟨rfl, rfl, rfl, rfl, rfl⟩ rfl rfl rfl rfl rfl f_named Tryz.func5 closed inst wrap
    (fun os started H enc _ => lifted os started H enc)
set_option maxHeartbeats 20000000 in
/-- The statement. -/
theorem proved : Rows.SpyClosesCardSaid :=
  Claim7.holds_tied_plain_at .later [] [.funcs, .data] true (true, "25b1c6df0c6b5127aabb3a0d16ce46f4f515ea1e11bea6ed2f775a32fe27b30d") false
    over (fun _ h => by cases h) wf (fun _ h => by cases h) spyCloses_row_tie rfl ⟨rfl, rfl⟩ mainIs rfl
    (fun f fn hf hfn => by
      obtain rfl : f = 5 := Option.some.inj (f_named.symm.trans hf) |>.symm
      obtain rfl : fn = Tryz.f5 := (Option.some.inj (Tryz.func5.symm.trans hfn)).symm
      exact ⟨looks, fun j t ht => by
        rw [Tryz.params5] at ht
        have hm : t ∈ [22, 22, 22, 22] := by simpa using Array.mem_of_getElem? ht
        exact (show Tryz.prog.wantsStandIn t = false by simpa using List.all_eq_true.1 noStand t hm)⟩)
    goes
#print axioms proved
end Go.Proofs.YtjbbgjbknfoddaaGreatDoor.spyCloses
