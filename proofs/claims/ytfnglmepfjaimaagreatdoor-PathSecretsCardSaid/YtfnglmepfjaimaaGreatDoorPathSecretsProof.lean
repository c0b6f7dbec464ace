/- The statement PathSecretsCardSaid, proved: for every number and every two counts the law answers true, and its arguments read afterwards as they did; op.kinds and roll.asks are tied to the program's text. No conditions. The frame is the kit's own shell for tied rows. -/
import Derived.Test.YtfnglmepfjaimaaGreatDoorPS20A
import Derived.Test.YtfnglmepfjaimaaGreatDoorPS20B
import Derived.Test.YtfnglmepfjaimaaGreatDoorPS20C
import Derived.Test.YtfnglmepfjaimaaGreatDoorTie
import Derived.Test.YtfnglmepfjaimaaGreatDoorCards
import Derived.ProofKit
import Derived.LaidMore
import Derived.OpenShut
import Derived.Stop.Joined
import Derived.SevenTiedAt
import Derived.Lib.SmallJoins
namespace Go.Proofs.YtfnglmepfjaimaaGreatDoor.pathSecrets
open Go.ChangeShapes Go.WideShapes Go.ChangeAt Go.RowKit Go.Joins Go.Proofs.YtfnglmepfjaimaaGreatDoor
theorem over : Rows.PathSecretsSaid :=
  OpenClaim.holds_of_wide 3 Tryz.f3 rfl rfl rfl rfl rfl rfl rfl ⟨rfl, rfl, rfl, rfl, rfl⟩ rfl rfl rfl rfl rfl f_named Tryz.func3 closed inst wrap
    (fun os started H enc _ => lifted os started H enc)
set_option maxHeartbeats 20000000 in
/-- The statement. -/
theorem proved : Rows.PathSecretsCardSaid :=
  Claim7.holds_tied_plain_at .later [] [.funcs, .data] true (true, "c859cea4d91f29c36e3f5775765db4d8c94ea2adab5a1a82c2d2c0488e9ff9c7") false
    over (fun _ h => by cases h) wf (fun _ h => by cases h) pathSecrets_row_tie rfl ⟨rfl, rfl⟩ mainIs rfl
    (fun f fn hf hfn => by
      obtain rfl : f = 3 := Option.some.inj (f_named.symm.trans hf) |>.symm
      obtain rfl : fn = Tryz.f3 := (Option.some.inj (Tryz.func3.symm.trans hfn)).symm
      exact ⟨looks, fun j t ht => by
        rw [Tryz.params3] at ht
        have hm : t ∈ [22, 3, 3] := by simpa using Array.mem_of_getElem? ht
        exact (show Tryz.prog.wantsStandIn t = false by simpa using List.all_eq_true.1 noStand t hm)⟩)
    goes
#print axioms proved
end Go.Proofs.YtfnglmepfjaimaaGreatDoor.pathSecrets
