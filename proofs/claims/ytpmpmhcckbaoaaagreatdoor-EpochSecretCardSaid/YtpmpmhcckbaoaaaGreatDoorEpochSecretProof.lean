/- The statement EpochSecretCardSaid, proved: for every root and every commit's name the law answers true, and its arguments read afterwards as they did; op.kinds and roll.asks are tied to the program's text. No conditions. The frame is the kit's own shell for tied rows. -/
import Derived.Test.YtpmpmhcckbaoaaaGreatDoorES21A
import Derived.Test.YtpmpmhcckbaoaaaGreatDoorES21B
import Derived.Test.YtpmpmhcckbaoaaaGreatDoorTie
import Derived.Test.YtpmpmhcckbaoaaaGreatDoorCards
import Derived.ProofKit
import Derived.LaidMore
import Derived.OpenShut
import Derived.Stop.Joined
import Derived.SevenTiedAt
import Derived.Lib.SmallJoins
namespace Go.Proofs.YtpmpmhcckbaoaaaGreatDoor.epochSecret
open Go.ChangeShapes Go.WideShapes Go.ChangeAt Go.RowKit Go.Joins Go.Proofs.YtpmpmhcckbaoaaaGreatDoor
theorem over : Rows.EpochSecretSaid :=
  OpenClaim.holds_of_wide 3 Tryz.f3 rfl rfl rfl rfl rfl rfl rfl ⟨rfl, rfl, rfl, rfl, rfl⟩ rfl rfl rfl rfl rfl f_named Tryz.func3 closed inst wrap
    (fun os started H enc _ => lifted os started H enc)
/-- The statement. -/
theorem proved : Rows.EpochSecretCardSaid :=
  Claim7.holds_tied_plain_at .later [] [.funcs, .data] true (true, "eb5f59668ea769577846f3b91c2a501f5f8d44b411ef106c3fc635a97faf42b0") false
    over (fun _ h => by cases h) (by kernel_rfl) (fun _ h => by cases h) epochSecret_row_tie rfl ⟨rfl, rfl⟩ (by kernel_rfl) rfl
    (fun f fn hf hfn => by
      obtain rfl : f = 3 := Option.some.inj (f_named.symm.trans hf) |>.symm
      obtain rfl : fn = Tryz.f3 := (Option.some.inj (Tryz.func3.symm.trans hfn)).symm
      exact ⟨by kernel_rfl, fun j t ht => by
        rw [Tryz.params3] at ht
        have hm : t ∈ [22, 24] := by simpa using Array.mem_of_getElem? ht
        have hall : ([22, 24].all fun u => !Tryz.prog.wantsStandIn u) = true := by kernel_rfl
        exact (show Tryz.prog.wantsStandIn t = false by simpa using List.all_eq_true.1 hall t hm)⟩)
    (by kernel_rfl)
#print axioms proved
end Go.Proofs.YtpmpmhcckbaoaaaGreatDoor.epochSecret
