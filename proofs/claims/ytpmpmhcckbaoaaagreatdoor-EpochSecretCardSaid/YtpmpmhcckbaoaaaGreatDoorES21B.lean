/- EpochSecret: closed facts on its row. -/
import Derived.Test.YtpmpmhcckbaoaaaGreatDoorRows
import Derived.ProofKit
import Derived.JoinedOf
import Derived.KernelRfl
namespace Go.Proofs.YtpmpmhcckbaoaaaGreatDoor.epochSecret
open Go.Proofs.YtpmpmhcckbaoaaaGreatDoor
theorem f_named : Tryz.prog.funcNamed "huddle/huddlelaw21.EpochSecret" = some 3 := by kernel_rfl
theorem closed : joinedFacts Tryz.prog 3 Tryz.f3 Rows.epochSecretSpec Rows.epochSecretRow = true := by kernel_rfl
theorem inst : Tryz.f3.isInstance Tryz.prog Rows.epochSecretRow.origin Rows.epochSecretRow.targs := of_decide_eq_true (by kernel_rfl)
theorem wrap : Tryz.f3.isWrapper Tryz.prog Rows.epochSecretRow.wrapper Rows.epochSecretRow.mainSum := by unfold Func.isWrapper; first | (rw [if_pos (by decide +kernel)]; kernel_rfl) | (rw [if_neg (by decide +kernel)]; exact ⟨rfl, rfl⟩)
end Go.Proofs.YtpmpmhcckbaoaaaGreatDoor.epochSecret
