/- SpyCloses: closed facts on its row. -/
import Derived.Test.YtjbbgjbknfoddaaGreatDoorRows
import Derived.ProofKit
import Derived.JoinedOf
import Derived.KernelRfl
namespace Go.Proofs.YtjbbgjbknfoddaaGreatDoor.spyCloses
open Go.Proofs.YtjbbgjbknfoddaaGreatDoor
theorem f_named : Tryz.prog.funcNamed "huddle/huddlelaw34.SpyCloses" = some 5 := by kernel_rfl
theorem band {a b : Bool} (h : a = true) (k : b = true) : (a && b) = true := by rw [h, k]; rfl
set_option maxHeartbeats 20000000 in
theorem closed : joinedFacts Tryz.prog 5 Tryz.f5 Rows.spyClosesSpec Rows.spyClosesRow = true := by
  unfold joinedFacts
  repeat' with_reducible apply band
  all_goals as_aux_lemma => kernel_rfl
theorem inst : Tryz.f5.isInstance Tryz.prog Rows.spyClosesRow.origin Rows.spyClosesRow.targs := of_decide_eq_true (by kernel_rfl)
theorem wrap : Tryz.f5.isWrapper Tryz.prog Rows.spyClosesRow.wrapper Rows.spyClosesRow.mainSum := by unfold Func.isWrapper; first | (rw [if_pos (by decide +kernel)]; kernel_rfl) | (rw [if_neg (by decide +kernel)]; exact ⟨rfl, rfl⟩)
end Go.Proofs.YtjbbgjbknfoddaaGreatDoor.spyCloses
