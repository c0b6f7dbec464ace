/- SpyLess: closed facts on its row. -/
import Derived.Test.YtjbbgjbknfoddaaGreatDoorRows
import Derived.ProofKit
import Derived.JoinedOf
import Derived.KernelRfl
namespace Go.Proofs.YtjbbgjbknfoddaaGreatDoor.spyLess
open Go.Proofs.YtjbbgjbknfoddaaGreatDoor
theorem f_named : Tryz.prog.funcNamed "huddle/huddlelaw34.SpyLess" = some 4 := by kernel_rfl
theorem band {a b : Bool} (h : a = true) (k : b = true) : (a && b) = true := by rw [h, k]; rfl
set_option maxHeartbeats 20000000 in
theorem closed : joinedFacts Tryz.prog 4 Tryz.f4 Rows.spyLessSpec Rows.spyLessRow = true := by
  unfold joinedFacts
  repeat' with_reducible apply band
  all_goals as_aux_lemma => kernel_rfl
theorem inst : Tryz.f4.isInstance Tryz.prog Rows.spyLessRow.origin Rows.spyLessRow.targs := of_decide_eq_true (by kernel_rfl)
theorem wrap : Tryz.f4.isWrapper Tryz.prog Rows.spyLessRow.wrapper Rows.spyLessRow.mainSum := by unfold Func.isWrapper; first | (rw [if_pos (by decide +kernel)]; kernel_rfl) | (rw [if_neg (by decide +kernel)]; exact ⟨rfl, rfl⟩)
end Go.Proofs.YtjbbgjbknfoddaaGreatDoor.spyLess
