/- HoldBytes: closed facts on its row. -/
import Derived.Test.YtpehhhbmobmedaaGreatDoorRows
import Derived.ProofKit
import Derived.JoinedOf
import Derived.KernelRfl
namespace Go.Proofs.YtpehhhbmobmedaaGreatDoor.holdBytes
open Go.Proofs.YtpehhhbmobmedaaGreatDoor
theorem f_named:Tryz.prog.funcNamed "huddle/huddlelaw23.HoldBytes" = some 3:=by kernel_rfl
theorem band {a b:Bool} (h:a = true) (k:b = true):(a && b) = true:=by rw [h,k]; rfl
set_option maxHeartbeats 20000000 in
theorem closed:joinedFacts Tryz.prog 3 Tryz.f3 Rows.holdBytesSpec Rows.holdBytesRow = true:=by
 unfold joinedFacts
 repeat' with_reducible apply band
 all_goals as_aux_lemma => kernel_rfl
theorem inst:Tryz.f3.isInstance Tryz.prog Rows.holdBytesRow.origin Rows.holdBytesRow.targs:=of_decide_eq_true (by kernel_rfl)
theorem wrap:Tryz.f3.isWrapper Tryz.prog Rows.holdBytesRow.wrapper Rows.holdBytesRow.mainSum:=by unfold Func.isWrapper; first | (rw [if_pos (by decide +kernel)]; kernel_rfl) | (rw [if_neg (by decide +kernel)]; exact ⟨rfl,rfl⟩)
end Go.Proofs.YtpehhhbmobmedaaGreatDoor.holdBytes
