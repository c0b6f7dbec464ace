/- EpochCounts: facts on its row. -/
import Derived.JoinedOf
import Derived.KernelRfl
import Derived.ProofKit
import Derived.Test.YtlijnaneopediaaGreatDoorRows
namespace Go.Proofs.YtlijnaneopediaaGreatDoor.epochCounts
open Go.Proofs.YtlijnaneopediaaGreatDoor
theorem Mn:Tryz.prog.funcNamed "huddle/huddlelaw21.EpochCounts" =some 9:=by kernel_rfl
theorem dE{a b:Bool}(h:a=true)(k:b=true):(a&&b)=true:=by rw[h,k];rfl
set_option maxHeartbeats 20000000 in
theorem closed:joinedFacts Tryz.prog 9 Tryz.f9 Rows.epochCountsSpec Rows.epochCountsRow=true:=by
 unfold joinedFacts;repeat' with_reducible apply dE
 all_goals as_aux_lemma=>kernel_rfl
theorem aau:Tryz.f9.isInstance Tryz.prog Rows.epochCountsRow.origin Rows.epochCountsRow.targs:=of_decide_eq_true (by kernel_rfl)
theorem aav:Tryz.f9.isWrapper Tryz.prog Rows.epochCountsRow.wrapper Rows.epochCountsRow.mainSum:=by unfold Func.isWrapper;first|(rw[if_pos (by decide+kernel)];kernel_rfl)|(rw[if_neg (by decide+kernel)];exact⟨rfl,rfl⟩)
end Go.Proofs.YtlijnaneopediaaGreatDoor.epochCounts
