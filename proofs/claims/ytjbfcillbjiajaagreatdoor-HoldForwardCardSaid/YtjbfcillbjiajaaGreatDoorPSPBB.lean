/- HoldForward: facts on its row. -/
import Derived.JoinedOf
import Derived.KernelRfl
import Derived.ProofKit
import Derived.Test.YtjbfcillbjiajaaGreatDoorRows
namespace Go.Proofs.YtjbfcillbjiajaaGreatDoor.holdForward
open Go.Proofs.YtjbfcillbjiajaaGreatDoor
theorem Mn:Tryz.prog.funcNamed "huddle/huddlelaw23.HoldForward" =some 3:=by kernel_rfl
theorem dE{a b:Bool}(h:a=true)(k:b=true):(a&&b)=true:=by rw[h,k];rfl
set_option maxHeartbeats 20000000 in
theorem closed:joinedFacts Tryz.prog 3 Tryz.f3 Rows.holdForwardSpec Rows.holdForwardRow=true:=by
 unfold joinedFacts;repeat' with_reducible apply dE
 all_goals as_aux_lemma=>kernel_rfl
theorem aau:Tryz.f3.isInstance Tryz.prog Rows.holdForwardRow.origin Rows.holdForwardRow.targs:=of_decide_eq_true (by kernel_rfl)
theorem aav:Tryz.f3.isWrapper Tryz.prog Rows.holdForwardRow.wrapper Rows.holdForwardRow.mainSum:=by unfold Func.isWrapper;first|(rw[if_pos (by decide+kernel)];kernel_rfl)|(rw[if_neg (by decide+kernel)];exact⟨rfl,rfl⟩)
end Go.Proofs.YtjbfcillbjiajaaGreatDoor.holdForward
