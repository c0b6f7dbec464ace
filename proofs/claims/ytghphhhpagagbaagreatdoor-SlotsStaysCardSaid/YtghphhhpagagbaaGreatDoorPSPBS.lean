/- SlotsStays: facts on its row. -/
import Derived.JoinedOf
import Derived.KernelRfl
import Derived.ProofKit
import Derived.Test.YtghphhhpagagbaaGreatDoorRows
namespace Go.Proofs.YtghphhhpagagbaaGreatDoor.slotsStays
open Go.Proofs.YtghphhhpagagbaaGreatDoor
theorem Mn:Tryz.prog.funcNamed "huddle/huddlelaw19.SlotsStays" =some 6:=by kernel_rfl
theorem dE{a b:Bool}(h:a=true)(k:b=true):(a&&b)=true:=by rw[h,k];rfl
set_option maxHeartbeats 20000000 in
theorem closed:joinedFacts Tryz.prog 6 Tryz.f6 Rows.slotsStaysSpec Rows.slotsStaysRow=true:=by
 unfold joinedFacts;repeat' with_reducible apply dE
 all_goals as_aux_lemma=>kernel_rfl
theorem aau:Tryz.f6.isInstance Tryz.prog Rows.slotsStaysRow.origin Rows.slotsStaysRow.targs:=of_decide_eq_true (by kernel_rfl)
theorem aav:Tryz.f6.isWrapper Tryz.prog Rows.slotsStaysRow.wrapper Rows.slotsStaysRow.mainSum:=by unfold Func.isWrapper;first|(rw[if_pos (by decide+kernel)];kernel_rfl)|(rw[if_neg (by decide+kernel)];exact⟨rfl,rfl⟩)
end Go.Proofs.YtghphhhpagagbaaGreatDoor.slotsStays
