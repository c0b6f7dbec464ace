/- The statement HoldBytesCardSaid, proved: for any bytes, device, lead, acts, place and byte the law answers true, and its arguments read afterwards as they did; op.kinds and roll.asks are tied to the program's text. No conditions. The frame is the kit's own shell for tied rows. -/
import Derived.Test.YtpehhhbmobmedaaGreatDoorPSBA
import Derived.Test.YtpehhhbmobmedaaGreatDoorPSBB
import Derived.Test.YtpehhhbmobmedaaGreatDoorPSBC
import Derived.Test.YtpehhhbmobmedaaGreatDoorTie
import Derived.Test.YtpehhhbmobmedaaGreatDoorCards
import Derived.ProofKit
import Derived.LaidMore
import Derived.OpenShut
import Derived.Stop.Joined
import Derived.SevenTiedAt
import Derived.Lib.SmallJoins
namespace Go.Proofs.YtpehhhbmobmedaaGreatDoor.holdBytes
open Go.ChangeShapes Go.WideShapes Go.ChangeAt Go.RowKit Go.Joins Go.Proofs.YtpehhhbmobmedaaGreatDoor
theorem over:Rows.HoldBytesSaid :=
 OpenClaim.holds_of_wide 3 Tryz.f3 rfl rfl rfl rfl rfl rfl rfl ⟨rfl,rfl,rfl,rfl,rfl⟩ rfl rfl rfl rfl rfl f_named Tryz.func3 closed inst wrap
  (fun os started H enc _ => lifted os started H enc)
set_option maxHeartbeats 20000000 in
theorem proved:Rows.HoldBytesCardSaid :=
 Claim7.holds_tied_plain_at .later [] [.funcs,.data] true (true, "7d58d3271a52bc6ba2212bb28a2e6d6e37f452be835d7590a039375aa68b756b") false
  over (fun _ h => by cases h) wf (fun _ h => by cases h) holdBytes_row_tie rfl ⟨rfl,rfl⟩ mainIs rfl
  (fun f fn hf hfn => by
   obtain rfl:f = 3:=Option.some.inj (f_named.symm.trans hf) |>.symm
   obtain rfl:fn = Tryz.f3:=(Option.some.inj (Tryz.func3.symm.trans hfn)).symm
   exact ⟨looks,fun j t ht => by
    rw [Tryz.params3] at ht
    have hm:t ∈ [22,3,23,24,3,5]:=by simpa using Array.mem_of_getElem? ht
    exact (show Tryz.prog.wantsStandIn t = false by simpa using List.all_eq_true.1 noStand t hm)⟩)
  goes
#print axioms proved
end Go.Proofs.YtpehhhbmobmedaaGreatDoor.holdBytes
