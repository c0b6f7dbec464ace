/-
  DERIVED. GIVEN WITH THE SEED: THE CARDS: each row of YtpehhhbmobmedaaGreatDoorRows.lean that lists a variable, with what it lists TIED to the program's text (the seventh form; the later family's looks); each row that meets fmt, with fmt's text TOLD by the authors' own Lean function (tested against real Go, not proved from fmt's source: count such statements apart). THE CARD IS WHAT COUNTS. Prove the row's statement (the work); the ties are given (YtpehhhbmobmedaaGreatDoorTie.lean); close each card by the builder's one call (the guide's Derived/Test/ToyasCard.lean, 'card_holds'). Laid BY PROGRAM, IN A SANDBOX (cutbox-door.mjs). By AI agents, Wed Nov 11 2026. No macro, syntax, notation, axiom, sorry.
-/
import Derived.Test.YtpehhhbmobmedaaGreatDoorRows
import GoSem.ClaimSeven
namespace Go.Proofs.YtpehhhbmobmedaaGreatDoor
namespace Rows

/-- THE TIED CARD OF 'huddlelaw23.HoldBytes'. -/
def holdBytesCard : Claim7 := { stood := { row := holdBytesRow, standIns := [], harness := (true, "7d58d3271a52bc6ba2212bb28a2e6d6e37f452be835d7590a039375aa68b756b"), looks := false }, kinds := [], alts := [], laidByText := true, laidKinds := [.funcs, .data], laidTests := true, laidLooks := .later }
def HoldBytesCardSaid : Prop := Claim7.holds Tryz.pinned (.plain (OpenSpec.ofChange holdBytesSpec)) holdBytesCard

/-- THE SECOND FORM's CARD OF 'huddlelaw23.HoldBytes'. -/
def holdBytesUptoCard : Claim7 := { stood := { row := holdBytesUptoRow, standIns := [], harness := (true, "7d58d3271a52bc6ba2212bb28a2e6d6e37f452be835d7590a039375aa68b756b"), looks := false }, kinds := [], alts := [], laidByText := true, laidKinds := [.funcs, .data], laidTests := true, laidLooks := .later }
def HoldBytesUptoCardSaid : Prop := Claim7.holds Tryz.pinned (.plain (OpenSpec.upto holdBytesSpec)) holdBytesUptoCard
end Rows
end Go.Proofs.YtpehhhbmobmedaaGreatDoor
