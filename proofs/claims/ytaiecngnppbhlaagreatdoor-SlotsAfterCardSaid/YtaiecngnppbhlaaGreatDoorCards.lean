/-
  DERIVED. GIVEN WITH THE SEED: THE CARDS: each row of YtaiecngnppbhlaaGreatDoorRows.lean that lists a variable, with what it lists TIED to the program's text (the seventh form; the later family's looks); each row that meets fmt, with fmt's text TOLD by the authors' own Lean function (tested against real Go, not proved from fmt's source: count such statements apart). THE CARD IS WHAT COUNTS. Prove the row's statement (the work); the ties are given (YtaiecngnppbhlaaGreatDoorTie.lean); close each card by the builder's one call (the guide's Derived/Test/ToyasCard.lean, 'card_holds'). Laid BY PROGRAM, IN A SANDBOX (cutbox-door.mjs). By AI agents, Wed Nov 11 2026. No macro, syntax, notation, axiom, sorry.
-/
import Derived.Test.YtaiecngnppbhlaaGreatDoorRows
import GoSem.ClaimSeven
namespace Go.Proofs.YtaiecngnppbhlaaGreatDoor
namespace Rows

/-- THE TIED CARD OF 'huddlelaw19.SlotsAfter'. -/
def slotsAfterCard : Claim7 := { stood := { row := slotsAfterRow, standIns := [], harness := (true, "0ae86fb31e32935fe7e0544964c18d57c9f4f33082b4c99a70c3f332bdf4e450"), looks := false }, kinds := [], alts := [], laidByText := true, laidKinds := [.funcs, .data], laidTests := true, laidLooks := .later }
def SlotsAfterCardSaid : Prop := Claim7.holds Tryz.pinned (.plain (OpenSpec.ofChange slotsAfterSpec)) slotsAfterCard

/-- THE SECOND FORM's CARD OF 'huddlelaw19.SlotsAfter'. -/
def slotsAfterUptoCard : Claim7 := { stood := { row := slotsAfterUptoRow, standIns := [], harness := (true, "0ae86fb31e32935fe7e0544964c18d57c9f4f33082b4c99a70c3f332bdf4e450"), looks := false }, kinds := [], alts := [], laidByText := true, laidKinds := [.funcs, .data], laidTests := true, laidLooks := .later }
def SlotsAfterUptoCardSaid : Prop := Claim7.holds Tryz.pinned (.plain (OpenSpec.upto slotsAfterSpec)) slotsAfterUptoCard
end Rows
end Go.Proofs.YtaiecngnppbhlaaGreatDoor
