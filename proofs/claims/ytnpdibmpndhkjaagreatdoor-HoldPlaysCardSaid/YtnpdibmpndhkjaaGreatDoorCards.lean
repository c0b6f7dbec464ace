/-
  DERIVED. GIVEN WITH THE SEED: THE CARDS: each row of YtnpdibmpndhkjaaGreatDoorRows.lean that lists a variable, with what it lists TIED to the program's text (the seventh form; the later family's looks); each row that meets fmt, with fmt's text TOLD by the authors' own Lean function (tested against real Go, not proved from fmt's source: count such statements apart). THE CARD IS WHAT COUNTS. Prove the row's statement (the work); the ties are given (YtnpdibmpndhkjaaGreatDoorTie.lean); close each card by the builder's one call (the guide's Derived/Test/ToyasCard.lean, 'card_holds'). Laid BY PROGRAM, IN A SANDBOX (cutbox-door.mjs). By AI agents, Wed Nov 11 2026. No macro, syntax, notation, axiom, sorry.
-/
import Derived.Test.YtnpdibmpndhkjaaGreatDoorRows
import GoSem.ClaimSeven
namespace Go.Proofs.YtnpdibmpndhkjaaGreatDoor
namespace Rows

/-- THE TIED CARD OF 'huddlelaw23.HoldPlays'. -/
def holdPlaysCard : Claim7 := { stood := { row := holdPlaysRow, standIns := [], harness := (true, "d60027fd31ffe7b9f121d6d2f38b1e4c306965d136a6eb8b294e3bafcb5f7d17"), looks := false }, kinds := [], alts := [], laidByText := true, laidKinds := [.funcs, .data], laidTests := true, laidLooks := .later }
def HoldPlaysCardSaid : Prop := Claim7.holds Tryz.pinned (.plain (OpenSpec.ofChange holdPlaysSpec)) holdPlaysCard

/-- THE SECOND FORM's CARD OF 'huddlelaw23.HoldPlays'. -/
def holdPlaysUptoCard : Claim7 := { stood := { row := holdPlaysUptoRow, standIns := [], harness := (true, "d60027fd31ffe7b9f121d6d2f38b1e4c306965d136a6eb8b294e3bafcb5f7d17"), looks := false }, kinds := [], alts := [], laidByText := true, laidKinds := [.funcs, .data], laidTests := true, laidLooks := .later }
def HoldPlaysUptoCardSaid : Prop := Claim7.holds Tryz.pinned (.plain (OpenSpec.upto holdPlaysSpec)) holdPlaysUptoCard
end Rows
end Go.Proofs.YtnpdibmpndhkjaaGreatDoor
