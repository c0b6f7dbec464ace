/-
  DERIVED. GIVEN WITH THE SEED: THE CARDS: each row of YtlimmeehdfbheaaGreatDoorRows.lean that lists a variable, with what it lists TIED to the program's text (the seventh form; the later family's looks); each row that meets fmt, with fmt's text TOLD by the authors' own Lean function (tested against real Go, not proved from fmt's source: count such statements apart). THE CARD IS WHAT COUNTS. Prove the row's statement (the work); the ties are given (YtlimmeehdfbheaaGreatDoorTie.lean); close each card by the builder's one call (the guide's Derived/Test/ToyasCard.lean, 'card_holds'). Laid BY PROGRAM, IN A SANDBOX (cutbox-door.mjs). By AI agents, Wed Nov 11 2026. No macro, syntax, notation, axiom, sorry.
-/
import Derived.Test.YtlimmeehdfbheaaGreatDoorRows
import GoSem.ClaimSeven
namespace Go.Proofs.YtlimmeehdfbheaaGreatDoor
namespace Rows

/-- THE TIED CARD OF 'huddlelaw21.EpochHeals'. -/
def epochHealsCard : Claim7 := { stood := { row := epochHealsRow, standIns := [], harness := (true, "245e7068a58bb363999cdd39d97d54049cf4fe19322c46cf18d2192c20674ef5"), looks := false }, kinds := [], alts := [], laidByText := true, laidKinds := [.funcs, .data], laidTests := true, laidLooks := .later }
def EpochHealsCardSaid : Prop := Claim7.holds Tryz.pinned (.plain (OpenSpec.ofChange epochHealsSpec)) epochHealsCard

/-- THE SECOND FORM's CARD OF 'huddlelaw21.EpochHeals'. -/
def epochHealsUptoCard : Claim7 := { stood := { row := epochHealsUptoRow, standIns := [], harness := (true, "245e7068a58bb363999cdd39d97d54049cf4fe19322c46cf18d2192c20674ef5"), looks := false }, kinds := [], alts := [], laidByText := true, laidKinds := [.funcs, .data], laidTests := true, laidLooks := .later }
def EpochHealsUptoCardSaid : Prop := Claim7.holds Tryz.pinned (.plain (OpenSpec.upto epochHealsSpec)) epochHealsUptoCard
end Rows
end Go.Proofs.YtlimmeehdfbheaaGreatDoor
