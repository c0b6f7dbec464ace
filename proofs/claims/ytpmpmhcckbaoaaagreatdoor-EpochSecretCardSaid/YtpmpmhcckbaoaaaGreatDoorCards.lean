/-
  DERIVED. GIVEN WITH THE SEED: THE CARDS: each row of YtpmpmhcckbaoaaaGreatDoorRows.lean that lists a variable, with what it lists TIED to the program's text (the seventh form; the later family's looks); each row that meets fmt, with fmt's text TOLD by the authors' own Lean function (tested against real Go, not proved from fmt's source: count such statements apart). THE CARD IS WHAT COUNTS. Prove the row's statement (the work); the ties are given (YtpmpmhcckbaoaaaGreatDoorTie.lean); close each card by the builder's one call (the guide's Derived/Test/ToyasCard.lean, 'card_holds'). Laid BY PROGRAM, IN A SANDBOX (cutbox-door.mjs). By AI agents, Wed Nov 11 2026. No macro, syntax, notation, axiom, sorry.
-/
import Derived.Test.YtpmpmhcckbaoaaaGreatDoorRows
import GoSem.ClaimSeven
namespace Go.Proofs.YtpmpmhcckbaoaaaGreatDoor
namespace Rows

/-- THE TIED CARD OF 'huddlelaw21.EpochSecret'. -/
def epochSecretCard : Claim7 := { stood := { row := epochSecretRow, standIns := [], harness := (true, "eb5f59668ea769577846f3b91c2a501f5f8d44b411ef106c3fc635a97faf42b0"), looks := false }, kinds := [], alts := [], laidByText := true, laidKinds := [.funcs, .data], laidTests := true, laidLooks := .later }
def EpochSecretCardSaid : Prop := Claim7.holds Tryz.pinned (.plain (OpenSpec.ofChange epochSecretSpec)) epochSecretCard

/-- THE SECOND FORM's CARD OF 'huddlelaw21.EpochSecret'. -/
def epochSecretUptoCard : Claim7 := { stood := { row := epochSecretUptoRow, standIns := [], harness := (true, "eb5f59668ea769577846f3b91c2a501f5f8d44b411ef106c3fc635a97faf42b0"), looks := false }, kinds := [], alts := [], laidByText := true, laidKinds := [.funcs, .data], laidTests := true, laidLooks := .later }
def EpochSecretUptoCardSaid : Prop := Claim7.holds Tryz.pinned (.plain (OpenSpec.upto epochSecretSpec)) epochSecretUptoCard
end Rows
end Go.Proofs.YtpmpmhcckbaoaaaGreatDoor
