/-
  DERIVED. GIVEN WITH THE SEED: THE CARDS: each row of YtjbfcillbjiajaaGreatDoorRows.lean that lists a variable, with what it lists TIED to the program's text (the seventh form; the later family's looks); each row that meets fmt, with fmt's text TOLD by the authors' own Lean function (tested against real Go, not proved from fmt's source: count such statements apart). THE CARD IS WHAT COUNTS. Prove the row's statement (the work); the ties are given (YtjbfcillbjiajaaGreatDoorTie.lean); close each card by the builder's one call (the guide's Derived/Test/ToyasCard.lean, 'card_holds'). Laid BY PROGRAM, IN A SANDBOX (cutbox-door.mjs). By AI agents, Wed Nov 11 2026. No macro, syntax, notation, axiom, sorry.
-/
import Derived.Test.YtjbfcillbjiajaaGreatDoorRows
import GoSem.ClaimSeven
namespace Go.Proofs.YtjbfcillbjiajaaGreatDoor
namespace Rows

/-- THE TIED CARD OF 'huddlelaw23.HoldForward'. -/
def holdForwardCard : Claim7 := { stood := { row := holdForwardRow, standIns := [], harness := (true, "12de3df7f8fd5052c1d437efe8ebc28d9af3e88e420c471a09f8871fad24bdca"), looks := false }, kinds := [], alts := [], laidByText := true, laidKinds := [.funcs, .data], laidTests := true, laidLooks := .later }
def HoldForwardCardSaid : Prop := Claim7.holds Tryz.pinned (.plain (OpenSpec.ofChange holdForwardSpec)) holdForwardCard

/-- THE SECOND FORM's CARD OF 'huddlelaw23.HoldForward'. -/
def holdForwardUptoCard : Claim7 := { stood := { row := holdForwardUptoRow, standIns := [], harness := (true, "12de3df7f8fd5052c1d437efe8ebc28d9af3e88e420c471a09f8871fad24bdca"), looks := false }, kinds := [], alts := [], laidByText := true, laidKinds := [.funcs, .data], laidTests := true, laidLooks := .later }
def HoldForwardUptoCardSaid : Prop := Claim7.holds Tryz.pinned (.plain (OpenSpec.upto holdForwardSpec)) holdForwardUptoCard
end Rows
end Go.Proofs.YtjbfcillbjiajaaGreatDoor
