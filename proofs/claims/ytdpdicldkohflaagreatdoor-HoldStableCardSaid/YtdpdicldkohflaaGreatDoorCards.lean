/-
  DERIVED. GIVEN WITH THE SEED: THE CARDS: each row of YtdpdicldkohflaaGreatDoorRows.lean that lists a variable, with what it lists TIED to the program's text (the seventh form; the later family's looks); each row that meets fmt, with fmt's text TOLD by the authors' own Lean function (tested against real Go, not proved from fmt's source: count such statements apart). THE CARD IS WHAT COUNTS. Prove the row's statement (the work); the ties are given (YtdpdicldkohflaaGreatDoorTie.lean); close each card by the builder's one call (the guide's Derived/Test/ToyasCard.lean, 'card_holds'). Laid BY PROGRAM, IN A SANDBOX (cutbox-door.mjs). By AI agents, Wed Nov 11 2026. No macro, syntax, notation, axiom, sorry.
-/
import Derived.Test.YtdpdicldkohflaaGreatDoorRows
import GoSem.ClaimSeven
namespace Go.Proofs.YtdpdicldkohflaaGreatDoor
namespace Rows

/-- THE TIED CARD OF 'huddlelaw23.HoldStable'. -/
def holdStableCard : Claim7 := { stood := { row := holdStableRow, standIns := [], harness := (true, "195c00829bb5470001090d0418e3248dd0e854ec1d37ba70e85da5f10342896d"), looks := false }, kinds := [], alts := [], laidByText := true, laidKinds := [.funcs, .data], laidTests := true, laidLooks := .later }
def HoldStableCardSaid : Prop := Claim7.holds Tryz.pinned (.plain (OpenSpec.ofChange holdStableSpec)) holdStableCard

/-- THE TIED CARD OF 'huddlelaw23.HoldForward'. -/
def holdForwardCard : Claim7 := { stood := { row := holdForwardRow, standIns := [], harness := (true, "195c00829bb5470001090d0418e3248dd0e854ec1d37ba70e85da5f10342896d"), looks := false }, kinds := [], alts := [], laidByText := true, laidKinds := [.funcs, .data], laidTests := true, laidLooks := .later }
def HoldForwardCardSaid : Prop := Claim7.holds Tryz.pinned (.plain (OpenSpec.ofChange holdForwardSpec)) holdForwardCard

/-- THE TIED CARD OF 'huddlelaw23.HoldStays'. -/
def holdStaysCard : Claim7 := { stood := { row := holdStaysRow, standIns := [], harness := (true, "195c00829bb5470001090d0418e3248dd0e854ec1d37ba70e85da5f10342896d"), looks := false }, kinds := [], alts := [], laidByText := true, laidKinds := [.funcs, .data], laidTests := true, laidLooks := .later }
def HoldStaysCardSaid : Prop := Claim7.holds Tryz.pinned (.plain (OpenSpec.ofChange holdStaysSpec)) holdStaysCard

/-- THE TIED CARD OF 'huddlelaw23.HoldCleans'. -/
def holdCleansCard : Claim7 := { stood := { row := holdCleansRow, standIns := [], harness := (true, "195c00829bb5470001090d0418e3248dd0e854ec1d37ba70e85da5f10342896d"), looks := false }, kinds := [], alts := [], laidByText := true, laidKinds := [.funcs, .data], laidTests := true, laidLooks := .later }
def HoldCleansCardSaid : Prop := Claim7.holds Tryz.pinned (.plain (OpenSpec.ofChange holdCleansSpec)) holdCleansCard

/-- THE SECOND FORM's CARD OF 'huddlelaw23.HoldStable'. -/
def holdStableUptoCard : Claim7 := { stood := { row := holdStableUptoRow, standIns := [], harness := (true, "195c00829bb5470001090d0418e3248dd0e854ec1d37ba70e85da5f10342896d"), looks := false }, kinds := [], alts := [], laidByText := true, laidKinds := [.funcs, .data], laidTests := true, laidLooks := .later }
def HoldStableUptoCardSaid : Prop := Claim7.holds Tryz.pinned (.plain (OpenSpec.upto holdStableSpec)) holdStableUptoCard

/-- THE SECOND FORM's CARD OF 'huddlelaw23.HoldForward'. -/
def holdForwardUptoCard : Claim7 := { stood := { row := holdForwardUptoRow, standIns := [], harness := (true, "195c00829bb5470001090d0418e3248dd0e854ec1d37ba70e85da5f10342896d"), looks := false }, kinds := [], alts := [], laidByText := true, laidKinds := [.funcs, .data], laidTests := true, laidLooks := .later }
def HoldForwardUptoCardSaid : Prop := Claim7.holds Tryz.pinned (.plain (OpenSpec.upto holdForwardSpec)) holdForwardUptoCard

/-- THE SECOND FORM's CARD OF 'huddlelaw23.HoldStays'. -/
def holdStaysUptoCard : Claim7 := { stood := { row := holdStaysUptoRow, standIns := [], harness := (true, "195c00829bb5470001090d0418e3248dd0e854ec1d37ba70e85da5f10342896d"), looks := false }, kinds := [], alts := [], laidByText := true, laidKinds := [.funcs, .data], laidTests := true, laidLooks := .later }
def HoldStaysUptoCardSaid : Prop := Claim7.holds Tryz.pinned (.plain (OpenSpec.upto holdStaysSpec)) holdStaysUptoCard

/-- THE SECOND FORM's CARD OF 'huddlelaw23.HoldCleans'. -/
def holdCleansUptoCard : Claim7 := { stood := { row := holdCleansUptoRow, standIns := [], harness := (true, "195c00829bb5470001090d0418e3248dd0e854ec1d37ba70e85da5f10342896d"), looks := false }, kinds := [], alts := [], laidByText := true, laidKinds := [.funcs, .data], laidTests := true, laidLooks := .later }
def HoldCleansUptoCardSaid : Prop := Claim7.holds Tryz.pinned (.plain (OpenSpec.upto holdCleansSpec)) holdCleansUptoCard
end Rows
end Go.Proofs.YtdpdicldkohflaaGreatDoor
