/-
  DERIVED. GIVEN WITH THE SEED: THE CARDS: each row of YtfnglmepfjaimaaGreatDoorRows.lean that lists a variable, with what it lists TIED to the program's text (the seventh form; the later family's looks); each row that meets fmt, with fmt's text TOLD by the authors' own Lean function (tested against real Go, not proved from fmt's source: count such statements apart). THE CARD IS WHAT COUNTS. Prove the row's statement (the work); the ties are given (YtfnglmepfjaimaaGreatDoorTie.lean); close each card by the builder's one call (the guide's Derived/Test/ToyasCard.lean, 'card_holds'). Laid BY PROGRAM, IN A SANDBOX (cutbox-door.mjs). By AI agents, Wed Nov 11 2026. No macro, syntax, notation, axiom, sorry.
-/
import Derived.Test.YtfnglmepfjaimaaGreatDoorRows
import GoSem.ClaimSeven
namespace Go.Proofs.YtfnglmepfjaimaaGreatDoor
namespace Rows

/-- THE TIED CARD OF 'huddlelaw20.PathSecrets'. -/
def pathSecretsCard : Claim7 := { stood := { row := pathSecretsRow, standIns := [], harness := (true, "c859cea4d91f29c36e3f5775765db4d8c94ea2adab5a1a82c2d2c0488e9ff9c7"), looks := false }, kinds := [], alts := [], laidByText := true, laidKinds := [.funcs, .data], laidTests := true, laidLooks := .later }
def PathSecretsCardSaid : Prop := Claim7.holds Tryz.pinned (.plain (OpenSpec.ofChange pathSecretsSpec)) pathSecretsCard

/-- THE TIED CARD OF 'huddlelaw34.SpyLess'. -/
def spyLessCard : Claim7 := { stood := { row := spyLessRow, standIns := [], harness := (true, "c859cea4d91f29c36e3f5775765db4d8c94ea2adab5a1a82c2d2c0488e9ff9c7"), looks := false }, kinds := [], alts := [], laidByText := true, laidKinds := [.funcs, .data], laidTests := true, laidLooks := .later }
def SpyLessCardSaid : Prop := Claim7.holds Tryz.pinned (.plain (OpenSpec.ofChange spyLessSpec)) spyLessCard

/-- THE SECOND FORM's CARD OF 'huddlelaw20.PathSecrets'. -/
def pathSecretsUptoCard : Claim7 := { stood := { row := pathSecretsUptoRow, standIns := [], harness := (true, "c859cea4d91f29c36e3f5775765db4d8c94ea2adab5a1a82c2d2c0488e9ff9c7"), looks := false }, kinds := [], alts := [], laidByText := true, laidKinds := [.funcs, .data], laidTests := true, laidLooks := .later }
def PathSecretsUptoCardSaid : Prop := Claim7.holds Tryz.pinned (.plain (OpenSpec.upto pathSecretsSpec)) pathSecretsUptoCard

/-- THE SECOND FORM's CARD OF 'huddlelaw34.SpyLess'. -/
def spyLessUptoCard : Claim7 := { stood := { row := spyLessUptoRow, standIns := [], harness := (true, "c859cea4d91f29c36e3f5775765db4d8c94ea2adab5a1a82c2d2c0488e9ff9c7"), looks := false }, kinds := [], alts := [], laidByText := true, laidKinds := [.funcs, .data], laidTests := true, laidLooks := .later }
def SpyLessUptoCardSaid : Prop := Claim7.holds Tryz.pinned (.plain (OpenSpec.upto spyLessSpec)) spyLessUptoCard
end Rows
end Go.Proofs.YtfnglmepfjaimaaGreatDoor
