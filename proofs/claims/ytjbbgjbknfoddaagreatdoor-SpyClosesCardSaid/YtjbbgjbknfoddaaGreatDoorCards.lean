/-
  DERIVED. GIVEN WITH THE SEED: THE CARDS: each row of YtjbbgjbknfoddaaGreatDoorRows.lean that lists a variable, with what it lists TIED to the program's text (the seventh form; the later family's looks); each row that meets fmt, with fmt's text TOLD by the authors' own Lean function (tested against real Go, not proved from fmt's source: count such statements apart). THE CARD IS WHAT COUNTS. Prove the row's statement (the work); the ties are given (YtjbbgjbknfoddaaGreatDoorTie.lean); close each card by the builder's one call (the guide's Derived/Test/ToyasCard.lean, 'card_holds'). Laid BY PROGRAM, IN A SANDBOX (cutbox-door.mjs). By AI agents, Wed Nov 11 2026. No macro, syntax, notation, axiom, sorry.
-/
import Derived.Test.YtjbbgjbknfoddaaGreatDoorRows
import GoSem.ClaimSeven
namespace Go.Proofs.YtjbbgjbknfoddaaGreatDoor
namespace Rows

/-- THE TIED CARD OF 'huddlelaw34.SpyReach'. -/
def spyReachCard : Claim7 := { stood := { row := spyReachRow, standIns := [], harness := (true, "25b1c6df0c6b5127aabb3a0d16ce46f4f515ea1e11bea6ed2f775a32fe27b30d"), looks := false }, kinds := [], alts := [], laidByText := true, laidKinds := [.funcs, .data], laidTests := true, laidLooks := .later }
def SpyReachCardSaid : Prop := Claim7.holds Tryz.pinned (.plain (OpenSpec.ofChange spyReachSpec)) spyReachCard

/-- THE TIED CARD OF 'huddlelaw34.SpyLess'. -/
def spyLessCard : Claim7 := { stood := { row := spyLessRow, standIns := [], harness := (true, "25b1c6df0c6b5127aabb3a0d16ce46f4f515ea1e11bea6ed2f775a32fe27b30d"), looks := false }, kinds := [], alts := [], laidByText := true, laidKinds := [.funcs, .data], laidTests := true, laidLooks := .later }
def SpyLessCardSaid : Prop := Claim7.holds Tryz.pinned (.plain (OpenSpec.ofChange spyLessSpec)) spyLessCard

/-- THE TIED CARD OF 'huddlelaw34.SpyCloses'. -/
def spyClosesCard : Claim7 := { stood := { row := spyClosesRow, standIns := [], harness := (true, "25b1c6df0c6b5127aabb3a0d16ce46f4f515ea1e11bea6ed2f775a32fe27b30d"), looks := false }, kinds := [], alts := [], laidByText := true, laidKinds := [.funcs, .data], laidTests := true, laidLooks := .later }
def SpyClosesCardSaid : Prop := Claim7.holds Tryz.pinned (.plain (OpenSpec.ofChange spyClosesSpec)) spyClosesCard

/-- THE SECOND FORM's CARD OF 'huddlelaw34.SpyReach'. -/
def spyReachUptoCard : Claim7 := { stood := { row := spyReachUptoRow, standIns := [], harness := (true, "25b1c6df0c6b5127aabb3a0d16ce46f4f515ea1e11bea6ed2f775a32fe27b30d"), looks := false }, kinds := [], alts := [], laidByText := true, laidKinds := [.funcs, .data], laidTests := true, laidLooks := .later }
def SpyReachUptoCardSaid : Prop := Claim7.holds Tryz.pinned (.plain (OpenSpec.upto spyReachSpec)) spyReachUptoCard

/-- THE SECOND FORM's CARD OF 'huddlelaw34.SpyLess'. -/
def spyLessUptoCard : Claim7 := { stood := { row := spyLessUptoRow, standIns := [], harness := (true, "25b1c6df0c6b5127aabb3a0d16ce46f4f515ea1e11bea6ed2f775a32fe27b30d"), looks := false }, kinds := [], alts := [], laidByText := true, laidKinds := [.funcs, .data], laidTests := true, laidLooks := .later }
def SpyLessUptoCardSaid : Prop := Claim7.holds Tryz.pinned (.plain (OpenSpec.upto spyLessSpec)) spyLessUptoCard

/-- THE SECOND FORM's CARD OF 'huddlelaw34.SpyCloses'. -/
def spyClosesUptoCard : Claim7 := { stood := { row := spyClosesUptoRow, standIns := [], harness := (true, "25b1c6df0c6b5127aabb3a0d16ce46f4f515ea1e11bea6ed2f775a32fe27b30d"), looks := false }, kinds := [], alts := [], laidByText := true, laidKinds := [.funcs, .data], laidTests := true, laidLooks := .later }
def SpyClosesUptoCardSaid : Prop := Claim7.holds Tryz.pinned (.plain (OpenSpec.upto spyClosesSpec)) spyClosesUptoCard
end Rows
end Go.Proofs.YtjbbgjbknfoddaaGreatDoor
