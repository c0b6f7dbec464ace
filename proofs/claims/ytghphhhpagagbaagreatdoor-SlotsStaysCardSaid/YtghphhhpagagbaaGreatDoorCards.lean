/-
  DERIVED. GIVEN WITH THE SEED: THE CARDS: each row of YtghphhhpagagbaaGreatDoorRows.lean that lists a variable, with what it lists TIED to the program's text (the seventh form; the later family's looks); each row that meets fmt, with fmt's text TOLD by the authors' own Lean function (tested against real Go, not proved from fmt's source: count such statements apart). THE CARD IS WHAT COUNTS. Prove the row's statement (the work); the ties are given (YtghphhhpagagbaaGreatDoorTie.lean); close each card by the builder's one call (the guide's Derived/Test/ToyasCard.lean, 'card_holds'). Laid BY PROGRAM, IN A SANDBOX (cutbox-door.mjs). By AI agents, Wed Nov 11 2026. No macro, syntax, notation, axiom, sorry.
-/
import Derived.Test.YtghphhhpagagbaaGreatDoorRows
import GoSem.ClaimSeven
namespace Go.Proofs.YtghphhhpagagbaaGreatDoor
namespace Rows

/-- THE TIED CARD OF 'huddlelaw19.SlotsCommits'. -/
def slotsCommitsCard : Claim7 := { stood := { row := slotsCommitsRow, standIns := [], harness := (true, "5d534228321810c4a43265d399f0e38b91008de2899e42c528770836b662a2ce"), looks := false }, kinds := [], alts := [], laidByText := true, laidKinds := [.funcs, .data], laidTests := true, laidLooks := .later }
def SlotsCommitsCardSaid : Prop := Claim7.holds Tryz.pinned (.plain (OpenSpec.ofChange slotsCommitsSpec)) slotsCommitsCard

/-- THE TIED CARD OF 'huddlelaw19.SlotsKeys'. -/
def slotsKeysCard : Claim7 := { stood := { row := slotsKeysRow, standIns := [], harness := (true, "5d534228321810c4a43265d399f0e38b91008de2899e42c528770836b662a2ce"), looks := false }, kinds := [], alts := [], laidByText := true, laidKinds := [.funcs, .data], laidTests := true, laidLooks := .later }
def SlotsKeysCardSaid : Prop := Claim7.holds Tryz.pinned (.plain (OpenSpec.ofChange slotsKeysSpec)) slotsKeysCard

/-- THE TIED CARD OF 'huddlelaw19.SlotsOwn'. -/
def slotsOwnCard : Claim7 := { stood := { row := slotsOwnRow, standIns := [], harness := (true, "5d534228321810c4a43265d399f0e38b91008de2899e42c528770836b662a2ce"), looks := false }, kinds := [], alts := [], laidByText := true, laidKinds := [.funcs, .data], laidTests := true, laidLooks := .later }
def SlotsOwnCardSaid : Prop := Claim7.holds Tryz.pinned (.plain (OpenSpec.ofChange slotsOwnSpec)) slotsOwnCard

/-- THE TIED CARD OF 'huddlelaw19.SlotsStays'. -/
def slotsStaysCard : Claim7 := { stood := { row := slotsStaysRow, standIns := [], harness := (true, "5d534228321810c4a43265d399f0e38b91008de2899e42c528770836b662a2ce"), looks := false }, kinds := [], alts := [], laidByText := true, laidKinds := [.funcs, .data], laidTests := true, laidLooks := .later }
def SlotsStaysCardSaid : Prop := Claim7.holds Tryz.pinned (.plain (OpenSpec.ofChange slotsStaysSpec)) slotsStaysCard

/-- THE TIED CARD OF 'huddlelaw19.SlotsLast'. -/
def slotsLastCard : Claim7 := { stood := { row := slotsLastRow, standIns := [], harness := (true, "5d534228321810c4a43265d399f0e38b91008de2899e42c528770836b662a2ce"), looks := false }, kinds := [], alts := [], laidByText := true, laidKinds := [.funcs, .data], laidTests := true, laidLooks := .later }
def SlotsLastCardSaid : Prop := Claim7.holds Tryz.pinned (.plain (OpenSpec.ofChange slotsLastSpec)) slotsLastCard

/-- THE TIED CARD OF 'huddlelaw19.SlotsCovers'. -/
def slotsCoversCard : Claim7 := { stood := { row := slotsCoversRow, standIns := [], harness := (true, "5d534228321810c4a43265d399f0e38b91008de2899e42c528770836b662a2ce"), looks := false }, kinds := [], alts := [], laidByText := true, laidKinds := [.funcs, .data], laidTests := true, laidLooks := .later }
def SlotsCoversCardSaid : Prop := Claim7.holds Tryz.pinned (.plain (OpenSpec.ofChange slotsCoversSpec)) slotsCoversCard

/-- THE TIED CARD OF 'huddlelaw19.SlotsMet'. -/
def slotsMetCard : Claim7 := { stood := { row := slotsMetRow, standIns := [], harness := (true, "5d534228321810c4a43265d399f0e38b91008de2899e42c528770836b662a2ce"), looks := false }, kinds := [], alts := [], laidByText := true, laidKinds := [.funcs, .data], laidTests := true, laidLooks := .later }
def SlotsMetCardSaid : Prop := Claim7.holds Tryz.pinned (.plain (OpenSpec.ofChange slotsMetSpec)) slotsMetCard

/-- THE SECOND FORM's CARD OF 'huddlelaw19.SlotsCommits'. -/
def slotsCommitsUptoCard : Claim7 := { stood := { row := slotsCommitsUptoRow, standIns := [], harness := (true, "5d534228321810c4a43265d399f0e38b91008de2899e42c528770836b662a2ce"), looks := false }, kinds := [], alts := [], laidByText := true, laidKinds := [.funcs, .data], laidTests := true, laidLooks := .later }
def SlotsCommitsUptoCardSaid : Prop := Claim7.holds Tryz.pinned (.plain (OpenSpec.upto slotsCommitsSpec)) slotsCommitsUptoCard

/-- THE SECOND FORM's CARD OF 'huddlelaw19.SlotsKeys'. -/
def slotsKeysUptoCard : Claim7 := { stood := { row := slotsKeysUptoRow, standIns := [], harness := (true, "5d534228321810c4a43265d399f0e38b91008de2899e42c528770836b662a2ce"), looks := false }, kinds := [], alts := [], laidByText := true, laidKinds := [.funcs, .data], laidTests := true, laidLooks := .later }
def SlotsKeysUptoCardSaid : Prop := Claim7.holds Tryz.pinned (.plain (OpenSpec.upto slotsKeysSpec)) slotsKeysUptoCard

/-- THE SECOND FORM's CARD OF 'huddlelaw19.SlotsOwn'. -/
def slotsOwnUptoCard : Claim7 := { stood := { row := slotsOwnUptoRow, standIns := [], harness := (true, "5d534228321810c4a43265d399f0e38b91008de2899e42c528770836b662a2ce"), looks := false }, kinds := [], alts := [], laidByText := true, laidKinds := [.funcs, .data], laidTests := true, laidLooks := .later }
def SlotsOwnUptoCardSaid : Prop := Claim7.holds Tryz.pinned (.plain (OpenSpec.upto slotsOwnSpec)) slotsOwnUptoCard

/-- THE SECOND FORM's CARD OF 'huddlelaw19.SlotsStays'. -/
def slotsStaysUptoCard : Claim7 := { stood := { row := slotsStaysUptoRow, standIns := [], harness := (true, "5d534228321810c4a43265d399f0e38b91008de2899e42c528770836b662a2ce"), looks := false }, kinds := [], alts := [], laidByText := true, laidKinds := [.funcs, .data], laidTests := true, laidLooks := .later }
def SlotsStaysUptoCardSaid : Prop := Claim7.holds Tryz.pinned (.plain (OpenSpec.upto slotsStaysSpec)) slotsStaysUptoCard

/-- THE SECOND FORM's CARD OF 'huddlelaw19.SlotsLast'. -/
def slotsLastUptoCard : Claim7 := { stood := { row := slotsLastUptoRow, standIns := [], harness := (true, "5d534228321810c4a43265d399f0e38b91008de2899e42c528770836b662a2ce"), looks := false }, kinds := [], alts := [], laidByText := true, laidKinds := [.funcs, .data], laidTests := true, laidLooks := .later }
def SlotsLastUptoCardSaid : Prop := Claim7.holds Tryz.pinned (.plain (OpenSpec.upto slotsLastSpec)) slotsLastUptoCard

/-- THE SECOND FORM's CARD OF 'huddlelaw19.SlotsCovers'. -/
def slotsCoversUptoCard : Claim7 := { stood := { row := slotsCoversUptoRow, standIns := [], harness := (true, "5d534228321810c4a43265d399f0e38b91008de2899e42c528770836b662a2ce"), looks := false }, kinds := [], alts := [], laidByText := true, laidKinds := [.funcs, .data], laidTests := true, laidLooks := .later }
def SlotsCoversUptoCardSaid : Prop := Claim7.holds Tryz.pinned (.plain (OpenSpec.upto slotsCoversSpec)) slotsCoversUptoCard

/-- THE SECOND FORM's CARD OF 'huddlelaw19.SlotsMet'. -/
def slotsMetUptoCard : Claim7 := { stood := { row := slotsMetUptoRow, standIns := [], harness := (true, "5d534228321810c4a43265d399f0e38b91008de2899e42c528770836b662a2ce"), looks := false }, kinds := [], alts := [], laidByText := true, laidKinds := [.funcs, .data], laidTests := true, laidLooks := .later }
def SlotsMetUptoCardSaid : Prop := Claim7.holds Tryz.pinned (.plain (OpenSpec.upto slotsMetSpec)) slotsMetUptoCard
end Rows
end Go.Proofs.YtghphhhpagagbaaGreatDoor
