/-
  DERIVED. GIVEN WITH THE SEED: THE CARDS: each row of YtlijnaneopediaaGreatDoorRows.lean that lists a variable, with what it lists TIED to the program's text (the seventh form; the later family's looks); each row that meets fmt, with fmt's text TOLD by the authors' own Lean function (tested against real Go, not proved from fmt's source: count such statements apart). THE CARD IS WHAT COUNTS. Prove the row's statement (the work); the ties are given (YtlijnaneopediaaGreatDoorTie.lean); close each card by the builder's one call (the guide's Derived/Test/ToyasCard.lean, 'card_holds'). Laid BY PROGRAM, IN A SANDBOX (cutbox-door.mjs). By AI agents, Wed Nov 11 2026. No macro, syntax, notation, axiom, sorry.
-/
import Derived.Test.YtlijnaneopediaaGreatDoorRows
import GoSem.ClaimSeven
namespace Go.Proofs.YtlijnaneopediaaGreatDoor
namespace Rows

/-- THE TIED CARD OF 'huddlelaw21.EpochNow'. -/
def epochNowCard : Claim7 := { stood := { row := epochNowRow, standIns := [], harness := (true, "b67172619f78af97923284f26895d104d32f69a7f9727bf1bc068ab4b5246120"), looks := false }, kinds := [], alts := [], laidByText := true, laidKinds := [.funcs, .data], laidTests := true, laidLooks := .later }
def EpochNowCardSaid : Prop := Claim7.holds Tryz.pinned (.plain (OpenSpec.ofChange epochNowSpec)) epochNowCard

/-- THE TIED CARD OF 'huddlelaw21.EpochLast'. -/
def epochLastCard : Claim7 := { stood := { row := epochLastRow, standIns := [], harness := (true, "b67172619f78af97923284f26895d104d32f69a7f9727bf1bc068ab4b5246120"), looks := false }, kinds := [], alts := [], laidByText := true, laidKinds := [.funcs, .data], laidTests := true, laidLooks := .later }
def EpochLastCardSaid : Prop := Claim7.holds Tryz.pinned (.plain (OpenSpec.ofChange epochLastSpec)) epochLastCard

/-- THE TIED CARD OF 'huddlelaw21.EpochOwn'. -/
def epochOwnCard : Claim7 := { stood := { row := epochOwnRow, standIns := [], harness := (true, "b67172619f78af97923284f26895d104d32f69a7f9727bf1bc068ab4b5246120"), looks := false }, kinds := [], alts := [], laidByText := true, laidKinds := [.funcs, .data], laidTests := true, laidLooks := .later }
def EpochOwnCardSaid : Prop := Claim7.holds Tryz.pinned (.plain (OpenSpec.ofChange epochOwnSpec)) epochOwnCard

/-- THE TIED CARD OF 'huddlelaw21.EpochHeals'. -/
def epochHealsCard : Claim7 := { stood := { row := epochHealsRow, standIns := [], harness := (true, "b67172619f78af97923284f26895d104d32f69a7f9727bf1bc068ab4b5246120"), looks := false }, kinds := [], alts := [], laidByText := true, laidKinds := [.funcs, .data], laidTests := true, laidLooks := .later }
def EpochHealsCardSaid : Prop := Claim7.holds Tryz.pinned (.plain (OpenSpec.ofChange epochHealsSpec)) epochHealsCard

/-- THE TIED CARD OF 'huddlelaw21.EpochSound'. -/
def epochSoundCard : Claim7 := { stood := { row := epochSoundRow, standIns := [], harness := (true, "b67172619f78af97923284f26895d104d32f69a7f9727bf1bc068ab4b5246120"), looks := false }, kinds := [], alts := [], laidByText := true, laidKinds := [.funcs, .data], laidTests := true, laidLooks := .later }
def EpochSoundCardSaid : Prop := Claim7.holds Tryz.pinned (.plain (OpenSpec.ofChange epochSoundSpec)) epochSoundCard

/-- THE TIED CARD OF 'huddlelaw21.EpochSame'. -/
def epochSameCard : Claim7 := { stood := { row := epochSameRow, standIns := [], harness := (true, "b67172619f78af97923284f26895d104d32f69a7f9727bf1bc068ab4b5246120"), looks := false }, kinds := [], alts := [], laidByText := true, laidKinds := [.funcs, .data], laidTests := true, laidLooks := .later }
def EpochSameCardSaid : Prop := Claim7.holds Tryz.pinned (.plain (OpenSpec.ofChange epochSameSpec)) epochSameCard

/-- THE TIED CARD OF 'huddlelaw21.EpochCounts'. -/
def epochCountsCard : Claim7 := { stood := { row := epochCountsRow, standIns := [], harness := (true, "b67172619f78af97923284f26895d104d32f69a7f9727bf1bc068ab4b5246120"), looks := false }, kinds := [], alts := [], laidByText := true, laidKinds := [.funcs, .data], laidTests := true, laidLooks := .later }
def EpochCountsCardSaid : Prop := Claim7.holds Tryz.pinned (.plain (OpenSpec.ofChange epochCountsSpec)) epochCountsCard

/-- THE SECOND FORM's CARD OF 'huddlelaw21.EpochNow'. -/
def epochNowUptoCard : Claim7 := { stood := { row := epochNowUptoRow, standIns := [], harness := (true, "b67172619f78af97923284f26895d104d32f69a7f9727bf1bc068ab4b5246120"), looks := false }, kinds := [], alts := [], laidByText := true, laidKinds := [.funcs, .data], laidTests := true, laidLooks := .later }
def EpochNowUptoCardSaid : Prop := Claim7.holds Tryz.pinned (.plain (OpenSpec.upto epochNowSpec)) epochNowUptoCard

/-- THE SECOND FORM's CARD OF 'huddlelaw21.EpochLast'. -/
def epochLastUptoCard : Claim7 := { stood := { row := epochLastUptoRow, standIns := [], harness := (true, "b67172619f78af97923284f26895d104d32f69a7f9727bf1bc068ab4b5246120"), looks := false }, kinds := [], alts := [], laidByText := true, laidKinds := [.funcs, .data], laidTests := true, laidLooks := .later }
def EpochLastUptoCardSaid : Prop := Claim7.holds Tryz.pinned (.plain (OpenSpec.upto epochLastSpec)) epochLastUptoCard

/-- THE SECOND FORM's CARD OF 'huddlelaw21.EpochOwn'. -/
def epochOwnUptoCard : Claim7 := { stood := { row := epochOwnUptoRow, standIns := [], harness := (true, "b67172619f78af97923284f26895d104d32f69a7f9727bf1bc068ab4b5246120"), looks := false }, kinds := [], alts := [], laidByText := true, laidKinds := [.funcs, .data], laidTests := true, laidLooks := .later }
def EpochOwnUptoCardSaid : Prop := Claim7.holds Tryz.pinned (.plain (OpenSpec.upto epochOwnSpec)) epochOwnUptoCard

/-- THE SECOND FORM's CARD OF 'huddlelaw21.EpochHeals'. -/
def epochHealsUptoCard : Claim7 := { stood := { row := epochHealsUptoRow, standIns := [], harness := (true, "b67172619f78af97923284f26895d104d32f69a7f9727bf1bc068ab4b5246120"), looks := false }, kinds := [], alts := [], laidByText := true, laidKinds := [.funcs, .data], laidTests := true, laidLooks := .later }
def EpochHealsUptoCardSaid : Prop := Claim7.holds Tryz.pinned (.plain (OpenSpec.upto epochHealsSpec)) epochHealsUptoCard

/-- THE SECOND FORM's CARD OF 'huddlelaw21.EpochSound'. -/
def epochSoundUptoCard : Claim7 := { stood := { row := epochSoundUptoRow, standIns := [], harness := (true, "b67172619f78af97923284f26895d104d32f69a7f9727bf1bc068ab4b5246120"), looks := false }, kinds := [], alts := [], laidByText := true, laidKinds := [.funcs, .data], laidTests := true, laidLooks := .later }
def EpochSoundUptoCardSaid : Prop := Claim7.holds Tryz.pinned (.plain (OpenSpec.upto epochSoundSpec)) epochSoundUptoCard

/-- THE SECOND FORM's CARD OF 'huddlelaw21.EpochSame'. -/
def epochSameUptoCard : Claim7 := { stood := { row := epochSameUptoRow, standIns := [], harness := (true, "b67172619f78af97923284f26895d104d32f69a7f9727bf1bc068ab4b5246120"), looks := false }, kinds := [], alts := [], laidByText := true, laidKinds := [.funcs, .data], laidTests := true, laidLooks := .later }
def EpochSameUptoCardSaid : Prop := Claim7.holds Tryz.pinned (.plain (OpenSpec.upto epochSameSpec)) epochSameUptoCard

/-- THE SECOND FORM's CARD OF 'huddlelaw21.EpochCounts'. -/
def epochCountsUptoCard : Claim7 := { stood := { row := epochCountsUptoRow, standIns := [], harness := (true, "b67172619f78af97923284f26895d104d32f69a7f9727bf1bc068ab4b5246120"), looks := false }, kinds := [], alts := [], laidByText := true, laidKinds := [.funcs, .data], laidTests := true, laidLooks := .later }
def EpochCountsUptoCardSaid : Prop := Claim7.holds Tryz.pinned (.plain (OpenSpec.upto epochCountsSpec)) epochCountsUptoCard
end Rows
end Go.Proofs.YtlijnaneopediaaGreatDoor
