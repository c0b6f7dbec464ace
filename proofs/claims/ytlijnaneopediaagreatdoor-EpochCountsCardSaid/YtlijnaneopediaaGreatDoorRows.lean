/-
  NARROWER THAN 'FOR EVERY INPUT', by the rows' own cells (each row's printed sentence says how): EpochNow: laid · EpochLast: laid · EpochOwn: laid · EpochHeals: laid · EpochSound: laid · EpochSame: laid · EpochCounts: laid.
  DERIVED. THE GIVEN ROWS OF THIS SEAT. 7 by the template 'for every input the law returns true; each argument reads behind the call as it read before'; 0 by the template 'total and deterministic' (their statements: YtlijnaneopediaaGreatDoorTotals.lean).
  GIVEN WITH THE SEED: the statements are not yours to turn. If you find one false, say at which input.
  Laid BY PROGRAM, IN A SANDBOX (cutbox-rows.mjs): the forced cells as the released guide's own fill.sh prints them over the translation c3df4835628a22b5… (all of the seat's roots in one cut). By AI agents, Wed Nov 11 2026. No macro, syntax, notation, axiom, sorry.
-/
import Derived.Test.YtlijnaneopediaaGreatDoorChecked
import GoSem.Claim
import GoSem.ClaimJoined
import GoSem.ClaimMapViews
import Derived.JoinedTies
import Derived.KernelRfl
namespace Go.Proofs.YtlijnaneopediaaGreatDoor
/- THE CELL 'sum', in the pinned program and in every row, IS THE sha256 OF THE DUMP (.gsa) THAT YtlijnaneopediaaGreatDoorProg.lean LOADS. Nothing in Lean hashes anything: it is a label: what it is worth is what the hold of that sum in a sandbox is worth. -/
noncomputable def Tryz.pinned : Pinned := { name := "ytlijnaneopediaagreatdoor", sum := "c3df4835628a22b58e4d61b36d9d443d310e59a086bc80f27d3874da4410d4eb", checked := Tryz.checked }
namespace Rows
def none {H : Type} : Left H := { results := [], args := [] }

/- WHAT THE LISTED PACKAGE-LEVEL VARIABLES READ AS WHEN THE CALL BEGINS. Each datum BY PROGRAM (the guide's laid-datum.mjs) off the statement by which the dump's own 'gosem.cut.vars' lays the variable. In a bare row this is a premise. The card (YtlijnaneopediaaGreatDoorCards.lean) ties it to the program's text. -/
def laid_huddle_roll_asks {H : Type} : DataW H := .iface "func table" (.agg [.nil, .nil, .iface "func" (.lit (.string [104, 117, 100, 100, 108, 101, 47, 114, 111, 108, 108, 46, 97, 115, 107, 115, 36, 49])), .iface "func" (.lit (.string [104, 117, 100, 100, 108, 101, 47, 114, 111, 108, 108, 46, 97, 115, 107, 115, 36, 50])), .nil, .iface "func" (.lit (.string [104, 117, 100, 100, 108, 101, 47, 114, 111, 108, 108, 46, 97, 115, 107, 115, 36, 51])), .iface "func" (.lit (.string [104, 117, 100, 100, 108, 101, 47, 114, 111, 108, 108, 46, 97, 115, 107, 115, 36, 52])), .nil, .iface "func" (.lit (.string [104, 117, 100, 100, 108, 101, 47, 114, 111, 108, 108, 46, 97, 115, 107, 115, 36, 53])), .iface "func" (.lit (.string [104, 117, 100, 100, 108, 101, 47, 114, 111, 108, 108, 46, 97, 115, 107, 115, 36, 54])), .iface "func" (.lit (.string [40, 42, 104, 117, 100, 100, 108, 101, 47, 114, 111, 108, 108, 46, 82, 111, 108, 108, 41, 46, 111, 119, 110])), .iface "func" (.lit (.string [104, 117, 100, 100, 108, 101, 47, 114, 111, 108, 108, 46, 97, 115, 107, 115, 36, 55])), .iface "func" (.lit (.string [40, 42, 104, 117, 100, 100, 108, 101, 47, 114, 111, 108, 108, 46, 82, 111, 108, 108, 41, 46, 111, 119, 110])), .iface "func" (.lit (.string [104, 117, 100, 100, 108, 101, 47, 114, 111, 108, 108, 46, 97, 115, 107, 115, 36, 56]))])
def laid_huddle_op_kinds {H : Type} : DataW H := .agg [.lit (.int .i64 0), .lit (.int .i64 2064), .lit (.int .i64 32793), .lit (.int .i64 21), .lit (.int .i64 16), .lit (.int .i64 12), .lit (.int .i64 480), .lit (.int .i64 640), .lit (.int .i64 512), .lit (.int .i64 31744), .lit (.int .i64 8704), .lit (.int .i64 8705), .lit (.int .i64 512), .lit (.int .i64 33299)]

/-- 'huddlelaw21.EpochNow': WHATEVER THE INPUT: true; the input reads as it did. -/
def epochNowSpec : ChangeSpec := { name := "epochNow", fn := fun _ => fun
  | [d1, d2] => { results := [.lit (.bool true)], args := [d1, d2] }
  | _ => none }
def epochNowRow : OpenClaim := { program := "ytlijnaneopediaagreatdoor", sum := "c3df4835628a22b58e4d61b36d9d443d310e59a086bc80f27d3874da4410d4eb", func := "huddle/huddlelaw21.EpochNow", spec := "epochNow", unfollowed := true, recurses := true, named := ["huddle/op.kinds", "huddle/roll.asks"], plainKeys := false, apart := false, laid := [("huddle/roll.asks", laid_huddle_roll_asks), ("huddle/op.kinds", laid_huddle_op_kinds)] }
def EpochNowSaid : Prop := epochNowRow.holds Tryz.pinned (OpenSpec.ofChange epochNowSpec)

/-- ITS FALSE NEIGHBOUR: 'it returns false'. Refute it at one input. -/
def epochNowWrong : ChangeSpec := { name := "epochNow", fn := fun _ => fun
  | [d1, d2] => { results := [.lit (.bool false)], args := [d1, d2] }
  | _ => none }
def EpochNowWrongFalsely : Prop := epochNowRow.holds Tryz.pinned (OpenSpec.ofChange epochNowWrong)

/-- 'huddlelaw21.EpochLast': WHATEVER THE INPUT: true; the input reads as it did. -/
def epochLastSpec : ChangeSpec := { name := "epochLast", fn := fun _ => fun
  | [d1, d2] => { results := [.lit (.bool true)], args := [d1, d2] }
  | _ => none }
def epochLastRow : OpenClaim := { program := "ytlijnaneopediaagreatdoor", sum := "c3df4835628a22b58e4d61b36d9d443d310e59a086bc80f27d3874da4410d4eb", func := "huddle/huddlelaw21.EpochLast", spec := "epochLast", unfollowed := true, recurses := true, named := ["huddle/op.kinds", "huddle/roll.asks"], plainKeys := false, apart := false, laid := [("huddle/roll.asks", laid_huddle_roll_asks), ("huddle/op.kinds", laid_huddle_op_kinds)] }
def EpochLastSaid : Prop := epochLastRow.holds Tryz.pinned (OpenSpec.ofChange epochLastSpec)

/-- ITS FALSE NEIGHBOUR: 'it returns false'. Refute it at one input. -/
def epochLastWrong : ChangeSpec := { name := "epochLast", fn := fun _ => fun
  | [d1, d2] => { results := [.lit (.bool false)], args := [d1, d2] }
  | _ => none }
def EpochLastWrongFalsely : Prop := epochLastRow.holds Tryz.pinned (OpenSpec.ofChange epochLastWrong)

/-- 'huddlelaw21.EpochOwn': WHATEVER THE INPUT: true; the input reads as it did. -/
def epochOwnSpec : ChangeSpec := { name := "epochOwn", fn := fun _ => fun
  | [d1, d2] => { results := [.lit (.bool true)], args := [d1, d2] }
  | _ => none }
def epochOwnRow : OpenClaim := { program := "ytlijnaneopediaagreatdoor", sum := "c3df4835628a22b58e4d61b36d9d443d310e59a086bc80f27d3874da4410d4eb", func := "huddle/huddlelaw21.EpochOwn", spec := "epochOwn", unfollowed := true, recurses := true, named := ["huddle/op.kinds", "huddle/roll.asks"], plainKeys := false, apart := false, laid := [("huddle/roll.asks", laid_huddle_roll_asks), ("huddle/op.kinds", laid_huddle_op_kinds)] }
def EpochOwnSaid : Prop := epochOwnRow.holds Tryz.pinned (OpenSpec.ofChange epochOwnSpec)

/-- ITS FALSE NEIGHBOUR: 'it returns false'. Refute it at one input. -/
def epochOwnWrong : ChangeSpec := { name := "epochOwn", fn := fun _ => fun
  | [d1, d2] => { results := [.lit (.bool false)], args := [d1, d2] }
  | _ => none }
def EpochOwnWrongFalsely : Prop := epochOwnRow.holds Tryz.pinned (OpenSpec.ofChange epochOwnWrong)

/-- 'huddlelaw21.EpochHeals': WHATEVER THE INPUT: true; the input reads as it did. -/
def epochHealsSpec : ChangeSpec := { name := "epochHeals", fn := fun _ => fun
  | [d1, d2] => { results := [.lit (.bool true)], args := [d1, d2] }
  | _ => none }
def epochHealsRow : OpenClaim := { program := "ytlijnaneopediaagreatdoor", sum := "c3df4835628a22b58e4d61b36d9d443d310e59a086bc80f27d3874da4410d4eb", func := "huddle/huddlelaw21.EpochHeals", spec := "epochHeals", unfollowed := true, recurses := true, named := ["huddle/op.kinds", "huddle/roll.asks"], plainKeys := false, apart := false, laid := [("huddle/roll.asks", laid_huddle_roll_asks), ("huddle/op.kinds", laid_huddle_op_kinds)] }
def EpochHealsSaid : Prop := epochHealsRow.holds Tryz.pinned (OpenSpec.ofChange epochHealsSpec)

/-- ITS FALSE NEIGHBOUR: 'it returns false'. Refute it at one input. -/
def epochHealsWrong : ChangeSpec := { name := "epochHeals", fn := fun _ => fun
  | [d1, d2] => { results := [.lit (.bool false)], args := [d1, d2] }
  | _ => none }
def EpochHealsWrongFalsely : Prop := epochHealsRow.holds Tryz.pinned (OpenSpec.ofChange epochHealsWrong)

/-- 'huddlelaw21.EpochSound': WHATEVER THE INPUT: true; the input reads as it did. -/
def epochSoundSpec : ChangeSpec := { name := "epochSound", fn := fun _ => fun
  | [d] => { results := [.lit (.bool true)], args := [d] }
  | _ => none }
def epochSoundRow : OpenClaim := { program := "ytlijnaneopediaagreatdoor", sum := "c3df4835628a22b58e4d61b36d9d443d310e59a086bc80f27d3874da4410d4eb", func := "huddle/huddlelaw21.EpochSound", spec := "epochSound", unfollowed := true, recurses := true, named := ["huddle/op.kinds", "huddle/roll.asks"], plainKeys := false, apart := false, laid := [("huddle/roll.asks", laid_huddle_roll_asks), ("huddle/op.kinds", laid_huddle_op_kinds)] }
def EpochSoundSaid : Prop := epochSoundRow.holds Tryz.pinned (OpenSpec.ofChange epochSoundSpec)

/-- ITS FALSE NEIGHBOUR: 'it returns false'. Refute it at one input. -/
def epochSoundWrong : ChangeSpec := { name := "epochSound", fn := fun _ => fun
  | [d] => { results := [.lit (.bool false)], args := [d] }
  | _ => none }
def EpochSoundWrongFalsely : Prop := epochSoundRow.holds Tryz.pinned (OpenSpec.ofChange epochSoundWrong)

/-- 'huddlelaw21.EpochSame': WHATEVER THE INPUT: true; the input reads as it did. -/
def epochSameSpec : ChangeSpec := { name := "epochSame", fn := fun _ => fun
  | [d1, d2, d3] => { results := [.lit (.bool true)], args := [d1, d2, d3] }
  | _ => none }
def epochSameRow : OpenClaim := { program := "ytlijnaneopediaagreatdoor", sum := "c3df4835628a22b58e4d61b36d9d443d310e59a086bc80f27d3874da4410d4eb", func := "huddle/huddlelaw21.EpochSame", spec := "epochSame", unfollowed := true, recurses := true, named := ["huddle/op.kinds", "huddle/roll.asks"], plainKeys := false, apart := false, laid := [("huddle/roll.asks", laid_huddle_roll_asks), ("huddle/op.kinds", laid_huddle_op_kinds)] }
def EpochSameSaid : Prop := epochSameRow.holds Tryz.pinned (OpenSpec.ofChange epochSameSpec)

/-- ITS FALSE NEIGHBOUR: 'it returns false'. Refute it at one input. -/
def epochSameWrong : ChangeSpec := { name := "epochSame", fn := fun _ => fun
  | [d1, d2, d3] => { results := [.lit (.bool false)], args := [d1, d2, d3] }
  | _ => none }
def EpochSameWrongFalsely : Prop := epochSameRow.holds Tryz.pinned (OpenSpec.ofChange epochSameWrong)

/-- 'huddlelaw21.EpochCounts': WHATEVER THE INPUT: true; the input reads as it did. -/
def epochCountsSpec : ChangeSpec := { name := "epochCounts", fn := fun _ => fun
  | [d] => { results := [.lit (.bool true)], args := [d] }
  | _ => none }
def epochCountsRow : OpenClaim := { program := "ytlijnaneopediaagreatdoor", sum := "c3df4835628a22b58e4d61b36d9d443d310e59a086bc80f27d3874da4410d4eb", func := "huddle/huddlelaw21.EpochCounts", spec := "epochCounts", unfollowed := true, recurses := true, named := ["huddle/op.kinds", "huddle/roll.asks"], plainKeys := false, apart := false, laid := [("huddle/roll.asks", laid_huddle_roll_asks), ("huddle/op.kinds", laid_huddle_op_kinds)] }
def EpochCountsSaid : Prop := epochCountsRow.holds Tryz.pinned (OpenSpec.ofChange epochCountsSpec)

/-- ITS FALSE NEIGHBOUR: 'it returns false'. Refute it at one input. -/
def epochCountsWrong : ChangeSpec := { name := "epochCounts", fn := fun _ => fun
  | [d] => { results := [.lit (.bool false)], args := [d] }
  | _ => none }
def EpochCountsWrongFalsely : Prop := epochCountsRow.holds Tryz.pinned (OpenSpec.ofChange epochCountsWrong)

/- THE SECOND FORM. 'bulk': how many values and letters a reading holds, each counted each time it is reached (what is shared counts as often as it is met; a slice's spare places count too). A statement '..UptoSaid' is the law's where the arguments, and the package variables that the reading takes, are together of bulk at most 1048576: NARROWER than '..Said'. Prove '..Said' where nothing that the law and all that it calls make is longer than what came in: it says more and counts as full. Else prove '..UptoSaid'. A law counts once. -/
mutual
def uptoBulk {H : Type} : DataW H → Nat
  | .lit (.string bytes) => bytes.length + 1
  | .lit _ => 1
  | .nil => 1
  | .ptr d => uptoBulk d + 1
  | .slice elems spare => uptoBulkAll elems + uptoBulkAll spare + 1
  | .agg parts => uptoBulkAll parts + 1
  | .iface _ d => uptoBulk d + 1
  | .map entries => uptoBulkEntries entries + 1
  | .held _ => 1
def uptoBulkAll {H : Type} : List (DataW H) → Nat
  | [] => 0
  | d :: r => uptoBulk d + uptoBulkAll r
def uptoBulkEntries {H : Type} : List (Lit × DataW H) → Nat
  | [] => 0
  | x :: r => uptoBulkEntry x + uptoBulkEntries r
def uptoBulkEntry {H : Type} : Lit × DataW H → Nat
  | (.string bytes, d) => bytes.length + uptoBulk d + 1
  | (_, d) => uptoBulk d + 1
 end
def uptoSmall : (H : Type) → List (DataW H) → Bool := fun _ ds => decide (uptoBulkAll ds ≤ 1048576)
def OpenSpec.upto (s : _root_.Go.ChangeSpec) : _root_.Go.OpenSpec := { _root_.Go.OpenSpec.ofChange s with cond := some uptoSmall }

/-- 'huddlelaw21.EpochNow', WHERE WHAT IT READS IS OF BULK AT MOST 1048576: true; the input reads as it did. -/
def epochNowUptoRow : OpenClaim := { program := "ytlijnaneopediaagreatdoor", sum := "c3df4835628a22b58e4d61b36d9d443d310e59a086bc80f27d3874da4410d4eb", func := "huddle/huddlelaw21.EpochNow", spec := "epochNow", unfollowed := true, recurses := true, named := ["huddle/op.kinds", "huddle/roll.asks"], plainKeys := false, apart := false, laid := [("huddle/roll.asks", laid_huddle_roll_asks), ("huddle/op.kinds", laid_huddle_op_kinds)], narrowed := true }
def EpochNowUptoSaid : Prop := epochNowUptoRow.holds Tryz.pinned (OpenSpec.upto epochNowSpec)

/-- 'huddlelaw21.EpochLast', WHERE WHAT IT READS IS OF BULK AT MOST 1048576: true; the input reads as it did. -/
def epochLastUptoRow : OpenClaim := { program := "ytlijnaneopediaagreatdoor", sum := "c3df4835628a22b58e4d61b36d9d443d310e59a086bc80f27d3874da4410d4eb", func := "huddle/huddlelaw21.EpochLast", spec := "epochLast", unfollowed := true, recurses := true, named := ["huddle/op.kinds", "huddle/roll.asks"], plainKeys := false, apart := false, laid := [("huddle/roll.asks", laid_huddle_roll_asks), ("huddle/op.kinds", laid_huddle_op_kinds)], narrowed := true }
def EpochLastUptoSaid : Prop := epochLastUptoRow.holds Tryz.pinned (OpenSpec.upto epochLastSpec)

/-- 'huddlelaw21.EpochOwn', WHERE WHAT IT READS IS OF BULK AT MOST 1048576: true; the input reads as it did. -/
def epochOwnUptoRow : OpenClaim := { program := "ytlijnaneopediaagreatdoor", sum := "c3df4835628a22b58e4d61b36d9d443d310e59a086bc80f27d3874da4410d4eb", func := "huddle/huddlelaw21.EpochOwn", spec := "epochOwn", unfollowed := true, recurses := true, named := ["huddle/op.kinds", "huddle/roll.asks"], plainKeys := false, apart := false, laid := [("huddle/roll.asks", laid_huddle_roll_asks), ("huddle/op.kinds", laid_huddle_op_kinds)], narrowed := true }
def EpochOwnUptoSaid : Prop := epochOwnUptoRow.holds Tryz.pinned (OpenSpec.upto epochOwnSpec)

/-- 'huddlelaw21.EpochHeals', WHERE WHAT IT READS IS OF BULK AT MOST 1048576: true; the input reads as it did. -/
def epochHealsUptoRow : OpenClaim := { program := "ytlijnaneopediaagreatdoor", sum := "c3df4835628a22b58e4d61b36d9d443d310e59a086bc80f27d3874da4410d4eb", func := "huddle/huddlelaw21.EpochHeals", spec := "epochHeals", unfollowed := true, recurses := true, named := ["huddle/op.kinds", "huddle/roll.asks"], plainKeys := false, apart := false, laid := [("huddle/roll.asks", laid_huddle_roll_asks), ("huddle/op.kinds", laid_huddle_op_kinds)], narrowed := true }
def EpochHealsUptoSaid : Prop := epochHealsUptoRow.holds Tryz.pinned (OpenSpec.upto epochHealsSpec)

/-- 'huddlelaw21.EpochSound', WHERE WHAT IT READS IS OF BULK AT MOST 1048576: true; the input reads as it did. -/
def epochSoundUptoRow : OpenClaim := { program := "ytlijnaneopediaagreatdoor", sum := "c3df4835628a22b58e4d61b36d9d443d310e59a086bc80f27d3874da4410d4eb", func := "huddle/huddlelaw21.EpochSound", spec := "epochSound", unfollowed := true, recurses := true, named := ["huddle/op.kinds", "huddle/roll.asks"], plainKeys := false, apart := false, laid := [("huddle/roll.asks", laid_huddle_roll_asks), ("huddle/op.kinds", laid_huddle_op_kinds)], narrowed := true }
def EpochSoundUptoSaid : Prop := epochSoundUptoRow.holds Tryz.pinned (OpenSpec.upto epochSoundSpec)

/-- 'huddlelaw21.EpochSame', WHERE WHAT IT READS IS OF BULK AT MOST 1048576: true; the input reads as it did. -/
def epochSameUptoRow : OpenClaim := { program := "ytlijnaneopediaagreatdoor", sum := "c3df4835628a22b58e4d61b36d9d443d310e59a086bc80f27d3874da4410d4eb", func := "huddle/huddlelaw21.EpochSame", spec := "epochSame", unfollowed := true, recurses := true, named := ["huddle/op.kinds", "huddle/roll.asks"], plainKeys := false, apart := false, laid := [("huddle/roll.asks", laid_huddle_roll_asks), ("huddle/op.kinds", laid_huddle_op_kinds)], narrowed := true }
def EpochSameUptoSaid : Prop := epochSameUptoRow.holds Tryz.pinned (OpenSpec.upto epochSameSpec)

/-- 'huddlelaw21.EpochCounts', WHERE WHAT IT READS IS OF BULK AT MOST 1048576: true; the input reads as it did. -/
def epochCountsUptoRow : OpenClaim := { program := "ytlijnaneopediaagreatdoor", sum := "c3df4835628a22b58e4d61b36d9d443d310e59a086bc80f27d3874da4410d4eb", func := "huddle/huddlelaw21.EpochCounts", spec := "epochCounts", unfollowed := true, recurses := true, named := ["huddle/op.kinds", "huddle/roll.asks"], plainKeys := false, apart := false, laid := [("huddle/roll.asks", laid_huddle_roll_asks), ("huddle/op.kinds", laid_huddle_op_kinds)], narrowed := true }
def EpochCountsUptoSaid : Prop := epochCountsUptoRow.holds Tryz.pinned (OpenSpec.upto epochCountsSpec)

end Rows
end Go.Proofs.YtlijnaneopediaaGreatDoor
