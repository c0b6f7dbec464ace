/-
  NARROWER THAN 'FOR EVERY INPUT', by the rows' own cells (each row's printed sentence says how): SlotsCommits: laid · SlotsKeys: laid · SlotsOwn: laid · SlotsStays: laid · SlotsLast: laid · SlotsCovers: laid · SlotsMet: laid.
  DERIVED. THE GIVEN ROWS OF THIS SEAT. 7 by the template 'for every input the law returns true; each argument reads behind the call as it read before'; 0 by the template 'total and deterministic' (their statements: YtghphhhpagagbaaGreatDoorTotals.lean).
  GIVEN WITH THE SEED: the statements are not yours to turn. If you find one false, say at which input.
  Laid BY PROGRAM, IN A SANDBOX (cutbox-rows.mjs): the forced cells as the released guide's own fill.sh prints them over the translation ceeb60898cb78cef… (all of the seat's roots in one cut). By AI agents, Wed Nov 11 2026. No macro, syntax, notation, axiom, sorry.
-/
import Derived.Test.YtghphhhpagagbaaGreatDoorChecked
import GoSem.Claim
import GoSem.ClaimJoined
import GoSem.ClaimMapViews
import Derived.JoinedTies
import Derived.KernelRfl
namespace Go.Proofs.YtghphhhpagagbaaGreatDoor
/- THE CELL 'sum', in the pinned program and in every row, IS THE sha256 OF THE DUMP (.gsa) THAT YtghphhhpagagbaaGreatDoorProg.lean LOADS. Nothing in Lean hashes anything: it is a label: what it is worth is what the hold of that sum in a sandbox is worth. -/
noncomputable def Tryz.pinned : Pinned := { name := "ytghphhhpagagbaagreatdoor", sum := "ceeb60898cb78cef6b62aaae09d94b52102588789c14b2140118b484097e18b4", checked := Tryz.checked }
namespace Rows
def none {H : Type} : Left H := { results := [], args := [] }

/- WHAT THE LISTED PACKAGE-LEVEL VARIABLES READ AS WHEN THE CALL BEGINS. Each datum BY PROGRAM (the guide's laid-datum.mjs) off the statement by which the dump's own 'gosem.cut.vars' lays the variable. In a bare row this is a premise. The card (YtghphhhpagagbaaGreatDoorCards.lean) ties it to the program's text. -/
def laid_huddle_roll_asks {H : Type} : DataW H := .iface "func table" (.agg [.nil, .nil, .iface "func" (.lit (.string [104, 117, 100, 100, 108, 101, 47, 114, 111, 108, 108, 46, 97, 115, 107, 115, 36, 49])), .iface "func" (.lit (.string [104, 117, 100, 100, 108, 101, 47, 114, 111, 108, 108, 46, 97, 115, 107, 115, 36, 50])), .nil, .iface "func" (.lit (.string [104, 117, 100, 100, 108, 101, 47, 114, 111, 108, 108, 46, 97, 115, 107, 115, 36, 51])), .iface "func" (.lit (.string [104, 117, 100, 100, 108, 101, 47, 114, 111, 108, 108, 46, 97, 115, 107, 115, 36, 52])), .nil, .iface "func" (.lit (.string [104, 117, 100, 100, 108, 101, 47, 114, 111, 108, 108, 46, 97, 115, 107, 115, 36, 53])), .iface "func" (.lit (.string [104, 117, 100, 100, 108, 101, 47, 114, 111, 108, 108, 46, 97, 115, 107, 115, 36, 54])), .iface "func" (.lit (.string [40, 42, 104, 117, 100, 100, 108, 101, 47, 114, 111, 108, 108, 46, 82, 111, 108, 108, 41, 46, 111, 119, 110])), .iface "func" (.lit (.string [104, 117, 100, 100, 108, 101, 47, 114, 111, 108, 108, 46, 97, 115, 107, 115, 36, 55])), .iface "func" (.lit (.string [40, 42, 104, 117, 100, 100, 108, 101, 47, 114, 111, 108, 108, 46, 82, 111, 108, 108, 41, 46, 111, 119, 110])), .iface "func" (.lit (.string [104, 117, 100, 100, 108, 101, 47, 114, 111, 108, 108, 46, 97, 115, 107, 115, 36, 56]))])
def laid_huddle_op_kinds {H : Type} : DataW H := .agg [.lit (.int .i64 0), .lit (.int .i64 2064), .lit (.int .i64 32793), .lit (.int .i64 21), .lit (.int .i64 16), .lit (.int .i64 12), .lit (.int .i64 480), .lit (.int .i64 640), .lit (.int .i64 512), .lit (.int .i64 31744), .lit (.int .i64 8704), .lit (.int .i64 8705), .lit (.int .i64 512), .lit (.int .i64 33299)]

/-- 'huddlelaw19.SlotsCommits': WHATEVER THE INPUT: true; the input reads as it did. -/
def slotsCommitsSpec : ChangeSpec := { name := "slotsCommits", fn := fun _ => fun
  | [d1, d2, d3] => { results := [.lit (.bool true)], args := [d1, d2, d3] }
  | _ => none }
def slotsCommitsRow : OpenClaim := { program := "ytghphhhpagagbaagreatdoor", sum := "ceeb60898cb78cef6b62aaae09d94b52102588789c14b2140118b484097e18b4", func := "huddle/huddlelaw19.SlotsCommits", spec := "slotsCommits", unfollowed := true, recurses := true, named := ["huddle/op.kinds", "huddle/roll.asks"], plainKeys := false, apart := false, laid := [("huddle/roll.asks", laid_huddle_roll_asks), ("huddle/op.kinds", laid_huddle_op_kinds)] }
def SlotsCommitsSaid : Prop := slotsCommitsRow.holds Tryz.pinned (OpenSpec.ofChange slotsCommitsSpec)

/-- ITS FALSE NEIGHBOUR: 'it returns false'. Refute it at one input. -/
def slotsCommitsWrong : ChangeSpec := { name := "slotsCommits", fn := fun _ => fun
  | [d1, d2, d3] => { results := [.lit (.bool false)], args := [d1, d2, d3] }
  | _ => none }
def SlotsCommitsWrongFalsely : Prop := slotsCommitsRow.holds Tryz.pinned (OpenSpec.ofChange slotsCommitsWrong)

/-- 'huddlelaw19.SlotsKeys': WHATEVER THE INPUT: true; the input reads as it did. -/
def slotsKeysSpec : ChangeSpec := { name := "slotsKeys", fn := fun _ => fun
  | [d1, d2, d3] => { results := [.lit (.bool true)], args := [d1, d2, d3] }
  | _ => none }
def slotsKeysRow : OpenClaim := { program := "ytghphhhpagagbaagreatdoor", sum := "ceeb60898cb78cef6b62aaae09d94b52102588789c14b2140118b484097e18b4", func := "huddle/huddlelaw19.SlotsKeys", spec := "slotsKeys", unfollowed := true, recurses := true, named := ["huddle/op.kinds", "huddle/roll.asks"], plainKeys := false, apart := false, laid := [("huddle/roll.asks", laid_huddle_roll_asks), ("huddle/op.kinds", laid_huddle_op_kinds)] }
def SlotsKeysSaid : Prop := slotsKeysRow.holds Tryz.pinned (OpenSpec.ofChange slotsKeysSpec)

/-- ITS FALSE NEIGHBOUR: 'it returns false'. Refute it at one input. -/
def slotsKeysWrong : ChangeSpec := { name := "slotsKeys", fn := fun _ => fun
  | [d1, d2, d3] => { results := [.lit (.bool false)], args := [d1, d2, d3] }
  | _ => none }
def SlotsKeysWrongFalsely : Prop := slotsKeysRow.holds Tryz.pinned (OpenSpec.ofChange slotsKeysWrong)

/-- 'huddlelaw19.SlotsOwn': WHATEVER THE INPUT: true; the input reads as it did. -/
def slotsOwnSpec : ChangeSpec := { name := "slotsOwn", fn := fun _ => fun
  | [d] => { results := [.lit (.bool true)], args := [d] }
  | _ => none }
def slotsOwnRow : OpenClaim := { program := "ytghphhhpagagbaagreatdoor", sum := "ceeb60898cb78cef6b62aaae09d94b52102588789c14b2140118b484097e18b4", func := "huddle/huddlelaw19.SlotsOwn", spec := "slotsOwn", unfollowed := true, recurses := true, named := ["huddle/op.kinds", "huddle/roll.asks"], plainKeys := false, apart := false, laid := [("huddle/roll.asks", laid_huddle_roll_asks), ("huddle/op.kinds", laid_huddle_op_kinds)] }
def SlotsOwnSaid : Prop := slotsOwnRow.holds Tryz.pinned (OpenSpec.ofChange slotsOwnSpec)

/-- ITS FALSE NEIGHBOUR: 'it returns false'. Refute it at one input. -/
def slotsOwnWrong : ChangeSpec := { name := "slotsOwn", fn := fun _ => fun
  | [d] => { results := [.lit (.bool false)], args := [d] }
  | _ => none }
def SlotsOwnWrongFalsely : Prop := slotsOwnRow.holds Tryz.pinned (OpenSpec.ofChange slotsOwnWrong)

/-- 'huddlelaw19.SlotsStays': WHATEVER THE INPUT: true; the input reads as it did. -/
def slotsStaysSpec : ChangeSpec := { name := "slotsStays", fn := fun _ => fun
  | [d1, d2] => { results := [.lit (.bool true)], args := [d1, d2] }
  | _ => none }
def slotsStaysRow : OpenClaim := { program := "ytghphhhpagagbaagreatdoor", sum := "ceeb60898cb78cef6b62aaae09d94b52102588789c14b2140118b484097e18b4", func := "huddle/huddlelaw19.SlotsStays", spec := "slotsStays", unfollowed := true, recurses := true, named := ["huddle/op.kinds", "huddle/roll.asks"], plainKeys := false, apart := false, laid := [("huddle/roll.asks", laid_huddle_roll_asks), ("huddle/op.kinds", laid_huddle_op_kinds)] }
def SlotsStaysSaid : Prop := slotsStaysRow.holds Tryz.pinned (OpenSpec.ofChange slotsStaysSpec)

/-- ITS FALSE NEIGHBOUR: 'it returns false'. Refute it at one input. -/
def slotsStaysWrong : ChangeSpec := { name := "slotsStays", fn := fun _ => fun
  | [d1, d2] => { results := [.lit (.bool false)], args := [d1, d2] }
  | _ => none }
def SlotsStaysWrongFalsely : Prop := slotsStaysRow.holds Tryz.pinned (OpenSpec.ofChange slotsStaysWrong)

/-- 'huddlelaw19.SlotsLast': WHATEVER THE INPUT: true; the input reads as it did. -/
def slotsLastSpec : ChangeSpec := { name := "slotsLast", fn := fun _ => fun
  | [d1, d2] => { results := [.lit (.bool true)], args := [d1, d2] }
  | _ => none }
def slotsLastRow : OpenClaim := { program := "ytghphhhpagagbaagreatdoor", sum := "ceeb60898cb78cef6b62aaae09d94b52102588789c14b2140118b484097e18b4", func := "huddle/huddlelaw19.SlotsLast", spec := "slotsLast", unfollowed := true, recurses := true, named := ["huddle/op.kinds", "huddle/roll.asks"], plainKeys := false, apart := false, laid := [("huddle/roll.asks", laid_huddle_roll_asks), ("huddle/op.kinds", laid_huddle_op_kinds)] }
def SlotsLastSaid : Prop := slotsLastRow.holds Tryz.pinned (OpenSpec.ofChange slotsLastSpec)

/-- ITS FALSE NEIGHBOUR: 'it returns false'. Refute it at one input. -/
def slotsLastWrong : ChangeSpec := { name := "slotsLast", fn := fun _ => fun
  | [d1, d2] => { results := [.lit (.bool false)], args := [d1, d2] }
  | _ => none }
def SlotsLastWrongFalsely : Prop := slotsLastRow.holds Tryz.pinned (OpenSpec.ofChange slotsLastWrong)

/-- 'huddlelaw19.SlotsCovers': WHATEVER THE INPUT: true; the input reads as it did. -/
def slotsCoversSpec : ChangeSpec := { name := "slotsCovers", fn := fun _ => fun
  | [d1, d2, d3] => { results := [.lit (.bool true)], args := [d1, d2, d3] }
  | _ => none }
def slotsCoversRow : OpenClaim := { program := "ytghphhhpagagbaagreatdoor", sum := "ceeb60898cb78cef6b62aaae09d94b52102588789c14b2140118b484097e18b4", func := "huddle/huddlelaw19.SlotsCovers", spec := "slotsCovers", unfollowed := true, recurses := true, named := ["huddle/op.kinds", "huddle/roll.asks"], plainKeys := false, apart := false, laid := [("huddle/roll.asks", laid_huddle_roll_asks), ("huddle/op.kinds", laid_huddle_op_kinds)] }
def SlotsCoversSaid : Prop := slotsCoversRow.holds Tryz.pinned (OpenSpec.ofChange slotsCoversSpec)

/-- ITS FALSE NEIGHBOUR: 'it returns false'. Refute it at one input. -/
def slotsCoversWrong : ChangeSpec := { name := "slotsCovers", fn := fun _ => fun
  | [d1, d2, d3] => { results := [.lit (.bool false)], args := [d1, d2, d3] }
  | _ => none }
def SlotsCoversWrongFalsely : Prop := slotsCoversRow.holds Tryz.pinned (OpenSpec.ofChange slotsCoversWrong)

/-- 'huddlelaw19.SlotsMet': WHATEVER THE INPUT: true; the input reads as it did. -/
def slotsMetSpec : ChangeSpec := { name := "slotsMet", fn := fun _ => fun
  | [d1, d2, d3] => { results := [.lit (.bool true)], args := [d1, d2, d3] }
  | _ => none }
def slotsMetRow : OpenClaim := { program := "ytghphhhpagagbaagreatdoor", sum := "ceeb60898cb78cef6b62aaae09d94b52102588789c14b2140118b484097e18b4", func := "huddle/huddlelaw19.SlotsMet", spec := "slotsMet", unfollowed := true, recurses := true, named := ["huddle/op.kinds", "huddle/roll.asks"], plainKeys := false, apart := false, laid := [("huddle/roll.asks", laid_huddle_roll_asks), ("huddle/op.kinds", laid_huddle_op_kinds)] }
def SlotsMetSaid : Prop := slotsMetRow.holds Tryz.pinned (OpenSpec.ofChange slotsMetSpec)

/-- ITS FALSE NEIGHBOUR: 'it returns false'. Refute it at one input. -/
def slotsMetWrong : ChangeSpec := { name := "slotsMet", fn := fun _ => fun
  | [d1, d2, d3] => { results := [.lit (.bool false)], args := [d1, d2, d3] }
  | _ => none }
def SlotsMetWrongFalsely : Prop := slotsMetRow.holds Tryz.pinned (OpenSpec.ofChange slotsMetWrong)

/- THE SECOND FORM. 'bulk': how many values and letters a reading holds, each counted each time it is reached (what is shared counts as often as it is met; a slice's spare places count too). A statement '..UptoSaid' is the law's where the arguments, and the package variables that the reading takes, are together of bulk at most 1048576: NARROWER than '..Said'. Prove '..Said' where nothing that the law and all that it calls make is longer than what came in: it says more and counts as full. Else prove '..UptoSaid'. A law counts once. -/
mutual
def uptoBulk {H : Type} : DataW H → Nat
  | .lit (.string bytes) => bytes.length + 1
  | .lit _ => 1
  | .nil => 1
  | .ptr d => uptoBulk d + 1
  | .slice elems spare => uptoBulkAll elems + uptoBulkAll spare + 1
  | .agg parts => uptoBulkAll parts + 1
  | .iface _ d => uptoBulk d + 1
  | .map entries => uptoBulkEntries entries + 1
  | .held _ => 1
def uptoBulkAll {H : Type} : List (DataW H) → Nat
  | [] => 0
  | d :: r => uptoBulk d + uptoBulkAll r
def uptoBulkEntries {H : Type} : List (Lit × DataW H) → Nat
  | [] => 0
  | x :: r => uptoBulkEntry x + uptoBulkEntries r
def uptoBulkEntry {H : Type} : Lit × DataW H → Nat
  | (.string bytes, d) => bytes.length + uptoBulk d + 1
  | (_, d) => uptoBulk d + 1
 end
def uptoSmall : (H : Type) → List (DataW H) → Bool := fun _ ds => decide (uptoBulkAll ds ≤ 1048576)
def OpenSpec.upto (s : _root_.Go.ChangeSpec) : _root_.Go.OpenSpec := { _root_.Go.OpenSpec.ofChange s with cond := some uptoSmall }

/-- 'huddlelaw19.SlotsCommits', WHERE WHAT IT READS IS OF BULK AT MOST 1048576: true; the input reads as it did. -/
def slotsCommitsUptoRow : OpenClaim := { program := "ytghphhhpagagbaagreatdoor", sum := "ceeb60898cb78cef6b62aaae09d94b52102588789c14b2140118b484097e18b4", func := "huddle/huddlelaw19.SlotsCommits", spec := "slotsCommits", unfollowed := true, recurses := true, named := ["huddle/op.kinds", "huddle/roll.asks"], plainKeys := false, apart := false, laid := [("huddle/roll.asks", laid_huddle_roll_asks), ("huddle/op.kinds", laid_huddle_op_kinds)], narrowed := true }
def SlotsCommitsUptoSaid : Prop := slotsCommitsUptoRow.holds Tryz.pinned (OpenSpec.upto slotsCommitsSpec)

/-- 'huddlelaw19.SlotsKeys', WHERE WHAT IT READS IS OF BULK AT MOST 1048576: true; the input reads as it did. -/
def slotsKeysUptoRow : OpenClaim := { program := "ytghphhhpagagbaagreatdoor", sum := "ceeb60898cb78cef6b62aaae09d94b52102588789c14b2140118b484097e18b4", func := "huddle/huddlelaw19.SlotsKeys", spec := "slotsKeys", unfollowed := true, recurses := true, named := ["huddle/op.kinds", "huddle/roll.asks"], plainKeys := false, apart := false, laid := [("huddle/roll.asks", laid_huddle_roll_asks), ("huddle/op.kinds", laid_huddle_op_kinds)], narrowed := true }
def SlotsKeysUptoSaid : Prop := slotsKeysUptoRow.holds Tryz.pinned (OpenSpec.upto slotsKeysSpec)

/-- 'huddlelaw19.SlotsOwn', WHERE WHAT IT READS IS OF BULK AT MOST 1048576: true; the input reads as it did. -/
def slotsOwnUptoRow : OpenClaim := { program := "ytghphhhpagagbaagreatdoor", sum := "ceeb60898cb78cef6b62aaae09d94b52102588789c14b2140118b484097e18b4", func := "huddle/huddlelaw19.SlotsOwn", spec := "slotsOwn", unfollowed := true, recurses := true, named := ["huddle/op.kinds", "huddle/roll.asks"], plainKeys := false, apart := false, laid := [("huddle/roll.asks", laid_huddle_roll_asks), ("huddle/op.kinds", laid_huddle_op_kinds)], narrowed := true }
def SlotsOwnUptoSaid : Prop := slotsOwnUptoRow.holds Tryz.pinned (OpenSpec.upto slotsOwnSpec)

/-- 'huddlelaw19.SlotsStays', WHERE WHAT IT READS IS OF BULK AT MOST 1048576: true; the input reads as it did. -/
def slotsStaysUptoRow : OpenClaim := { program := "ytghphhhpagagbaagreatdoor", sum := "ceeb60898cb78cef6b62aaae09d94b52102588789c14b2140118b484097e18b4", func := "huddle/huddlelaw19.SlotsStays", spec := "slotsStays", unfollowed := true, recurses := true, named := ["huddle/op.kinds", "huddle/roll.asks"], plainKeys := false, apart := false, laid := [("huddle/roll.asks", laid_huddle_roll_asks), ("huddle/op.kinds", laid_huddle_op_kinds)], narrowed := true }
def SlotsStaysUptoSaid : Prop := slotsStaysUptoRow.holds Tryz.pinned (OpenSpec.upto slotsStaysSpec)

/-- 'huddlelaw19.SlotsLast', WHERE WHAT IT READS IS OF BULK AT MOST 1048576: true; the input reads as it did. -/
def slotsLastUptoRow : OpenClaim := { program := "ytghphhhpagagbaagreatdoor", sum := "ceeb60898cb78cef6b62aaae09d94b52102588789c14b2140118b484097e18b4", func := "huddle/huddlelaw19.SlotsLast", spec := "slotsLast", unfollowed := true, recurses := true, named := ["huddle/op.kinds", "huddle/roll.asks"], plainKeys := false, apart := false, laid := [("huddle/roll.asks", laid_huddle_roll_asks), ("huddle/op.kinds", laid_huddle_op_kinds)], narrowed := true }
def SlotsLastUptoSaid : Prop := slotsLastUptoRow.holds Tryz.pinned (OpenSpec.upto slotsLastSpec)

/-- 'huddlelaw19.SlotsCovers', WHERE WHAT IT READS IS OF BULK AT MOST 1048576: true; the input reads as it did. -/
def slotsCoversUptoRow : OpenClaim := { program := "ytghphhhpagagbaagreatdoor", sum := "ceeb60898cb78cef6b62aaae09d94b52102588789c14b2140118b484097e18b4", func := "huddle/huddlelaw19.SlotsCovers", spec := "slotsCovers", unfollowed := true, recurses := true, named := ["huddle/op.kinds", "huddle/roll.asks"], plainKeys := false, apart := false, laid := [("huddle/roll.asks", laid_huddle_roll_asks), ("huddle/op.kinds", laid_huddle_op_kinds)], narrowed := true }
def SlotsCoversUptoSaid : Prop := slotsCoversUptoRow.holds Tryz.pinned (OpenSpec.upto slotsCoversSpec)

/-- 'huddlelaw19.SlotsMet', WHERE WHAT IT READS IS OF BULK AT MOST 1048576: true; the input reads as it did. -/
def slotsMetUptoRow : OpenClaim := { program := "ytghphhhpagagbaagreatdoor", sum := "ceeb60898cb78cef6b62aaae09d94b52102588789c14b2140118b484097e18b4", func := "huddle/huddlelaw19.SlotsMet", spec := "slotsMet", unfollowed := true, recurses := true, named := ["huddle/op.kinds", "huddle/roll.asks"], plainKeys := false, apart := false, laid := [("huddle/roll.asks", laid_huddle_roll_asks), ("huddle/op.kinds", laid_huddle_op_kinds)], narrowed := true }
def SlotsMetUptoSaid : Prop := slotsMetUptoRow.holds Tryz.pinned (OpenSpec.upto slotsMetSpec)

end Rows
end Go.Proofs.YtghphhhpagagbaaGreatDoor
