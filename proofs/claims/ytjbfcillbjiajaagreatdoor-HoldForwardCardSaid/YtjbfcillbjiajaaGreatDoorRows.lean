/-
  NARROWER THAN 'FOR EVERY INPUT', by the rows' own cells (each row's printed sentence says how): HoldForward: laid.
  DERIVED. THE GIVEN ROWS OF THIS SEAT. 1 by the template 'for every input the law returns true; each argument reads behind the call as it read before'; 0 by the template 'total and deterministic' (their statements: YtjbfcillbjiajaaGreatDoorTotals.lean).
  GIVEN WITH THE SEED: the statements are not yours to turn. If you find one false, say at which input.
  Laid BY PROGRAM, IN A SANDBOX (cutbox-rows.mjs): the forced cells as the released guide's own fill.sh prints them over the translation b809e51a90ae4642… (all of the seat's roots in one cut). By AI agents, Wed Nov 11 2026. No macro, syntax, notation, axiom, sorry.
-/
import Derived.Test.YtjbfcillbjiajaaGreatDoorChecked
import GoSem.Claim
import GoSem.ClaimJoined
import GoSem.ClaimMapViews
import Derived.JoinedTies
import Derived.KernelRfl
namespace Go.Proofs.YtjbfcillbjiajaaGreatDoor
/- THE CELL 'sum', in the pinned program and in every row, IS THE sha256 OF THE DUMP (.gsa) THAT YtjbfcillbjiajaaGreatDoorProg.lean LOADS. Nothing in Lean hashes anything: it is a label: what it is worth is what the hold of that sum in a sandbox is worth. -/
noncomputable def Tryz.pinned : Pinned := { name := "ytjbfcillbjiajaagreatdoor", sum := "b809e51a90ae46422b19db264beaada2569d2551f1acdf405d445366a5d7344c", checked := Tryz.checked }
namespace Rows
def none {H : Type} : Left H := { results := [], args := [] }

/- WHAT THE LISTED PACKAGE-LEVEL VARIABLES READ AS WHEN THE CALL BEGINS. Each datum BY PROGRAM (the guide's laid-datum.mjs) off the statement by which the dump's own 'gosem.cut.vars' lays the variable. In a bare row this is a premise. The card (YtjbfcillbjiajaaGreatDoorCards.lean) ties it to the program's text. -/
def laid_huddle_roll_asks {H : Type} : DataW H := .iface "func table" (.agg [.nil, .nil, .iface "func" (.lit (.string [104, 117, 100, 100, 108, 101, 47, 114, 111, 108, 108, 46, 97, 115, 107, 115, 36, 49])), .iface "func" (.lit (.string [104, 117, 100, 100, 108, 101, 47, 114, 111, 108, 108, 46, 97, 115, 107, 115, 36, 50])), .nil, .iface "func" (.lit (.string [104, 117, 100, 100, 108, 101, 47, 114, 111, 108, 108, 46, 97, 115, 107, 115, 36, 51])), .iface "func" (.lit (.string [104, 117, 100, 100, 108, 101, 47, 114, 111, 108, 108, 46, 97, 115, 107, 115, 36, 52])), .nil, .iface "func" (.lit (.string [104, 117, 100, 100, 108, 101, 47, 114, 111, 108, 108, 46, 97, 115, 107, 115, 36, 53])), .iface "func" (.lit (.string [104, 117, 100, 100, 108, 101, 47, 114, 111, 108, 108, 46, 97, 115, 107, 115, 36, 54])), .iface "func" (.lit (.string [40, 42, 104, 117, 100, 100, 108, 101, 47, 114, 111, 108, 108, 46, 82, 111, 108, 108, 41, 46, 111, 119, 110])), .iface "func" (.lit (.string [104, 117, 100, 100, 108, 101, 47, 114, 111, 108, 108, 46, 97, 115, 107, 115, 36, 55])), .iface "func" (.lit (.string [40, 42, 104, 117, 100, 100, 108, 101, 47, 114, 111, 108, 108, 46, 82, 111, 108, 108, 41, 46, 111, 119, 110])), .iface "func" (.lit (.string [104, 117, 100, 100, 108, 101, 47, 114, 111, 108, 108, 46, 97, 115, 107, 115, 36, 56]))])
def laid_huddle_op_kinds {H : Type} : DataW H := .agg [.lit (.int .i64 0), .lit (.int .i64 2064), .lit (.int .i64 32793), .lit (.int .i64 21), .lit (.int .i64 16), .lit (.int .i64 12), .lit (.int .i64 480), .lit (.int .i64 640), .lit (.int .i64 512), .lit (.int .i64 31744), .lit (.int .i64 8704), .lit (.int .i64 8705), .lit (.int .i64 512), .lit (.int .i64 33299)]

/-- 'huddlelaw23.HoldForward': WHATEVER THE INPUT: true; the input reads as it did. -/
def holdForwardSpec : ChangeSpec := { name := "holdForward", fn := fun _ => fun
  | [d1, d2] => { results := [.lit (.bool true)], args := [d1, d2] }
  | _ => none }
def holdForwardRow : OpenClaim := { program := "ytjbfcillbjiajaagreatdoor", sum := "b809e51a90ae46422b19db264beaada2569d2551f1acdf405d445366a5d7344c", func := "huddle/huddlelaw23.HoldForward", spec := "holdForward", unfollowed := true, recurses := true, named := ["huddle/op.kinds", "huddle/roll.asks"], plainKeys := false, apart := false, laid := [("huddle/roll.asks", laid_huddle_roll_asks), ("huddle/op.kinds", laid_huddle_op_kinds)] }
def HoldForwardSaid : Prop := holdForwardRow.holds Tryz.pinned (OpenSpec.ofChange holdForwardSpec)

/-- ITS FALSE NEIGHBOUR: 'it returns false'. Refute it at one input. -/
def holdForwardWrong : ChangeSpec := { name := "holdForward", fn := fun _ => fun
  | [d1, d2] => { results := [.lit (.bool false)], args := [d1, d2] }
  | _ => none }
def HoldForwardWrongFalsely : Prop := holdForwardRow.holds Tryz.pinned (OpenSpec.ofChange holdForwardWrong)

/- THE SECOND FORM. 'bulk': how many values and letters a reading holds, each counted each time it is reached (what is shared counts as often as it is met; a slice's spare places count too). A statement '..UptoSaid' is the law's where the arguments, and the package variables that the reading takes, are together of bulk at most 1048576: NARROWER than '..Said'. Prove '..Said' where nothing that the law and all that it calls make is longer than what came in: it says more and counts as full. Else prove '..UptoSaid'. A law counts once. -/
mutual
def uptoBulk {H : Type} : DataW H → Nat
  | .lit (.string bytes) => bytes.length + 1
  | .lit _ => 1
  | .nil => 1
  | .ptr d => uptoBulk d + 1
  | .slice elems spare => uptoBulkAll elems + uptoBulkAll spare + 1
  | .agg parts => uptoBulkAll parts + 1
  | .iface _ d => uptoBulk d + 1
  | .map entries => uptoBulkEntries entries + 1
  | .held _ => 1
def uptoBulkAll {H : Type} : List (DataW H) → Nat
  | [] => 0
  | d :: r => uptoBulk d + uptoBulkAll r
def uptoBulkEntries {H : Type} : List (Lit × DataW H) → Nat
  | [] => 0
  | x :: r => uptoBulkEntry x + uptoBulkEntries r
def uptoBulkEntry {H : Type} : Lit × DataW H → Nat
  | (.string bytes, d) => bytes.length + uptoBulk d + 1
  | (_, d) => uptoBulk d + 1
 end
def uptoSmall : (H : Type) → List (DataW H) → Bool := fun _ ds => decide (uptoBulkAll ds ≤ 1048576)
def OpenSpec.upto (s : _root_.Go.ChangeSpec) : _root_.Go.OpenSpec := { _root_.Go.OpenSpec.ofChange s with cond := some uptoSmall }

/-- 'huddlelaw23.HoldForward', WHERE WHAT IT READS IS OF BULK AT MOST 1048576: true; the input reads as it did. -/
def holdForwardUptoRow : OpenClaim := { program := "ytjbfcillbjiajaagreatdoor", sum := "b809e51a90ae46422b19db264beaada2569d2551f1acdf405d445366a5d7344c", func := "huddle/huddlelaw23.HoldForward", spec := "holdForward", unfollowed := true, recurses := true, named := ["huddle/op.kinds", "huddle/roll.asks"], plainKeys := false, apart := false, laid := [("huddle/roll.asks", laid_huddle_roll_asks), ("huddle/op.kinds", laid_huddle_op_kinds)], narrowed := true }
def HoldForwardUptoSaid : Prop := holdForwardUptoRow.holds Tryz.pinned (OpenSpec.upto holdForwardSpec)

end Rows
end Go.Proofs.YtjbfcillbjiajaaGreatDoor
