/-
  No cell of these rows narrows 'for every input' (looked for: loops, veiled, ifaces, maps, wideKeys, modest, calm, conditions, laid).
  DERIVED. THE GIVEN ROWS OF THIS SEAT. 6 by the template 'for every input the law returns true; each argument reads behind the call as it read before'; 0 by the template 'total and deterministic' (their statements: YtmgjccalpdlbbaaTotals.lean).
  GIVEN WITH THE SEED: the statements are not yours to turn. If you find one false, say at which input.
  Laid BY PROGRAM, IN A SANDBOX (cutbox-rows.mjs): the forced cells as the released guide's own fill.sh prints them over the translation 6afd75c5da0d9f40… (all of the seat's roots in one cut). By AI agents, Wed Nov 11 2026. No macro, syntax, notation, axiom, sorry.
-/
import Derived.Test.YtmgjccalpdlbbaaChecked
import GoSem.Claim
import GoSem.ClaimJoined
import GoSem.ClaimMapViews
import Derived.JoinedTies
import Derived.KernelRfl
namespace Go.Proofs.Ytmgjccalpdlbbaa
/- THE CELL 'sum', in the pinned program and in every row, IS THE sha256 OF THE DUMP (.gsa) THAT YtmgjccalpdlbbaaProg.lean LOADS. Nothing in Lean hashes anything: it is a label: what it is worth is what the hold of that sum in a sandbox is worth. -/
noncomputable def Try.pinned : Pinned := { name := "ytmgjccalpdlbbaa", sum := "6afd75c5da0d9f408871c314ce0343ebc91c6fdbf5f4c8873b84aa939b7ada91", checked := Try.checked }
namespace Rows
def none {H : Type} : Left H := { results := [], args := [] }

/-- 'huddlelaw32.LinkEach': WHATEVER THE INPUT: true; the input reads as it did. -/
def linkEachSpec : ChangeSpec := { name := "linkEach", fn := fun _ => fun
  | [d1, d2, d3] => { results := [.lit (.bool true)], args := [d1, d2, d3] }
  | _ => none }
def linkEachRow : OpenClaim := { program := "ytmgjccalpdlbbaa", sum := "6afd75c5da0d9f408871c314ce0343ebc91c6fdbf5f4c8873b84aa939b7ada91", func := "huddle/huddlelaw32.LinkEach", spec := "linkEach", apart := false }
def LinkEachSaid : Prop := linkEachRow.holds Try.pinned (OpenSpec.ofChange linkEachSpec)

/-- ITS FALSE NEIGHBOUR: 'it returns false'. Refute it at one input. -/
def linkEachWrong : ChangeSpec := { name := "linkEach", fn := fun _ => fun
  | [d1, d2, d3] => { results := [.lit (.bool false)], args := [d1, d2, d3] }
  | _ => none }
def LinkEachWrongFalsely : Prop := linkEachRow.holds Try.pinned (OpenSpec.ofChange linkEachWrong)

/-- 'huddlelaw32.LinkPlays': WHATEVER THE INPUT: true; the input reads as it did. -/
def linkPlaysSpec : ChangeSpec := { name := "linkPlays", fn := fun _ => fun
  | [d1, d2, d3] => { results := [.lit (.bool true)], args := [d1, d2, d3] }
  | _ => none }
def linkPlaysRow : OpenClaim := { program := "ytmgjccalpdlbbaa", sum := "6afd75c5da0d9f408871c314ce0343ebc91c6fdbf5f4c8873b84aa939b7ada91", func := "huddle/huddlelaw32.LinkPlays", spec := "linkPlays", apart := false }
def LinkPlaysSaid : Prop := linkPlaysRow.holds Try.pinned (OpenSpec.ofChange linkPlaysSpec)

/-- ITS FALSE NEIGHBOUR: 'it returns false'. Refute it at one input. -/
def linkPlaysWrong : ChangeSpec := { name := "linkPlays", fn := fun _ => fun
  | [d1, d2, d3] => { results := [.lit (.bool false)], args := [d1, d2, d3] }
  | _ => none }
def LinkPlaysWrongFalsely : Prop := linkPlaysRow.holds Try.pinned (OpenSpec.ofChange linkPlaysWrong)

/-- 'huddlelaw32.LinkQuiet': WHATEVER THE INPUT: true; the input reads as it did. -/
def linkQuietSpec : ChangeSpec := { name := "linkQuiet", fn := fun _ => fun
  | [d1, d2, d3] => { results := [.lit (.bool true)], args := [d1, d2, d3] }
  | _ => none }
def linkQuietRow : OpenClaim := { program := "ytmgjccalpdlbbaa", sum := "6afd75c5da0d9f408871c314ce0343ebc91c6fdbf5f4c8873b84aa939b7ada91", func := "huddle/huddlelaw32.LinkQuiet", spec := "linkQuiet", apart := false }
def LinkQuietSaid : Prop := linkQuietRow.holds Try.pinned (OpenSpec.ofChange linkQuietSpec)

/-- ITS FALSE NEIGHBOUR: 'it returns false'. Refute it at one input. -/
def linkQuietWrong : ChangeSpec := { name := "linkQuiet", fn := fun _ => fun
  | [d1, d2, d3] => { results := [.lit (.bool false)], args := [d1, d2, d3] }
  | _ => none }
def LinkQuietWrongFalsely : Prop := linkQuietRow.holds Try.pinned (OpenSpec.ofChange linkQuietWrong)

/-- 'huddlelaw32.LinkRow': WHATEVER THE INPUT: true; the input reads as it did. -/
def linkRowSpec : ChangeSpec := { name := "linkRow", fn := fun _ => fun
  | [d1, d2] => { results := [.lit (.bool true)], args := [d1, d2] }
  | _ => none }
def linkRowRow : OpenClaim := { program := "ytmgjccalpdlbbaa", sum := "6afd75c5da0d9f408871c314ce0343ebc91c6fdbf5f4c8873b84aa939b7ada91", func := "huddle/huddlelaw32.LinkRow", spec := "linkRow", apart := false }
def LinkRowSaid : Prop := linkRowRow.holds Try.pinned (OpenSpec.ofChange linkRowSpec)

/-- ITS FALSE NEIGHBOUR: 'it returns false'. Refute it at one input. -/
def linkRowWrong : ChangeSpec := { name := "linkRow", fn := fun _ => fun
  | [d1, d2] => { results := [.lit (.bool false)], args := [d1, d2] }
  | _ => none }
def LinkRowWrongFalsely : Prop := linkRowRow.holds Try.pinned (OpenSpec.ofChange linkRowWrong)

/-- 'huddlelaw32.LinkCuts': WHATEVER THE INPUT: true; the input reads as it did. -/
def linkCutsSpec : ChangeSpec := { name := "linkCuts", fn := fun _ => fun
  | [d1, d2, d3] => { results := [.lit (.bool true)], args := [d1, d2, d3] }
  | _ => none }
def linkCutsRow : OpenClaim := { program := "ytmgjccalpdlbbaa", sum := "6afd75c5da0d9f408871c314ce0343ebc91c6fdbf5f4c8873b84aa939b7ada91", func := "huddle/huddlelaw32.LinkCuts", spec := "linkCuts", apart := false }
def LinkCutsSaid : Prop := linkCutsRow.holds Try.pinned (OpenSpec.ofChange linkCutsSpec)

/-- ITS FALSE NEIGHBOUR: 'it returns false'. Refute it at one input. -/
def linkCutsWrong : ChangeSpec := { name := "linkCuts", fn := fun _ => fun
  | [d1, d2, d3] => { results := [.lit (.bool false)], args := [d1, d2, d3] }
  | _ => none }
def LinkCutsWrongFalsely : Prop := linkCutsRow.holds Try.pinned (OpenSpec.ofChange linkCutsWrong)

/-- 'huddlelaw32.LinkChecks': WHATEVER THE INPUT: true; the input reads as it did. -/
def linkChecksSpec : ChangeSpec := { name := "linkChecks", fn := fun _ => fun
  | [d1, d2, d3, d4, d5, d6] => { results := [.lit (.bool true)], args := [d1, d2, d3, d4, d5, d6] }
  | _ => none }
def linkChecksRow : OpenClaim := { program := "ytmgjccalpdlbbaa", sum := "6afd75c5da0d9f408871c314ce0343ebc91c6fdbf5f4c8873b84aa939b7ada91", func := "huddle/huddlelaw32.LinkChecks", spec := "linkChecks", apart := false }
def LinkChecksSaid : Prop := linkChecksRow.holds Try.pinned (OpenSpec.ofChange linkChecksSpec)

/-- ITS FALSE NEIGHBOUR: 'it returns false'. Refute it at one input. -/
def linkChecksWrong : ChangeSpec := { name := "linkChecks", fn := fun _ => fun
  | [d1, d2, d3, d4, d5, d6] => { results := [.lit (.bool false)], args := [d1, d2, d3, d4, d5, d6] }
  | _ => none }
def LinkChecksWrongFalsely : Prop := linkChecksRow.holds Try.pinned (OpenSpec.ofChange linkChecksWrong)

/- THE SECOND FORM. 'bulk': how many values and letters a reading holds, each counted each time it is reached (what is shared counts as often as it is met; a slice's spare places count too). A statement '..UptoSaid' is the law's where the arguments, and the package variables that the reading takes, are together of bulk at most 1048576: NARROWER than '..Said'. Prove '..Said' where nothing that the law and all that it calls make is longer than what came in: it says more and counts as full. Else prove '..UptoSaid'. A law counts once. -/
mutual
def uptoBulk {H : Type} : DataW H → Nat
  | .lit (.string bytes) => bytes.length + 1
  | .lit _ => 1
  | .nil => 1
  | .ptr d => uptoBulk d + 1
  | .slice elems spare => uptoBulkAll elems + uptoBulkAll spare + 1
  | .agg parts => uptoBulkAll parts + 1
  | .iface _ d => uptoBulk d + 1
  | .map entries => uptoBulkEntries entries + 1
  | .held _ => 1
def uptoBulkAll {H : Type} : List (DataW H) → Nat
  | [] => 0
  | d :: r => uptoBulk d + uptoBulkAll r
def uptoBulkEntries {H : Type} : List (Lit × DataW H) → Nat
  | [] => 0
  | x :: r => uptoBulkEntry x + uptoBulkEntries r
def uptoBulkEntry {H : Type} : Lit × DataW H → Nat
  | (.string bytes, d) => bytes.length + uptoBulk d + 1
  | (_, d) => uptoBulk d + 1
 end
def uptoSmall : (H : Type) → List (DataW H) → Bool := fun _ ds => decide (uptoBulkAll ds ≤ 1048576)
def OpenSpec.upto (s : _root_.Go.ChangeSpec) : _root_.Go.OpenSpec := { _root_.Go.OpenSpec.ofChange s with cond := some uptoSmall }

/-- 'huddlelaw32.LinkEach', WHERE WHAT IT READS IS OF BULK AT MOST 1048576: true; the input reads as it did. -/
def linkEachUptoRow : OpenClaim := { program := "ytmgjccalpdlbbaa", sum := "6afd75c5da0d9f408871c314ce0343ebc91c6fdbf5f4c8873b84aa939b7ada91", func := "huddle/huddlelaw32.LinkEach", spec := "linkEach", apart := false, narrowed := true }
def LinkEachUptoSaid : Prop := linkEachUptoRow.holds Try.pinned (OpenSpec.upto linkEachSpec)

/-- 'huddlelaw32.LinkPlays', WHERE WHAT IT READS IS OF BULK AT MOST 1048576: true; the input reads as it did. -/
def linkPlaysUptoRow : OpenClaim := { program := "ytmgjccalpdlbbaa", sum := "6afd75c5da0d9f408871c314ce0343ebc91c6fdbf5f4c8873b84aa939b7ada91", func := "huddle/huddlelaw32.LinkPlays", spec := "linkPlays", apart := false, narrowed := true }
def LinkPlaysUptoSaid : Prop := linkPlaysUptoRow.holds Try.pinned (OpenSpec.upto linkPlaysSpec)

/-- 'huddlelaw32.LinkQuiet', WHERE WHAT IT READS IS OF BULK AT MOST 1048576: true; the input reads as it did. -/
def linkQuietUptoRow : OpenClaim := { program := "ytmgjccalpdlbbaa", sum := "6afd75c5da0d9f408871c314ce0343ebc91c6fdbf5f4c8873b84aa939b7ada91", func := "huddle/huddlelaw32.LinkQuiet", spec := "linkQuiet", apart := false, narrowed := true }
def LinkQuietUptoSaid : Prop := linkQuietUptoRow.holds Try.pinned (OpenSpec.upto linkQuietSpec)

/-- 'huddlelaw32.LinkRow', WHERE WHAT IT READS IS OF BULK AT MOST 1048576: true; the input reads as it did. -/
def linkRowUptoRow : OpenClaim := { program := "ytmgjccalpdlbbaa", sum := "6afd75c5da0d9f408871c314ce0343ebc91c6fdbf5f4c8873b84aa939b7ada91", func := "huddle/huddlelaw32.LinkRow", spec := "linkRow", apart := false, narrowed := true }
def LinkRowUptoSaid : Prop := linkRowUptoRow.holds Try.pinned (OpenSpec.upto linkRowSpec)

/-- 'huddlelaw32.LinkCuts', WHERE WHAT IT READS IS OF BULK AT MOST 1048576: true; the input reads as it did. -/
def linkCutsUptoRow : OpenClaim := { program := "ytmgjccalpdlbbaa", sum := "6afd75c5da0d9f408871c314ce0343ebc91c6fdbf5f4c8873b84aa939b7ada91", func := "huddle/huddlelaw32.LinkCuts", spec := "linkCuts", apart := false, narrowed := true }
def LinkCutsUptoSaid : Prop := linkCutsUptoRow.holds Try.pinned (OpenSpec.upto linkCutsSpec)

/-- 'huddlelaw32.LinkChecks', WHERE WHAT IT READS IS OF BULK AT MOST 1048576: true; the input reads as it did. -/
def linkChecksUptoRow : OpenClaim := { program := "ytmgjccalpdlbbaa", sum := "6afd75c5da0d9f408871c314ce0343ebc91c6fdbf5f4c8873b84aa939b7ada91", func := "huddle/huddlelaw32.LinkChecks", spec := "linkChecks", apart := false, narrowed := true }
def LinkChecksUptoSaid : Prop := linkChecksUptoRow.holds Try.pinned (OpenSpec.upto linkChecksSpec)

end Rows
end Go.Proofs.Ytmgjccalpdlbbaa
