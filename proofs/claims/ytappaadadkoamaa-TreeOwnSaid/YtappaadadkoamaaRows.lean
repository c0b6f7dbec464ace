/-
  No cell of these rows narrows 'for every input' (looked for: loops, veiled, ifaces, maps, wideKeys, modest, calm, conditions, laid).
  DERIVED. THE GIVEN ROWS OF THIS SEAT. 8 by the template 'for every input the law returns true; each argument reads behind the call as it read before'; 0 by the template 'total and deterministic' (their statements: YtappaadadkoamaaTotals.lean).
  GIVEN WITH THE SEED: the statements are not yours to turn. If you find one false, say at which input.
  Laid BY PROGRAM, IN A SANDBOX (cutbox-rows.mjs): the forced cells as the released guide's own fill.sh prints them over the translation 1540ab8a2b6de3e0… (all of the seat's roots in one cut). By AI agents, Wed Nov 11 2026. No macro, syntax, notation, axiom, sorry.
-/
import Derived.Test.YtappaadadkoamaaChecked
import GoSem.Claim
import GoSem.ClaimJoined
import GoSem.ClaimMapViews
import Derived.JoinedTies
import Derived.KernelRfl
namespace Go.Proofs.Ytappaadadkoamaa
/- THE CELL 'sum', in the pinned program and in every row, IS THE sha256 OF THE DUMP (.gsa) THAT YtappaadadkoamaaProg.lean LOADS. Nothing in Lean hashes anything: it is a label: what it is worth is what the hold of that sum in a sandbox is worth. -/
noncomputable def Try.pinned : Pinned := { name := "ytappaadadkoamaa", sum := "1540ab8a2b6de3e0e821473f2d51fd22bafd748c77d56c70d04fcd324930d46a", checked := Try.checked }
namespace Rows
def none {H : Type} : Left H := { results := [], args := [] }

/-- 'huddlelaw18.TreeSets': WHATEVER THE INPUT: true; the input reads as it did. -/
def treeSetsSpec : ChangeSpec := { name := "treeSets", fn := fun _ => fun
  | [d] => { results := [.lit (.bool true)], args := [d] }
  | _ => none }
def treeSetsRow : OpenClaim := { program := "ytappaadadkoamaa", sum := "1540ab8a2b6de3e0e821473f2d51fd22bafd748c77d56c70d04fcd324930d46a", func := "huddle/huddlelaw18.TreeSets", spec := "treeSets", unfollowed := true, recurses := true, apart := false }
def TreeSetsSaid : Prop := treeSetsRow.holds Try.pinned (OpenSpec.ofChange treeSetsSpec)

/-- ITS FALSE NEIGHBOUR: 'it returns false'. Refute it at one input. -/
def treeSetsWrong : ChangeSpec := { name := "treeSets", fn := fun _ => fun
  | [d] => { results := [.lit (.bool false)], args := [d] }
  | _ => none }
def TreeSetsWrongFalsely : Prop := treeSetsRow.holds Try.pinned (OpenSpec.ofChange treeSetsWrong)

/-- 'huddlelaw18.TreePaths': WHATEVER THE INPUT: true; the input reads as it did. -/
def treePathsSpec : ChangeSpec := { name := "treePaths", fn := fun _ => fun
  | [d1, d2] => { results := [.lit (.bool true)], args := [d1, d2] }
  | _ => none }
def treePathsRow : OpenClaim := { program := "ytappaadadkoamaa", sum := "1540ab8a2b6de3e0e821473f2d51fd22bafd748c77d56c70d04fcd324930d46a", func := "huddle/huddlelaw18.TreePaths", spec := "treePaths", unfollowed := true, recurses := true, apart := false }
def TreePathsSaid : Prop := treePathsRow.holds Try.pinned (OpenSpec.ofChange treePathsSpec)

/-- ITS FALSE NEIGHBOUR: 'it returns false'. Refute it at one input. -/
def treePathsWrong : ChangeSpec := { name := "treePaths", fn := fun _ => fun
  | [d1, d2] => { results := [.lit (.bool false)], args := [d1, d2] }
  | _ => none }
def TreePathsWrongFalsely : Prop := treePathsRow.holds Try.pinned (OpenSpec.ofChange treePathsWrong)

/-- 'huddlelaw18.TreeCounts': WHATEVER THE INPUT: true; the input reads as it did. -/
def treeCountsSpec : ChangeSpec := { name := "treeCounts", fn := fun _ => fun
  | [d] => { results := [.lit (.bool true)], args := [d] }
  | _ => none }
def treeCountsRow : OpenClaim := { program := "ytappaadadkoamaa", sum := "1540ab8a2b6de3e0e821473f2d51fd22bafd748c77d56c70d04fcd324930d46a", func := "huddle/huddlelaw18.TreeCounts", spec := "treeCounts", unfollowed := true, recurses := true, apart := false }
def TreeCountsSaid : Prop := treeCountsRow.holds Try.pinned (OpenSpec.ofChange treeCountsSpec)

/-- ITS FALSE NEIGHBOUR: 'it returns false'. Refute it at one input. -/
def treeCountsWrong : ChangeSpec := { name := "treeCounts", fn := fun _ => fun
  | [d] => { results := [.lit (.bool false)], args := [d] }
  | _ => none }
def TreeCountsWrongFalsely : Prop := treeCountsRow.holds Try.pinned (OpenSpec.ofChange treeCountsWrong)

/-- 'huddlelaw18.TreeDeep': WHATEVER THE INPUT: true; the input reads as it did. -/
def treeDeepSpec : ChangeSpec := { name := "treeDeep", fn := fun _ => fun
  | [d1, d2] => { results := [.lit (.bool true)], args := [d1, d2] }
  | _ => none }
def treeDeepRow : OpenClaim := { program := "ytappaadadkoamaa", sum := "1540ab8a2b6de3e0e821473f2d51fd22bafd748c77d56c70d04fcd324930d46a", func := "huddle/huddlelaw18.TreeDeep", spec := "treeDeep", unfollowed := true, recurses := true, apart := false }
def TreeDeepSaid : Prop := treeDeepRow.holds Try.pinned (OpenSpec.ofChange treeDeepSpec)

/-- ITS FALSE NEIGHBOUR: 'it returns false'. Refute it at one input. -/
def treeDeepWrong : ChangeSpec := { name := "treeDeep", fn := fun _ => fun
  | [d1, d2] => { results := [.lit (.bool false)], args := [d1, d2] }
  | _ => none }
def TreeDeepWrongFalsely : Prop := treeDeepRow.holds Try.pinned (OpenSpec.ofChange treeDeepWrong)

/-- 'huddlelaw18.TreeJoins': WHATEVER THE INPUT: true; the input reads as it did. -/
def treeJoinsSpec : ChangeSpec := { name := "treeJoins", fn := fun _ => fun
  | [d1, d2] => { results := [.lit (.bool true)], args := [d1, d2] }
  | _ => none }
def treeJoinsRow : OpenClaim := { program := "ytappaadadkoamaa", sum := "1540ab8a2b6de3e0e821473f2d51fd22bafd748c77d56c70d04fcd324930d46a", func := "huddle/huddlelaw18.TreeJoins", spec := "treeJoins", unfollowed := true, recurses := true, apart := false }
def TreeJoinsSaid : Prop := treeJoinsRow.holds Try.pinned (OpenSpec.ofChange treeJoinsSpec)

/-- ITS FALSE NEIGHBOUR: 'it returns false'. Refute it at one input. -/
def treeJoinsWrong : ChangeSpec := { name := "treeJoins", fn := fun _ => fun
  | [d1, d2] => { results := [.lit (.bool false)], args := [d1, d2] }
  | _ => none }
def TreeJoinsWrongFalsely : Prop := treeJoinsRow.holds Try.pinned (OpenSpec.ofChange treeJoinsWrong)

/-- 'huddlelaw18.TreeGrows': WHATEVER THE INPUT: true; the input reads as it did. -/
def treeGrowsSpec : ChangeSpec := { name := "treeGrows", fn := fun _ => fun
  | [d] => { results := [.lit (.bool true)], args := [d] }
  | _ => none }
def treeGrowsRow : OpenClaim := { program := "ytappaadadkoamaa", sum := "1540ab8a2b6de3e0e821473f2d51fd22bafd748c77d56c70d04fcd324930d46a", func := "huddle/huddlelaw18.TreeGrows", spec := "treeGrows", unfollowed := true, recurses := true, apart := false }
def TreeGrowsSaid : Prop := treeGrowsRow.holds Try.pinned (OpenSpec.ofChange treeGrowsSpec)

/-- ITS FALSE NEIGHBOUR: 'it returns false'. Refute it at one input. -/
def treeGrowsWrong : ChangeSpec := { name := "treeGrows", fn := fun _ => fun
  | [d] => { results := [.lit (.bool false)], args := [d] }
  | _ => none }
def TreeGrowsWrongFalsely : Prop := treeGrowsRow.holds Try.pinned (OpenSpec.ofChange treeGrowsWrong)

/-- 'huddlelaw18.TreeNames': WHATEVER THE INPUT: true; the input reads as it did. -/
def treeNamesSpec : ChangeSpec := { name := "treeNames", fn := fun _ => fun
  | [d1, d2, d3] => { results := [.lit (.bool true)], args := [d1, d2, d3] }
  | _ => none }
def treeNamesRow : OpenClaim := { program := "ytappaadadkoamaa", sum := "1540ab8a2b6de3e0e821473f2d51fd22bafd748c77d56c70d04fcd324930d46a", func := "huddle/huddlelaw18.TreeNames", spec := "treeNames", unfollowed := true, recurses := true, apart := false }
def TreeNamesSaid : Prop := treeNamesRow.holds Try.pinned (OpenSpec.ofChange treeNamesSpec)

/-- ITS FALSE NEIGHBOUR: 'it returns false'. Refute it at one input. -/
def treeNamesWrong : ChangeSpec := { name := "treeNames", fn := fun _ => fun
  | [d1, d2, d3] => { results := [.lit (.bool false)], args := [d1, d2, d3] }
  | _ => none }
def TreeNamesWrongFalsely : Prop := treeNamesRow.holds Try.pinned (OpenSpec.ofChange treeNamesWrong)

/-- 'huddlelaw18.TreeOwn': WHATEVER THE INPUT: true; the input reads as it did. -/
def treeOwnSpec : ChangeSpec := { name := "treeOwn", fn := fun _ => fun
  | [d1, d2] => { results := [.lit (.bool true)], args := [d1, d2] }
  | _ => none }
def treeOwnRow : OpenClaim := { program := "ytappaadadkoamaa", sum := "1540ab8a2b6de3e0e821473f2d51fd22bafd748c77d56c70d04fcd324930d46a", func := "huddle/huddlelaw18.TreeOwn", spec := "treeOwn", unfollowed := true, recurses := true, apart := false }
def TreeOwnSaid : Prop := treeOwnRow.holds Try.pinned (OpenSpec.ofChange treeOwnSpec)

/-- ITS FALSE NEIGHBOUR: 'it returns false'. Refute it at one input. -/
def treeOwnWrong : ChangeSpec := { name := "treeOwn", fn := fun _ => fun
  | [d1, d2] => { results := [.lit (.bool false)], args := [d1, d2] }
  | _ => none }
def TreeOwnWrongFalsely : Prop := treeOwnRow.holds Try.pinned (OpenSpec.ofChange treeOwnWrong)

/- THE SECOND FORM. 'bulk': how many values and letters a reading holds, each counted each time it is reached (what is shared counts as often as it is met; a slice's spare places count too). A statement '..UptoSaid' is the law's where the arguments, and the package variables that the reading takes, are together of bulk at most 1048576: NARROWER than '..Said'. Prove '..Said' where nothing that the law and all that it calls make is longer than what came in: it says more and counts as full. Else prove '..UptoSaid'. A law counts once. -/
mutual
def uptoBulk {H : Type} : DataW H → Nat
  | .lit (.string bytes) => bytes.length + 1
  | .lit _ => 1
  | .nil => 1
  | .ptr d => uptoBulk d + 1
  | .slice elems spare => uptoBulkAll elems + uptoBulkAll spare + 1
  | .agg parts => uptoBulkAll parts + 1
  | .iface _ d => uptoBulk d + 1
  | .map entries => uptoBulkEntries entries + 1
  | .held _ => 1
def uptoBulkAll {H : Type} : List (DataW H) → Nat
  | [] => 0
  | d :: r => uptoBulk d + uptoBulkAll r
def uptoBulkEntries {H : Type} : List (Lit × DataW H) → Nat
  | [] => 0
  | x :: r => uptoBulkEntry x + uptoBulkEntries r
def uptoBulkEntry {H : Type} : Lit × DataW H → Nat
  | (.string bytes, d) => bytes.length + uptoBulk d + 1
  | (_, d) => uptoBulk d + 1
 end
def uptoSmall : (H : Type) → List (DataW H) → Bool := fun _ ds => decide (uptoBulkAll ds ≤ 1048576)
def OpenSpec.upto (s : _root_.Go.ChangeSpec) : _root_.Go.OpenSpec := { _root_.Go.OpenSpec.ofChange s with cond := some uptoSmall }

/-- 'huddlelaw18.TreeSets', WHERE WHAT IT READS IS OF BULK AT MOST 1048576: true; the input reads as it did. -/
def treeSetsUptoRow : OpenClaim := { program := "ytappaadadkoamaa", sum := "1540ab8a2b6de3e0e821473f2d51fd22bafd748c77d56c70d04fcd324930d46a", func := "huddle/huddlelaw18.TreeSets", spec := "treeSets", unfollowed := true, recurses := true, apart := false, narrowed := true }
def TreeSetsUptoSaid : Prop := treeSetsUptoRow.holds Try.pinned (OpenSpec.upto treeSetsSpec)

/-- 'huddlelaw18.TreePaths', WHERE WHAT IT READS IS OF BULK AT MOST 1048576: true; the input reads as it did. -/
def treePathsUptoRow : OpenClaim := { program := "ytappaadadkoamaa", sum := "1540ab8a2b6de3e0e821473f2d51fd22bafd748c77d56c70d04fcd324930d46a", func := "huddle/huddlelaw18.TreePaths", spec := "treePaths", unfollowed := true, recurses := true, apart := false, narrowed := true }
def TreePathsUptoSaid : Prop := treePathsUptoRow.holds Try.pinned (OpenSpec.upto treePathsSpec)

/-- 'huddlelaw18.TreeCounts', WHERE WHAT IT READS IS OF BULK AT MOST 1048576: true; the input reads as it did. -/
def treeCountsUptoRow : OpenClaim := { program := "ytappaadadkoamaa", sum := "1540ab8a2b6de3e0e821473f2d51fd22bafd748c77d56c70d04fcd324930d46a", func := "huddle/huddlelaw18.TreeCounts", spec := "treeCounts", unfollowed := true, recurses := true, apart := false, narrowed := true }
def TreeCountsUptoSaid : Prop := treeCountsUptoRow.holds Try.pinned (OpenSpec.upto treeCountsSpec)

/-- 'huddlelaw18.TreeDeep', WHERE WHAT IT READS IS OF BULK AT MOST 1048576: true; the input reads as it did. -/
def treeDeepUptoRow : OpenClaim := { program := "ytappaadadkoamaa", sum := "1540ab8a2b6de3e0e821473f2d51fd22bafd748c77d56c70d04fcd324930d46a", func := "huddle/huddlelaw18.TreeDeep", spec := "treeDeep", unfollowed := true, recurses := true, apart := false, narrowed := true }
def TreeDeepUptoSaid : Prop := treeDeepUptoRow.holds Try.pinned (OpenSpec.upto treeDeepSpec)

/-- 'huddlelaw18.TreeJoins', WHERE WHAT IT READS IS OF BULK AT MOST 1048576: true; the input reads as it did. -/
def treeJoinsUptoRow : OpenClaim := { program := "ytappaadadkoamaa", sum := "1540ab8a2b6de3e0e821473f2d51fd22bafd748c77d56c70d04fcd324930d46a", func := "huddle/huddlelaw18.TreeJoins", spec := "treeJoins", unfollowed := true, recurses := true, apart := false, narrowed := true }
def TreeJoinsUptoSaid : Prop := treeJoinsUptoRow.holds Try.pinned (OpenSpec.upto treeJoinsSpec)

/-- 'huddlelaw18.TreeGrows', WHERE WHAT IT READS IS OF BULK AT MOST 1048576: true; the input reads as it did. -/
def treeGrowsUptoRow : OpenClaim := { program := "ytappaadadkoamaa", sum := "1540ab8a2b6de3e0e821473f2d51fd22bafd748c77d56c70d04fcd324930d46a", func := "huddle/huddlelaw18.TreeGrows", spec := "treeGrows", unfollowed := true, recurses := true, apart := false, narrowed := true }
def TreeGrowsUptoSaid : Prop := treeGrowsUptoRow.holds Try.pinned (OpenSpec.upto treeGrowsSpec)

/-- 'huddlelaw18.TreeNames', WHERE WHAT IT READS IS OF BULK AT MOST 1048576: true; the input reads as it did. -/
def treeNamesUptoRow : OpenClaim := { program := "ytappaadadkoamaa", sum := "1540ab8a2b6de3e0e821473f2d51fd22bafd748c77d56c70d04fcd324930d46a", func := "huddle/huddlelaw18.TreeNames", spec := "treeNames", unfollowed := true, recurses := true, apart := false, narrowed := true }
def TreeNamesUptoSaid : Prop := treeNamesUptoRow.holds Try.pinned (OpenSpec.upto treeNamesSpec)

/-- 'huddlelaw18.TreeOwn', WHERE WHAT IT READS IS OF BULK AT MOST 1048576: true; the input reads as it did. -/
def treeOwnUptoRow : OpenClaim := { program := "ytappaadadkoamaa", sum := "1540ab8a2b6de3e0e821473f2d51fd22bafd748c77d56c70d04fcd324930d46a", func := "huddle/huddlelaw18.TreeOwn", spec := "treeOwn", unfollowed := true, recurses := true, apart := false, narrowed := true }
def TreeOwnUptoSaid : Prop := treeOwnUptoRow.holds Try.pinned (OpenSpec.upto treeOwnSpec)

end Rows
end Go.Proofs.Ytappaadadkoamaa
