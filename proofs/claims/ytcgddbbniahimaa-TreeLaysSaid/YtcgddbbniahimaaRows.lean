/-
  No cell of these rows narrows 'for every input' (looked for: loops, veiled, ifaces, maps, wideKeys, modest, calm, conditions, laid).
  DERIVED. THE GIVEN ROWS OF THIS SEAT. 8 by the template 'for every input the law returns true; each argument reads behind the call as it read before'; 0 by the template 'total and deterministic' (their statements: YtcgddbbniahimaaTotals.lean).
  GIVEN WITH THE SEED: the statements are not yours to turn. If you find one false, say at which input.
  Laid BY PROGRAM, IN A SANDBOX (cutbox-rows.mjs): the forced cells as the released guide's own fill.sh prints them over the translation 327da11a6028cb24… (all of the seat's roots in one cut). By AI agents, Wed Nov 11 2026. No macro, syntax, notation, axiom, sorry.
-/
import Derived.Test.YtcgddbbniahimaaChecked
import GoSem.Claim
import GoSem.ClaimJoined
import GoSem.ClaimMapViews
import Derived.JoinedTies
import Derived.KernelRfl
namespace Go.Proofs.Ytcgddbbniahimaa
/- THE CELL 'sum', in the pinned program and in every row, IS THE sha256 OF THE DUMP (.gsa) THAT YtcgddbbniahimaaProg.lean LOADS. Nothing in Lean hashes anything: it is a label: what it is worth is what the hold of that sum in a sandbox is worth. -/
noncomputable def Try.pinned : Pinned := { name := "ytcgddbbniahimaa", sum := "327da11a6028cb24b1f9625976054c1ec1bbdf04c75ec95d95f1b4c66664bfb6", checked := Try.checked }
namespace Rows
def none {H : Type} : Left H := { results := [], args := [] }

/-- 'shunterlaw13.TreeBad': WHATEVER THE INPUT: true; the input reads as it did. -/
def treeBadSpec : ChangeSpec := { name := "treeBad", fn := fun _ => fun
  | [d1, d2, d3] => { results := [.lit (.bool true)], args := [d1, d2, d3] }
  | _ => none }
def treeBadRow : OpenClaim := { program := "ytcgddbbniahimaa", sum := "327da11a6028cb24b1f9625976054c1ec1bbdf04c75ec95d95f1b4c66664bfb6", func := "shunter/shunterlaw13.TreeBad", spec := "treeBad", unfollowed := true, recurses := true, apart := false }
def TreeBadSaid : Prop := treeBadRow.holds Try.pinned (OpenSpec.ofChange treeBadSpec)

/-- ITS FALSE NEIGHBOUR: 'it returns false'. Refute it at one input. -/
def treeBadWrong : ChangeSpec := { name := "treeBad", fn := fun _ => fun
  | [d1, d2, d3] => { results := [.lit (.bool false)], args := [d1, d2, d3] }
  | _ => none }
def TreeBadWrongFalsely : Prop := treeBadRow.holds Try.pinned (OpenSpec.ofChange treeBadWrong)

/-- 'shunterlaw13.TreeKeeps': WHATEVER THE INPUT: true; the input reads as it did. -/
def treeKeepsSpec : ChangeSpec := { name := "treeKeeps", fn := fun _ => fun
  | [d1, d2, d3, d4] => { results := [.lit (.bool true)], args := [d1, d2, d3, d4] }
  | _ => none }
def treeKeepsRow : OpenClaim := { program := "ytcgddbbniahimaa", sum := "327da11a6028cb24b1f9625976054c1ec1bbdf04c75ec95d95f1b4c66664bfb6", func := "shunter/shunterlaw13.TreeKeeps", spec := "treeKeeps", unfollowed := true, recurses := true, apart := false }
def TreeKeepsSaid : Prop := treeKeepsRow.holds Try.pinned (OpenSpec.ofChange treeKeepsSpec)

/-- ITS FALSE NEIGHBOUR: 'it returns false'. Refute it at one input. -/
def treeKeepsWrong : ChangeSpec := { name := "treeKeeps", fn := fun _ => fun
  | [d1, d2, d3, d4] => { results := [.lit (.bool false)], args := [d1, d2, d3, d4] }
  | _ => none }
def TreeKeepsWrongFalsely : Prop := treeKeepsRow.holds Try.pinned (OpenSpec.ofChange treeKeepsWrong)

/-- 'shunterlaw13.TreeParts': WHATEVER THE INPUT: true; the input reads as it did. -/
def treePartsSpec : ChangeSpec := { name := "treeParts", fn := fun _ => fun
  | [d1, d2, d3] => { results := [.lit (.bool true)], args := [d1, d2, d3] }
  | _ => none }
def treePartsRow : OpenClaim := { program := "ytcgddbbniahimaa", sum := "327da11a6028cb24b1f9625976054c1ec1bbdf04c75ec95d95f1b4c66664bfb6", func := "shunter/shunterlaw13.TreeParts", spec := "treeParts", unfollowed := true, recurses := true, apart := false }
def TreePartsSaid : Prop := treePartsRow.holds Try.pinned (OpenSpec.ofChange treePartsSpec)

/-- ITS FALSE NEIGHBOUR: 'it returns false'. Refute it at one input. -/
def treePartsWrong : ChangeSpec := { name := "treeParts", fn := fun _ => fun
  | [d1, d2, d3] => { results := [.lit (.bool false)], args := [d1, d2, d3] }
  | _ => none }
def TreePartsWrongFalsely : Prop := treePartsRow.holds Try.pinned (OpenSpec.ofChange treePartsWrong)

/-- 'shunterlaw13.TreePaths': WHATEVER THE INPUT: true; the input reads as it did. -/
def treePathsSpec : ChangeSpec := { name := "treePaths", fn := fun _ => fun
  | [d1, d2, d3, d4, d5, d6] => { results := [.lit (.bool true)], args := [d1, d2, d3, d4, d5, d6] }
  | _ => none }
def treePathsRow : OpenClaim := { program := "ytcgddbbniahimaa", sum := "327da11a6028cb24b1f9625976054c1ec1bbdf04c75ec95d95f1b4c66664bfb6", func := "shunter/shunterlaw13.TreePaths", spec := "treePaths", unfollowed := true, recurses := true, apart := false }
def TreePathsSaid : Prop := treePathsRow.holds Try.pinned (OpenSpec.ofChange treePathsSpec)

/-- ITS FALSE NEIGHBOUR: 'it returns false'. Refute it at one input. -/
def treePathsWrong : ChangeSpec := { name := "treePaths", fn := fun _ => fun
  | [d1, d2, d3, d4, d5, d6] => { results := [.lit (.bool false)], args := [d1, d2, d3, d4, d5, d6] }
  | _ => none }
def TreePathsWrongFalsely : Prop := treePathsRow.holds Try.pinned (OpenSpec.ofChange treePathsWrong)

/-- 'shunterlaw13.TreeLays': WHATEVER THE INPUT: true; the input reads as it did. -/
def treeLaysSpec : ChangeSpec := { name := "treeLays", fn := fun _ => fun
  | [d1, d2, d3] => { results := [.lit (.bool true)], args := [d1, d2, d3] }
  | _ => none }
def treeLaysRow : OpenClaim := { program := "ytcgddbbniahimaa", sum := "327da11a6028cb24b1f9625976054c1ec1bbdf04c75ec95d95f1b4c66664bfb6", func := "shunter/shunterlaw13.TreeLays", spec := "treeLays", unfollowed := true, recurses := true, apart := false }
def TreeLaysSaid : Prop := treeLaysRow.holds Try.pinned (OpenSpec.ofChange treeLaysSpec)

/-- ITS FALSE NEIGHBOUR: 'it returns false'. Refute it at one input. -/
def treeLaysWrong : ChangeSpec := { name := "treeLays", fn := fun _ => fun
  | [d1, d2, d3] => { results := [.lit (.bool false)], args := [d1, d2, d3] }
  | _ => none }
def TreeLaysWrongFalsely : Prop := treeLaysRow.holds Try.pinned (OpenSpec.ofChange treeLaysWrong)

/-- 'shunterlaw13.TreeWays': WHATEVER THE INPUT: true; the input reads as it did. -/
def treeWaysSpec : ChangeSpec := { name := "treeWays", fn := fun _ => fun
  | [d1, d2, d3] => { results := [.lit (.bool true)], args := [d1, d2, d3] }
  | _ => none }
def treeWaysRow : OpenClaim := { program := "ytcgddbbniahimaa", sum := "327da11a6028cb24b1f9625976054c1ec1bbdf04c75ec95d95f1b4c66664bfb6", func := "shunter/shunterlaw13.TreeWays", spec := "treeWays", unfollowed := true, recurses := true, apart := false }
def TreeWaysSaid : Prop := treeWaysRow.holds Try.pinned (OpenSpec.ofChange treeWaysSpec)

/-- ITS FALSE NEIGHBOUR: 'it returns false'. Refute it at one input. -/
def treeWaysWrong : ChangeSpec := { name := "treeWays", fn := fun _ => fun
  | [d1, d2, d3] => { results := [.lit (.bool false)], args := [d1, d2, d3] }
  | _ => none }
def TreeWaysWrongFalsely : Prop := treeWaysRow.holds Try.pinned (OpenSpec.ofChange treeWaysWrong)

/-- 'shunterlaw13.TreeStar': WHATEVER THE INPUT: true; the input reads as it did. -/
def treeStarSpec : ChangeSpec := { name := "treeStar", fn := fun _ => fun
  | [d1, d2, d3] => { results := [.lit (.bool true)], args := [d1, d2, d3] }
  | _ => none }
def treeStarRow : OpenClaim := { program := "ytcgddbbniahimaa", sum := "327da11a6028cb24b1f9625976054c1ec1bbdf04c75ec95d95f1b4c66664bfb6", func := "shunter/shunterlaw13.TreeStar", spec := "treeStar", unfollowed := true, recurses := true, apart := false }
def TreeStarSaid : Prop := treeStarRow.holds Try.pinned (OpenSpec.ofChange treeStarSpec)

/-- ITS FALSE NEIGHBOUR: 'it returns false'. Refute it at one input. -/
def treeStarWrong : ChangeSpec := { name := "treeStar", fn := fun _ => fun
  | [d1, d2, d3] => { results := [.lit (.bool false)], args := [d1, d2, d3] }
  | _ => none }
def TreeStarWrongFalsely : Prop := treeStarRow.holds Try.pinned (OpenSpec.ofChange treeStarWrong)

/-- 'shunterlaw13.TreePlans': WHATEVER THE INPUT: true; the input reads as it did. -/
def treePlansSpec : ChangeSpec := { name := "treePlans", fn := fun _ => fun
  | [d1, d2, d3, d4] => { results := [.lit (.bool true)], args := [d1, d2, d3, d4] }
  | _ => none }
def treePlansRow : OpenClaim := { program := "ytcgddbbniahimaa", sum := "327da11a6028cb24b1f9625976054c1ec1bbdf04c75ec95d95f1b4c66664bfb6", func := "shunter/shunterlaw13.TreePlans", spec := "treePlans", unfollowed := true, recurses := true, apart := false }
def TreePlansSaid : Prop := treePlansRow.holds Try.pinned (OpenSpec.ofChange treePlansSpec)

/-- ITS FALSE NEIGHBOUR: 'it returns false'. Refute it at one input. -/
def treePlansWrong : ChangeSpec := { name := "treePlans", fn := fun _ => fun
  | [d1, d2, d3, d4] => { results := [.lit (.bool false)], args := [d1, d2, d3, d4] }
  | _ => none }
def TreePlansWrongFalsely : Prop := treePlansRow.holds Try.pinned (OpenSpec.ofChange treePlansWrong)

/- THE SECOND FORM. 'bulk': how many values and letters a reading holds, each counted each time it is reached (what is shared counts as often as it is met; a slice's spare places count too). A statement '..UptoSaid' is the law's where the arguments, and the package variables that the reading takes, are together of bulk at most 1048576: NARROWER than '..Said'. Prove '..Said' where nothing that the law and all that it calls make is longer than what came in: it says more and counts as full. Else prove '..UptoSaid'. A law counts once. -/
mutual
def uptoBulk {H : Type} : DataW H → Nat
  | .lit (.string bytes) => bytes.length + 1
  | .lit _ => 1
  | .nil => 1
  | .ptr d => uptoBulk d + 1
  | .slice elems spare => uptoBulkAll elems + uptoBulkAll spare + 1
  | .agg parts => uptoBulkAll parts + 1
  | .iface _ d => uptoBulk d + 1
  | .map entries => uptoBulkEntries entries + 1
  | .held _ => 1
def uptoBulkAll {H : Type} : List (DataW H) → Nat
  | [] => 0
  | d :: r => uptoBulk d + uptoBulkAll r
def uptoBulkEntries {H : Type} : List (Lit × DataW H) → Nat
  | [] => 0
  | x :: r => uptoBulkEntry x + uptoBulkEntries r
def uptoBulkEntry {H : Type} : Lit × DataW H → Nat
  | (.string bytes, d) => bytes.length + uptoBulk d + 1
  | (_, d) => uptoBulk d + 1
 end
def uptoSmall : (H : Type) → List (DataW H) → Bool := fun _ ds => decide (uptoBulkAll ds ≤ 1048576)
def OpenSpec.upto (s : _root_.Go.ChangeSpec) : _root_.Go.OpenSpec := { _root_.Go.OpenSpec.ofChange s with cond := some uptoSmall }

/-- 'shunterlaw13.TreeBad', WHERE WHAT IT READS IS OF BULK AT MOST 1048576: true; the input reads as it did. -/
def treeBadUptoRow : OpenClaim := { program := "ytcgddbbniahimaa", sum := "327da11a6028cb24b1f9625976054c1ec1bbdf04c75ec95d95f1b4c66664bfb6", func := "shunter/shunterlaw13.TreeBad", spec := "treeBad", unfollowed := true, recurses := true, apart := false, narrowed := true }
def TreeBadUptoSaid : Prop := treeBadUptoRow.holds Try.pinned (OpenSpec.upto treeBadSpec)

/-- 'shunterlaw13.TreeKeeps', WHERE WHAT IT READS IS OF BULK AT MOST 1048576: true; the input reads as it did. -/
def treeKeepsUptoRow : OpenClaim := { program := "ytcgddbbniahimaa", sum := "327da11a6028cb24b1f9625976054c1ec1bbdf04c75ec95d95f1b4c66664bfb6", func := "shunter/shunterlaw13.TreeKeeps", spec := "treeKeeps", unfollowed := true, recurses := true, apart := false, narrowed := true }
def TreeKeepsUptoSaid : Prop := treeKeepsUptoRow.holds Try.pinned (OpenSpec.upto treeKeepsSpec)

/-- 'shunterlaw13.TreeParts', WHERE WHAT IT READS IS OF BULK AT MOST 1048576: true; the input reads as it did. -/
def treePartsUptoRow : OpenClaim := { program := "ytcgddbbniahimaa", sum := "327da11a6028cb24b1f9625976054c1ec1bbdf04c75ec95d95f1b4c66664bfb6", func := "shunter/shunterlaw13.TreeParts", spec := "treeParts", unfollowed := true, recurses := true, apart := false, narrowed := true }
def TreePartsUptoSaid : Prop := treePartsUptoRow.holds Try.pinned (OpenSpec.upto treePartsSpec)

/-- 'shunterlaw13.TreePaths', WHERE WHAT IT READS IS OF BULK AT MOST 1048576: true; the input reads as it did. -/
def treePathsUptoRow : OpenClaim := { program := "ytcgddbbniahimaa", sum := "327da11a6028cb24b1f9625976054c1ec1bbdf04c75ec95d95f1b4c66664bfb6", func := "shunter/shunterlaw13.TreePaths", spec := "treePaths", unfollowed := true, recurses := true, apart := false, narrowed := true }
def TreePathsUptoSaid : Prop := treePathsUptoRow.holds Try.pinned (OpenSpec.upto treePathsSpec)

/-- 'shunterlaw13.TreeLays', WHERE WHAT IT READS IS OF BULK AT MOST 1048576: true; the input reads as it did. -/
def treeLaysUptoRow : OpenClaim := { program := "ytcgddbbniahimaa", sum := "327da11a6028cb24b1f9625976054c1ec1bbdf04c75ec95d95f1b4c66664bfb6", func := "shunter/shunterlaw13.TreeLays", spec := "treeLays", unfollowed := true, recurses := true, apart := false, narrowed := true }
def TreeLaysUptoSaid : Prop := treeLaysUptoRow.holds Try.pinned (OpenSpec.upto treeLaysSpec)

/-- 'shunterlaw13.TreeWays', WHERE WHAT IT READS IS OF BULK AT MOST 1048576: true; the input reads as it did. -/
def treeWaysUptoRow : OpenClaim := { program := "ytcgddbbniahimaa", sum := "327da11a6028cb24b1f9625976054c1ec1bbdf04c75ec95d95f1b4c66664bfb6", func := "shunter/shunterlaw13.TreeWays", spec := "treeWays", unfollowed := true, recurses := true, apart := false, narrowed := true }
def TreeWaysUptoSaid : Prop := treeWaysUptoRow.holds Try.pinned (OpenSpec.upto treeWaysSpec)

/-- 'shunterlaw13.TreeStar', WHERE WHAT IT READS IS OF BULK AT MOST 1048576: true; the input reads as it did. -/
def treeStarUptoRow : OpenClaim := { program := "ytcgddbbniahimaa", sum := "327da11a6028cb24b1f9625976054c1ec1bbdf04c75ec95d95f1b4c66664bfb6", func := "shunter/shunterlaw13.TreeStar", spec := "treeStar", unfollowed := true, recurses := true, apart := false, narrowed := true }
def TreeStarUptoSaid : Prop := treeStarUptoRow.holds Try.pinned (OpenSpec.upto treeStarSpec)

/-- 'shunterlaw13.TreePlans', WHERE WHAT IT READS IS OF BULK AT MOST 1048576: true; the input reads as it did. -/
def treePlansUptoRow : OpenClaim := { program := "ytcgddbbniahimaa", sum := "327da11a6028cb24b1f9625976054c1ec1bbdf04c75ec95d95f1b4c66664bfb6", func := "shunter/shunterlaw13.TreePlans", spec := "treePlans", unfollowed := true, recurses := true, apart := false, narrowed := true }
def TreePlansUptoSaid : Prop := treePlansUptoRow.holds Try.pinned (OpenSpec.upto treePlansSpec)

end Rows
end Go.Proofs.Ytcgddbbniahimaa
