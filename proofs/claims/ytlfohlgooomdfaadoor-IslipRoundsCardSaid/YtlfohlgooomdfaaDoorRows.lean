/-
  NARROWER THAN 'FOR EVERY INPUT', by the rows' own cells (each row's printed sentence says how): IslipNew: laid · IslipOne: laid · IslipNone: laid · IslipRuns: laid · IslipMatches: laid · IslipWhole: laid · IslipTurns: laid · IslipRounds: laid.
  DERIVED. THE GIVEN ROWS OF THIS SEAT. 8 by the template 'for every input the law returns true; each argument reads behind the call as it read before'; 0 by the template 'total and deterministic' (their statements: YtlfohlgooomdfaaDoorTotals.lean).
  GIVEN WITH THE SEED: the statements are not yours to turn. If you find one false, say at which input.
  Laid BY PROGRAM, IN A SANDBOX (cutbox-rows.mjs): the forced cells as the released guide's own fill.sh prints them over the translation 8a6e629ccb146f6f… (all of the seat's roots in one cut). By AI agents, Wed Nov 11 2026. No macro, syntax, notation, axiom, sorry.
-/
import Derived.Test.YtlfohlgooomdfaaDoorChecked
import GoSem.Claim
import GoSem.ClaimJoined
import GoSem.ClaimMapViews
import Derived.JoinedTies
import Derived.KernelRfl
namespace Go.Proofs.YtlfohlgooomdfaaDoor
/- THE CELL 'sum', in the pinned program and in every row, IS THE sha256 OF THE DUMP (.gsa) THAT YtlfohlgooomdfaaDoorProg.lean LOADS. Nothing in Lean hashes anything: it is a label: what it is worth is what the hold of that sum in a sandbox is worth. -/
noncomputable def Tryd.pinned : Pinned := { name := "ytlfohlgooomdfaadoor", sum := "8a6e629ccb146f6fd8d531a5e4dd82f3437ce49f2198135b6d4f09981406b347", checked := Tryd.checked }
namespace Rows
def none {H : Type} : Left H := { results := [], args := [] }

/- WHAT THE LISTED PACKAGE-LEVEL VARIABLES READ AS WHEN THE CALL BEGINS. Each datum BY PROGRAM (the guide's laid-datum.mjs) off the statement by which the dump's own 'gosem.cut.vars' lays the variable. In a bare row this is a premise. The card (YtlfohlgooomdfaaDoorCards.lean) ties it to the program's text. -/
def laid_math_bits_deBruijn32tab {H : Type} : DataW H := .agg [.lit (.int .u8 0), .lit (.int .u8 1), .lit (.int .u8 28), .lit (.int .u8 2), .lit (.int .u8 29), .lit (.int .u8 14), .lit (.int .u8 24), .lit (.int .u8 3), .lit (.int .u8 30), .lit (.int .u8 22), .lit (.int .u8 20), .lit (.int .u8 15), .lit (.int .u8 25), .lit (.int .u8 17), .lit (.int .u8 4), .lit (.int .u8 8), .lit (.int .u8 31), .lit (.int .u8 27), .lit (.int .u8 13), .lit (.int .u8 23), .lit (.int .u8 21), .lit (.int .u8 19), .lit (.int .u8 16), .lit (.int .u8 7), .lit (.int .u8 26), .lit (.int .u8 12), .lit (.int .u8 18), .lit (.int .u8 6), .lit (.int .u8 11), .lit (.int .u8 5), .lit (.int .u8 10), .lit (.int .u8 9)]

/-- 'shunterlaw10.IslipNew': WHATEVER THE INPUT: true; the input reads as it did. -/
def islipNewSpec : ChangeSpec := { name := "islipNew", fn := fun _ => fun
  | [d] => { results := [.lit (.bool true)], args := [d] }
  | _ => none }
def islipNewRow : OpenClaim := { program := "ytlfohlgooomdfaadoor", sum := "8a6e629ccb146f6fd8d531a5e4dd82f3437ce49f2198135b6d4f09981406b347", func := "shunter/shunterlaw10.IslipNew", spec := "islipNew", unfollowed := true, recurses := true, named := ["math/bits.deBruijn32tab"], apart := false, laid := [("math/bits.deBruijn32tab", laid_math_bits_deBruijn32tab)] }
def IslipNewSaid : Prop := islipNewRow.holds Tryd.pinned (OpenSpec.ofChange islipNewSpec)

/-- ITS FALSE NEIGHBOUR: 'it returns false'. Refute it at one input. -/
def islipNewWrong : ChangeSpec := { name := "islipNew", fn := fun _ => fun
  | [d] => { results := [.lit (.bool false)], args := [d] }
  | _ => none }
def IslipNewWrongFalsely : Prop := islipNewRow.holds Tryd.pinned (OpenSpec.ofChange islipNewWrong)

/-- 'shunterlaw10.IslipOne': WHATEVER THE INPUT: true; the input reads as it did. -/
def islipOneSpec : ChangeSpec := { name := "islipOne", fn := fun _ => fun
  | [d1, d2, d3] => { results := [.lit (.bool true)], args := [d1, d2, d3] }
  | _ => none }
def islipOneRow : OpenClaim := { program := "ytlfohlgooomdfaadoor", sum := "8a6e629ccb146f6fd8d531a5e4dd82f3437ce49f2198135b6d4f09981406b347", func := "shunter/shunterlaw10.IslipOne", spec := "islipOne", unfollowed := true, recurses := true, named := ["math/bits.deBruijn32tab"], apart := false, laid := [("math/bits.deBruijn32tab", laid_math_bits_deBruijn32tab)] }
def IslipOneSaid : Prop := islipOneRow.holds Tryd.pinned (OpenSpec.ofChange islipOneSpec)

/-- ITS FALSE NEIGHBOUR: 'it returns false'. Refute it at one input. -/
def islipOneWrong : ChangeSpec := { name := "islipOne", fn := fun _ => fun
  | [d1, d2, d3] => { results := [.lit (.bool false)], args := [d1, d2, d3] }
  | _ => none }
def IslipOneWrongFalsely : Prop := islipOneRow.holds Tryd.pinned (OpenSpec.ofChange islipOneWrong)

/-- 'shunterlaw10.IslipNone': WHATEVER THE INPUT: true; the input reads as it did. -/
def islipNoneSpec : ChangeSpec := { name := "islipNone", fn := fun _ => fun
  | [d1, d2] => { results := [.lit (.bool true)], args := [d1, d2] }
  | _ => none }
def islipNoneRow : OpenClaim := { program := "ytlfohlgooomdfaadoor", sum := "8a6e629ccb146f6fd8d531a5e4dd82f3437ce49f2198135b6d4f09981406b347", func := "shunter/shunterlaw10.IslipNone", spec := "islipNone", unfollowed := true, recurses := true, named := ["math/bits.deBruijn32tab"], apart := false, laid := [("math/bits.deBruijn32tab", laid_math_bits_deBruijn32tab)] }
def IslipNoneSaid : Prop := islipNoneRow.holds Tryd.pinned (OpenSpec.ofChange islipNoneSpec)

/-- ITS FALSE NEIGHBOUR: 'it returns false'. Refute it at one input. -/
def islipNoneWrong : ChangeSpec := { name := "islipNone", fn := fun _ => fun
  | [d1, d2] => { results := [.lit (.bool false)], args := [d1, d2] }
  | _ => none }
def IslipNoneWrongFalsely : Prop := islipNoneRow.holds Tryd.pinned (OpenSpec.ofChange islipNoneWrong)

/-- 'shunterlaw10.IslipRuns': WHATEVER THE INPUT: true; the input reads as it did. -/
def islipRunsSpec : ChangeSpec := { name := "islipRuns", fn := fun _ => fun
  | [d1, d2, d3, d4] => { results := [.lit (.bool true)], args := [d1, d2, d3, d4] }
  | _ => none }
def islipRunsRow : OpenClaim := { program := "ytlfohlgooomdfaadoor", sum := "8a6e629ccb146f6fd8d531a5e4dd82f3437ce49f2198135b6d4f09981406b347", func := "shunter/shunterlaw10.IslipRuns", spec := "islipRuns", unfollowed := true, recurses := true, named := ["math/bits.deBruijn32tab"], apart := false, laid := [("math/bits.deBruijn32tab", laid_math_bits_deBruijn32tab)] }
def IslipRunsSaid : Prop := islipRunsRow.holds Tryd.pinned (OpenSpec.ofChange islipRunsSpec)

/-- ITS FALSE NEIGHBOUR: 'it returns false'. Refute it at one input. -/
def islipRunsWrong : ChangeSpec := { name := "islipRuns", fn := fun _ => fun
  | [d1, d2, d3, d4] => { results := [.lit (.bool false)], args := [d1, d2, d3, d4] }
  | _ => none }
def IslipRunsWrongFalsely : Prop := islipRunsRow.holds Tryd.pinned (OpenSpec.ofChange islipRunsWrong)

/-- 'shunterlaw10.IslipMatches': WHATEVER THE INPUT: true; the input reads as it did. -/
def islipMatchesSpec : ChangeSpec := { name := "islipMatches", fn := fun _ => fun
  | [d1, d2, d3] => { results := [.lit (.bool true)], args := [d1, d2, d3] }
  | _ => none }
def islipMatchesRow : OpenClaim := { program := "ytlfohlgooomdfaadoor", sum := "8a6e629ccb146f6fd8d531a5e4dd82f3437ce49f2198135b6d4f09981406b347", func := "shunter/shunterlaw10.IslipMatches", spec := "islipMatches", unfollowed := true, recurses := true, named := ["math/bits.deBruijn32tab"], apart := false, laid := [("math/bits.deBruijn32tab", laid_math_bits_deBruijn32tab)] }
def IslipMatchesSaid : Prop := islipMatchesRow.holds Tryd.pinned (OpenSpec.ofChange islipMatchesSpec)

/-- ITS FALSE NEIGHBOUR: 'it returns false'. Refute it at one input. -/
def islipMatchesWrong : ChangeSpec := { name := "islipMatches", fn := fun _ => fun
  | [d1, d2, d3] => { results := [.lit (.bool false)], args := [d1, d2, d3] }
  | _ => none }
def IslipMatchesWrongFalsely : Prop := islipMatchesRow.holds Tryd.pinned (OpenSpec.ofChange islipMatchesWrong)

/-- 'shunterlaw10.IslipWhole': WHATEVER THE INPUT: true; the input reads as it did. -/
def islipWholeSpec : ChangeSpec := { name := "islipWhole", fn := fun _ => fun
  | [d1, d2] => { results := [.lit (.bool true)], args := [d1, d2] }
  | _ => none }
def islipWholeRow : OpenClaim := { program := "ytlfohlgooomdfaadoor", sum := "8a6e629ccb146f6fd8d531a5e4dd82f3437ce49f2198135b6d4f09981406b347", func := "shunter/shunterlaw10.IslipWhole", spec := "islipWhole", unfollowed := true, recurses := true, named := ["math/bits.deBruijn32tab"], apart := false, laid := [("math/bits.deBruijn32tab", laid_math_bits_deBruijn32tab)] }
def IslipWholeSaid : Prop := islipWholeRow.holds Tryd.pinned (OpenSpec.ofChange islipWholeSpec)

/-- ITS FALSE NEIGHBOUR: 'it returns false'. Refute it at one input. -/
def islipWholeWrong : ChangeSpec := { name := "islipWhole", fn := fun _ => fun
  | [d1, d2] => { results := [.lit (.bool false)], args := [d1, d2] }
  | _ => none }
def IslipWholeWrongFalsely : Prop := islipWholeRow.holds Tryd.pinned (OpenSpec.ofChange islipWholeWrong)

/-- 'shunterlaw10.IslipTurns': WHATEVER THE INPUT: true; the input reads as it did. -/
def islipTurnsSpec : ChangeSpec := { name := "islipTurns", fn := fun _ => fun
  | [d] => { results := [.lit (.bool true)], args := [d] }
  | _ => none }
def islipTurnsRow : OpenClaim := { program := "ytlfohlgooomdfaadoor", sum := "8a6e629ccb146f6fd8d531a5e4dd82f3437ce49f2198135b6d4f09981406b347", func := "shunter/shunterlaw10.IslipTurns", spec := "islipTurns", unfollowed := true, recurses := true, named := ["math/bits.deBruijn32tab"], apart := false, laid := [("math/bits.deBruijn32tab", laid_math_bits_deBruijn32tab)] }
def IslipTurnsSaid : Prop := islipTurnsRow.holds Tryd.pinned (OpenSpec.ofChange islipTurnsSpec)

/-- ITS FALSE NEIGHBOUR: 'it returns false'. Refute it at one input. -/
def islipTurnsWrong : ChangeSpec := { name := "islipTurns", fn := fun _ => fun
  | [d] => { results := [.lit (.bool false)], args := [d] }
  | _ => none }
def IslipTurnsWrongFalsely : Prop := islipTurnsRow.holds Tryd.pinned (OpenSpec.ofChange islipTurnsWrong)

/-- 'shunterlaw10.IslipRounds': WHATEVER THE INPUT: true; the input reads as it did. -/
def islipRoundsSpec : ChangeSpec := { name := "islipRounds", fn := fun _ => fun
  | [d1, d2, d3, d4] => { results := [.lit (.bool true)], args := [d1, d2, d3, d4] }
  | _ => none }
def islipRoundsRow : OpenClaim := { program := "ytlfohlgooomdfaadoor", sum := "8a6e629ccb146f6fd8d531a5e4dd82f3437ce49f2198135b6d4f09981406b347", func := "shunter/shunterlaw10.IslipRounds", spec := "islipRounds", unfollowed := true, recurses := true, named := ["math/bits.deBruijn32tab"], apart := false, laid := [("math/bits.deBruijn32tab", laid_math_bits_deBruijn32tab)] }
def IslipRoundsSaid : Prop := islipRoundsRow.holds Tryd.pinned (OpenSpec.ofChange islipRoundsSpec)

/-- ITS FALSE NEIGHBOUR: 'it returns false'. Refute it at one input. -/
def islipRoundsWrong : ChangeSpec := { name := "islipRounds", fn := fun _ => fun
  | [d1, d2, d3, d4] => { results := [.lit (.bool false)], args := [d1, d2, d3, d4] }
  | _ => none }
def IslipRoundsWrongFalsely : Prop := islipRoundsRow.holds Tryd.pinned (OpenSpec.ofChange islipRoundsWrong)

/- THE SECOND FORM. 'bulk': how many values and letters a reading holds, each counted each time it is reached (what is shared counts as often as it is met; a slice's spare places count too). A statement '..UptoSaid' is the law's where the arguments, and the package variables that the reading takes, are together of bulk at most 1048576: NARROWER than '..Said'. Prove '..Said' where nothing that the law and all that it calls make is longer than what came in: it says more and counts as full. Else prove '..UptoSaid'. A law counts once. -/
mutual
def uptoBulk {H : Type} : DataW H → Nat
  | .lit (.string bytes) => bytes.length + 1
  | .lit _ => 1
  | .nil => 1
  | .ptr d => uptoBulk d + 1
  | .slice elems spare => uptoBulkAll elems + uptoBulkAll spare + 1
  | .agg parts => uptoBulkAll parts + 1
  | .iface _ d => uptoBulk d + 1
  | .map entries => uptoBulkEntries entries + 1
  | .held _ => 1
def uptoBulkAll {H : Type} : List (DataW H) → Nat
  | [] => 0
  | d :: r => uptoBulk d + uptoBulkAll r
def uptoBulkEntries {H : Type} : List (Lit × DataW H) → Nat
  | [] => 0
  | x :: r => uptoBulkEntry x + uptoBulkEntries r
def uptoBulkEntry {H : Type} : Lit × DataW H → Nat
  | (.string bytes, d) => bytes.length + uptoBulk d + 1
  | (_, d) => uptoBulk d + 1
 end
def uptoSmall : (H : Type) → List (DataW H) → Bool := fun _ ds => decide (uptoBulkAll ds ≤ 1048576)
def OpenSpec.upto (s : _root_.Go.ChangeSpec) : _root_.Go.OpenSpec := { _root_.Go.OpenSpec.ofChange s with cond := some uptoSmall }

/-- 'shunterlaw10.IslipNew', WHERE WHAT IT READS IS OF BULK AT MOST 1048576: true; the input reads as it did. -/
def islipNewUptoRow : OpenClaim := { program := "ytlfohlgooomdfaadoor", sum := "8a6e629ccb146f6fd8d531a5e4dd82f3437ce49f2198135b6d4f09981406b347", func := "shunter/shunterlaw10.IslipNew", spec := "islipNew", unfollowed := true, recurses := true, named := ["math/bits.deBruijn32tab"], apart := false, laid := [("math/bits.deBruijn32tab", laid_math_bits_deBruijn32tab)], narrowed := true }
def IslipNewUptoSaid : Prop := islipNewUptoRow.holds Tryd.pinned (OpenSpec.upto islipNewSpec)

/-- 'shunterlaw10.IslipOne', WHERE WHAT IT READS IS OF BULK AT MOST 1048576: true; the input reads as it did. -/
def islipOneUptoRow : OpenClaim := { program := "ytlfohlgooomdfaadoor", sum := "8a6e629ccb146f6fd8d531a5e4dd82f3437ce49f2198135b6d4f09981406b347", func := "shunter/shunterlaw10.IslipOne", spec := "islipOne", unfollowed := true, recurses := true, named := ["math/bits.deBruijn32tab"], apart := false, laid := [("math/bits.deBruijn32tab", laid_math_bits_deBruijn32tab)], narrowed := true }
def IslipOneUptoSaid : Prop := islipOneUptoRow.holds Tryd.pinned (OpenSpec.upto islipOneSpec)

/-- 'shunterlaw10.IslipNone', WHERE WHAT IT READS IS OF BULK AT MOST 1048576: true; the input reads as it did. -/
def islipNoneUptoRow : OpenClaim := { program := "ytlfohlgooomdfaadoor", sum := "8a6e629ccb146f6fd8d531a5e4dd82f3437ce49f2198135b6d4f09981406b347", func := "shunter/shunterlaw10.IslipNone", spec := "islipNone", unfollowed := true, recurses := true, named := ["math/bits.deBruijn32tab"], apart := false, laid := [("math/bits.deBruijn32tab", laid_math_bits_deBruijn32tab)], narrowed := true }
def IslipNoneUptoSaid : Prop := islipNoneUptoRow.holds Tryd.pinned (OpenSpec.upto islipNoneSpec)

/-- 'shunterlaw10.IslipRuns', WHERE WHAT IT READS IS OF BULK AT MOST 1048576: true; the input reads as it did. -/
def islipRunsUptoRow : OpenClaim := { program := "ytlfohlgooomdfaadoor", sum := "8a6e629ccb146f6fd8d531a5e4dd82f3437ce49f2198135b6d4f09981406b347", func := "shunter/shunterlaw10.IslipRuns", spec := "islipRuns", unfollowed := true, recurses := true, named := ["math/bits.deBruijn32tab"], apart := false, laid := [("math/bits.deBruijn32tab", laid_math_bits_deBruijn32tab)], narrowed := true }
def IslipRunsUptoSaid : Prop := islipRunsUptoRow.holds Tryd.pinned (OpenSpec.upto islipRunsSpec)

/-- 'shunterlaw10.IslipMatches', WHERE WHAT IT READS IS OF BULK AT MOST 1048576: true; the input reads as it did. -/
def islipMatchesUptoRow : OpenClaim := { program := "ytlfohlgooomdfaadoor", sum := "8a6e629ccb146f6fd8d531a5e4dd82f3437ce49f2198135b6d4f09981406b347", func := "shunter/shunterlaw10.IslipMatches", spec := "islipMatches", unfollowed := true, recurses := true, named := ["math/bits.deBruijn32tab"], apart := false, laid := [("math/bits.deBruijn32tab", laid_math_bits_deBruijn32tab)], narrowed := true }
def IslipMatchesUptoSaid : Prop := islipMatchesUptoRow.holds Tryd.pinned (OpenSpec.upto islipMatchesSpec)

/-- 'shunterlaw10.IslipWhole', WHERE WHAT IT READS IS OF BULK AT MOST 1048576: true; the input reads as it did. -/
def islipWholeUptoRow : OpenClaim := { program := "ytlfohlgooomdfaadoor", sum := "8a6e629ccb146f6fd8d531a5e4dd82f3437ce49f2198135b6d4f09981406b347", func := "shunter/shunterlaw10.IslipWhole", spec := "islipWhole", unfollowed := true, recurses := true, named := ["math/bits.deBruijn32tab"], apart := false, laid := [("math/bits.deBruijn32tab", laid_math_bits_deBruijn32tab)], narrowed := true }
def IslipWholeUptoSaid : Prop := islipWholeUptoRow.holds Tryd.pinned (OpenSpec.upto islipWholeSpec)

/-- 'shunterlaw10.IslipTurns', WHERE WHAT IT READS IS OF BULK AT MOST 1048576: true; the input reads as it did. -/
def islipTurnsUptoRow : OpenClaim := { program := "ytlfohlgooomdfaadoor", sum := "8a6e629ccb146f6fd8d531a5e4dd82f3437ce49f2198135b6d4f09981406b347", func := "shunter/shunterlaw10.IslipTurns", spec := "islipTurns", unfollowed := true, recurses := true, named := ["math/bits.deBruijn32tab"], apart := false, laid := [("math/bits.deBruijn32tab", laid_math_bits_deBruijn32tab)], narrowed := true }
def IslipTurnsUptoSaid : Prop := islipTurnsUptoRow.holds Tryd.pinned (OpenSpec.upto islipTurnsSpec)

/-- 'shunterlaw10.IslipRounds', WHERE WHAT IT READS IS OF BULK AT MOST 1048576: true; the input reads as it did. -/
def islipRoundsUptoRow : OpenClaim := { program := "ytlfohlgooomdfaadoor", sum := "8a6e629ccb146f6fd8d531a5e4dd82f3437ce49f2198135b6d4f09981406b347", func := "shunter/shunterlaw10.IslipRounds", spec := "islipRounds", unfollowed := true, recurses := true, named := ["math/bits.deBruijn32tab"], apart := false, laid := [("math/bits.deBruijn32tab", laid_math_bits_deBruijn32tab)], narrowed := true }
def IslipRoundsUptoSaid : Prop := islipRoundsUptoRow.holds Tryd.pinned (OpenSpec.upto islipRoundsSpec)

end Rows
end Go.Proofs.YtlfohlgooomdfaaDoor
