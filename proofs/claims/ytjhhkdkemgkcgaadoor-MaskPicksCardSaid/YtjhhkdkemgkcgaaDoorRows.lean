/-
  NARROWER THAN 'FOR EVERY INPUT', by the rows' own cells (each row's printed sentence says how): MaskBounds: laid · MaskTurned: laid · MaskTells: laid · MaskPicks: laid · MaskTurns: laid · MaskTwice: laid · MaskFirst: laid · MaskBits: laid.
  DERIVED. THE GIVEN ROWS OF THIS SEAT. 8 by the template 'for every input the law returns true; each argument reads behind the call as it read before'; 0 by the template 'total and deterministic' (their statements: YtjhhkdkemgkcgaaDoorTotals.lean).
  GIVEN WITH THE SEED: the statements are not yours to turn. If you find one false, say at which input.
  Laid BY PROGRAM, IN A SANDBOX (cutbox-rows.mjs): the forced cells as the released guide's own fill.sh prints them over the translation b9bf3e92e40ba43a… (all of the seat's roots in one cut). By AI agents, Wed Nov 11 2026. No macro, syntax, notation, axiom, sorry.
-/
import Derived.Test.YtjhhkdkemgkcgaaDoorChecked
import GoSem.Claim
import GoSem.ClaimJoined
import GoSem.ClaimMapViews
import Derived.JoinedTies
import Derived.KernelRfl
namespace Go.Proofs.YtjhhkdkemgkcgaaDoor
/- THE CELL 'sum', in the pinned program and in every row, IS THE sha256 OF THE DUMP (.gsa) THAT YtjhhkdkemgkcgaaDoorProg.lean LOADS. Nothing in Lean hashes anything: it is a label: what it is worth is what the hold of that sum in a sandbox is worth. -/
noncomputable def Tryd.pinned : Pinned := { name := "ytjhhkdkemgkcgaadoor", sum := "b9bf3e92e40ba43af52294335fb84797808202ee2a425d4bf2ffdb5d8e4ed8ba", checked := Tryd.checked }
namespace Rows
def none {H : Type} : Left H := { results := [], args := [] }

/- WHAT THE LISTED PACKAGE-LEVEL VARIABLES READ AS WHEN THE CALL BEGINS. Each datum BY PROGRAM (the guide's laid-datum.mjs) off the statement by which the dump's own 'gosem.cut.vars' lays the variable. In a bare row this is a premise. The card (YtjhhkdkemgkcgaaDoorCards.lean) ties it to the program's text. -/
def laid_math_bits_deBruijn32tab {H : Type} : DataW H := .agg [.lit (.int .u8 0), .lit (.int .u8 1), .lit (.int .u8 28), .lit (.int .u8 2), .lit (.int .u8 29), .lit (.int .u8 14), .lit (.int .u8 24), .lit (.int .u8 3), .lit (.int .u8 30), .lit (.int .u8 22), .lit (.int .u8 20), .lit (.int .u8 15), .lit (.int .u8 25), .lit (.int .u8 17), .lit (.int .u8 4), .lit (.int .u8 8), .lit (.int .u8 31), .lit (.int .u8 27), .lit (.int .u8 13), .lit (.int .u8 23), .lit (.int .u8 21), .lit (.int .u8 19), .lit (.int .u8 16), .lit (.int .u8 7), .lit (.int .u8 26), .lit (.int .u8 12), .lit (.int .u8 18), .lit (.int .u8 6), .lit (.int .u8 11), .lit (.int .u8 5), .lit (.int .u8 10), .lit (.int .u8 9)]

/-- 'shunterlaw09.MaskBounds': WHATEVER THE INPUT: true; the input reads as it did. -/
def maskBoundsSpec : ChangeSpec := { name := "maskBounds", fn := fun _ => fun
  | [d1, d2] => { results := [.lit (.bool true)], args := [d1, d2] }
  | _ => none }
def maskBoundsRow : OpenClaim := { program := "ytjhhkdkemgkcgaadoor", sum := "b9bf3e92e40ba43af52294335fb84797808202ee2a425d4bf2ffdb5d8e4ed8ba", func := "shunter/shunterlaw09.MaskBounds", spec := "maskBounds", unfollowed := true, recurses := true, named := ["math/bits.deBruijn32tab"], apart := false, laid := [("math/bits.deBruijn32tab", laid_math_bits_deBruijn32tab)] }
def MaskBoundsSaid : Prop := maskBoundsRow.holds Tryd.pinned (OpenSpec.ofChange maskBoundsSpec)

/-- ITS FALSE NEIGHBOUR: 'it returns false'. Refute it at one input. -/
def maskBoundsWrong : ChangeSpec := { name := "maskBounds", fn := fun _ => fun
  | [d1, d2] => { results := [.lit (.bool false)], args := [d1, d2] }
  | _ => none }
def MaskBoundsWrongFalsely : Prop := maskBoundsRow.holds Tryd.pinned (OpenSpec.ofChange maskBoundsWrong)

/-- 'shunterlaw09.MaskTurned': WHATEVER THE INPUT: true; the input reads as it did. -/
def maskTurnedSpec : ChangeSpec := { name := "maskTurned", fn := fun _ => fun
  | [d1, d2] => { results := [.lit (.bool true)], args := [d1, d2] }
  | _ => none }
def maskTurnedRow : OpenClaim := { program := "ytjhhkdkemgkcgaadoor", sum := "b9bf3e92e40ba43af52294335fb84797808202ee2a425d4bf2ffdb5d8e4ed8ba", func := "shunter/shunterlaw09.MaskTurned", spec := "maskTurned", unfollowed := true, recurses := true, named := ["math/bits.deBruijn32tab"], apart := false, laid := [("math/bits.deBruijn32tab", laid_math_bits_deBruijn32tab)] }
def MaskTurnedSaid : Prop := maskTurnedRow.holds Tryd.pinned (OpenSpec.ofChange maskTurnedSpec)

/-- ITS FALSE NEIGHBOUR: 'it returns false'. Refute it at one input. -/
def maskTurnedWrong : ChangeSpec := { name := "maskTurned", fn := fun _ => fun
  | [d1, d2] => { results := [.lit (.bool false)], args := [d1, d2] }
  | _ => none }
def MaskTurnedWrongFalsely : Prop := maskTurnedRow.holds Tryd.pinned (OpenSpec.ofChange maskTurnedWrong)

/-- 'shunterlaw09.MaskTells': WHATEVER THE INPUT: true; the input reads as it did. -/
def maskTellsSpec : ChangeSpec := { name := "maskTells", fn := fun _ => fun
  | [d1, d2] => { results := [.lit (.bool true)], args := [d1, d2] }
  | _ => none }
def maskTellsRow : OpenClaim := { program := "ytjhhkdkemgkcgaadoor", sum := "b9bf3e92e40ba43af52294335fb84797808202ee2a425d4bf2ffdb5d8e4ed8ba", func := "shunter/shunterlaw09.MaskTells", spec := "maskTells", unfollowed := true, recurses := true, named := ["math/bits.deBruijn32tab"], apart := false, laid := [("math/bits.deBruijn32tab", laid_math_bits_deBruijn32tab)] }
def MaskTellsSaid : Prop := maskTellsRow.holds Tryd.pinned (OpenSpec.ofChange maskTellsSpec)

/-- ITS FALSE NEIGHBOUR: 'it returns false'. Refute it at one input. -/
def maskTellsWrong : ChangeSpec := { name := "maskTells", fn := fun _ => fun
  | [d1, d2] => { results := [.lit (.bool false)], args := [d1, d2] }
  | _ => none }
def MaskTellsWrongFalsely : Prop := maskTellsRow.holds Tryd.pinned (OpenSpec.ofChange maskTellsWrong)

/-- 'shunterlaw09.MaskPicks': WHATEVER THE INPUT: true; the input reads as it did. -/
def maskPicksSpec : ChangeSpec := { name := "maskPicks", fn := fun _ => fun
  | [d1, d2, d3, d4, d5] => { results := [.lit (.bool true)], args := [d1, d2, d3, d4, d5] }
  | _ => none }
def maskPicksRow : OpenClaim := { program := "ytjhhkdkemgkcgaadoor", sum := "b9bf3e92e40ba43af52294335fb84797808202ee2a425d4bf2ffdb5d8e4ed8ba", func := "shunter/shunterlaw09.MaskPicks", spec := "maskPicks", unfollowed := true, recurses := true, named := ["math/bits.deBruijn32tab"], apart := false, laid := [("math/bits.deBruijn32tab", laid_math_bits_deBruijn32tab)] }
def MaskPicksSaid : Prop := maskPicksRow.holds Tryd.pinned (OpenSpec.ofChange maskPicksSpec)

/-- ITS FALSE NEIGHBOUR: 'it returns false'. Refute it at one input. -/
def maskPicksWrong : ChangeSpec := { name := "maskPicks", fn := fun _ => fun
  | [d1, d2, d3, d4, d5] => { results := [.lit (.bool false)], args := [d1, d2, d3, d4, d5] }
  | _ => none }
def MaskPicksWrongFalsely : Prop := maskPicksRow.holds Tryd.pinned (OpenSpec.ofChange maskPicksWrong)

/-- 'shunterlaw09.MaskTurns': WHATEVER THE INPUT: true; the input reads as it did. -/
def maskTurnsSpec : ChangeSpec := { name := "maskTurns", fn := fun _ => fun
  | [d1, d2, d3] => { results := [.lit (.bool true)], args := [d1, d2, d3] }
  | _ => none }
def maskTurnsRow : OpenClaim := { program := "ytjhhkdkemgkcgaadoor", sum := "b9bf3e92e40ba43af52294335fb84797808202ee2a425d4bf2ffdb5d8e4ed8ba", func := "shunter/shunterlaw09.MaskTurns", spec := "maskTurns", unfollowed := true, recurses := true, named := ["math/bits.deBruijn32tab"], apart := false, laid := [("math/bits.deBruijn32tab", laid_math_bits_deBruijn32tab)] }
def MaskTurnsSaid : Prop := maskTurnsRow.holds Tryd.pinned (OpenSpec.ofChange maskTurnsSpec)

/-- ITS FALSE NEIGHBOUR: 'it returns false'. Refute it at one input. -/
def maskTurnsWrong : ChangeSpec := { name := "maskTurns", fn := fun _ => fun
  | [d1, d2, d3] => { results := [.lit (.bool false)], args := [d1, d2, d3] }
  | _ => none }
def MaskTurnsWrongFalsely : Prop := maskTurnsRow.holds Tryd.pinned (OpenSpec.ofChange maskTurnsWrong)

/-- 'shunterlaw09.MaskTwice': WHATEVER THE INPUT: true; the input reads as it did. -/
def maskTwiceSpec : ChangeSpec := { name := "maskTwice", fn := fun _ => fun
  | [d1, d2] => { results := [.lit (.bool true)], args := [d1, d2] }
  | _ => none }
def maskTwiceRow : OpenClaim := { program := "ytjhhkdkemgkcgaadoor", sum := "b9bf3e92e40ba43af52294335fb84797808202ee2a425d4bf2ffdb5d8e4ed8ba", func := "shunter/shunterlaw09.MaskTwice", spec := "maskTwice", unfollowed := true, recurses := true, named := ["math/bits.deBruijn32tab"], apart := false, laid := [("math/bits.deBruijn32tab", laid_math_bits_deBruijn32tab)] }
def MaskTwiceSaid : Prop := maskTwiceRow.holds Tryd.pinned (OpenSpec.ofChange maskTwiceSpec)

/-- ITS FALSE NEIGHBOUR: 'it returns false'. Refute it at one input. -/
def maskTwiceWrong : ChangeSpec := { name := "maskTwice", fn := fun _ => fun
  | [d1, d2] => { results := [.lit (.bool false)], args := [d1, d2] }
  | _ => none }
def MaskTwiceWrongFalsely : Prop := maskTwiceRow.holds Tryd.pinned (OpenSpec.ofChange maskTwiceWrong)

/-- 'shunterlaw09.MaskFirst': WHATEVER THE INPUT: true; the input reads as it did. -/
def maskFirstSpec : ChangeSpec := { name := "maskFirst", fn := fun _ => fun
  | [d1, d2, d3] => { results := [.lit (.bool true)], args := [d1, d2, d3] }
  | _ => none }
def maskFirstRow : OpenClaim := { program := "ytjhhkdkemgkcgaadoor", sum := "b9bf3e92e40ba43af52294335fb84797808202ee2a425d4bf2ffdb5d8e4ed8ba", func := "shunter/shunterlaw09.MaskFirst", spec := "maskFirst", unfollowed := true, recurses := true, named := ["math/bits.deBruijn32tab"], apart := false, laid := [("math/bits.deBruijn32tab", laid_math_bits_deBruijn32tab)] }
def MaskFirstSaid : Prop := maskFirstRow.holds Tryd.pinned (OpenSpec.ofChange maskFirstSpec)

/-- ITS FALSE NEIGHBOUR: 'it returns false'. Refute it at one input. -/
def maskFirstWrong : ChangeSpec := { name := "maskFirst", fn := fun _ => fun
  | [d1, d2, d3] => { results := [.lit (.bool false)], args := [d1, d2, d3] }
  | _ => none }
def MaskFirstWrongFalsely : Prop := maskFirstRow.holds Tryd.pinned (OpenSpec.ofChange maskFirstWrong)

/-- 'shunterlaw09.MaskBits': WHATEVER THE INPUT: true; the input reads as it did. -/
def maskBitsSpec : ChangeSpec := { name := "maskBits", fn := fun _ => fun
  | [d] => { results := [.lit (.bool true)], args := [d] }
  | _ => none }
def maskBitsRow : OpenClaim := { program := "ytjhhkdkemgkcgaadoor", sum := "b9bf3e92e40ba43af52294335fb84797808202ee2a425d4bf2ffdb5d8e4ed8ba", func := "shunter/shunterlaw09.MaskBits", spec := "maskBits", unfollowed := true, recurses := true, named := ["math/bits.deBruijn32tab"], apart := false, laid := [("math/bits.deBruijn32tab", laid_math_bits_deBruijn32tab)] }
def MaskBitsSaid : Prop := maskBitsRow.holds Tryd.pinned (OpenSpec.ofChange maskBitsSpec)

/-- ITS FALSE NEIGHBOUR: 'it returns false'. Refute it at one input. -/
def maskBitsWrong : ChangeSpec := { name := "maskBits", fn := fun _ => fun
  | [d] => { results := [.lit (.bool false)], args := [d] }
  | _ => none }
def MaskBitsWrongFalsely : Prop := maskBitsRow.holds Tryd.pinned (OpenSpec.ofChange maskBitsWrong)

/- THE SECOND FORM. 'bulk': how many values and letters a reading holds, each counted each time it is reached (what is shared counts as often as it is met; a slice's spare places count too). A statement '..UptoSaid' is the law's where the arguments, and the package variables that the reading takes, are together of bulk at most 1048576: NARROWER than '..Said'. Prove '..Said' where nothing that the law and all that it calls make is longer than what came in: it says more and counts as full. Else prove '..UptoSaid'. A law counts once. -/
mutual
def uptoBulk {H : Type} : DataW H → Nat
  | .lit (.string bytes) => bytes.length + 1
  | .lit _ => 1
  | .nil => 1
  | .ptr d => uptoBulk d + 1
  | .slice elems spare => uptoBulkAll elems + uptoBulkAll spare + 1
  | .agg parts => uptoBulkAll parts + 1
  | .iface _ d => uptoBulk d + 1
  | .map entries => uptoBulkEntries entries + 1
  | .held _ => 1
def uptoBulkAll {H : Type} : List (DataW H) → Nat
  | [] => 0
  | d :: r => uptoBulk d + uptoBulkAll r
def uptoBulkEntries {H : Type} : List (Lit × DataW H) → Nat
  | [] => 0
  | x :: r => uptoBulkEntry x + uptoBulkEntries r
def uptoBulkEntry {H : Type} : Lit × DataW H → Nat
  | (.string bytes, d) => bytes.length + uptoBulk d + 1
  | (_, d) => uptoBulk d + 1
 end
def uptoSmall : (H : Type) → List (DataW H) → Bool := fun _ ds => decide (uptoBulkAll ds ≤ 1048576)
def OpenSpec.upto (s : _root_.Go.ChangeSpec) : _root_.Go.OpenSpec := { _root_.Go.OpenSpec.ofChange s with cond := some uptoSmall }

/-- 'shunterlaw09.MaskBounds', WHERE WHAT IT READS IS OF BULK AT MOST 1048576: true; the input reads as it did. -/
def maskBoundsUptoRow : OpenClaim := { program := "ytjhhkdkemgkcgaadoor", sum := "b9bf3e92e40ba43af52294335fb84797808202ee2a425d4bf2ffdb5d8e4ed8ba", func := "shunter/shunterlaw09.MaskBounds", spec := "maskBounds", unfollowed := true, recurses := true, named := ["math/bits.deBruijn32tab"], apart := false, laid := [("math/bits.deBruijn32tab", laid_math_bits_deBruijn32tab)], narrowed := true }
def MaskBoundsUptoSaid : Prop := maskBoundsUptoRow.holds Tryd.pinned (OpenSpec.upto maskBoundsSpec)

/-- 'shunterlaw09.MaskTurned', WHERE WHAT IT READS IS OF BULK AT MOST 1048576: true; the input reads as it did. -/
def maskTurnedUptoRow : OpenClaim := { program := "ytjhhkdkemgkcgaadoor", sum := "b9bf3e92e40ba43af52294335fb84797808202ee2a425d4bf2ffdb5d8e4ed8ba", func := "shunter/shunterlaw09.MaskTurned", spec := "maskTurned", unfollowed := true, recurses := true, named := ["math/bits.deBruijn32tab"], apart := false, laid := [("math/bits.deBruijn32tab", laid_math_bits_deBruijn32tab)], narrowed := true }
def MaskTurnedUptoSaid : Prop := maskTurnedUptoRow.holds Tryd.pinned (OpenSpec.upto maskTurnedSpec)

/-- 'shunterlaw09.MaskTells', WHERE WHAT IT READS IS OF BULK AT MOST 1048576: true; the input reads as it did. -/
def maskTellsUptoRow : OpenClaim := { program := "ytjhhkdkemgkcgaadoor", sum := "b9bf3e92e40ba43af52294335fb84797808202ee2a425d4bf2ffdb5d8e4ed8ba", func := "shunter/shunterlaw09.MaskTells", spec := "maskTells", unfollowed := true, recurses := true, named := ["math/bits.deBruijn32tab"], apart := false, laid := [("math/bits.deBruijn32tab", laid_math_bits_deBruijn32tab)], narrowed := true }
def MaskTellsUptoSaid : Prop := maskTellsUptoRow.holds Tryd.pinned (OpenSpec.upto maskTellsSpec)

/-- 'shunterlaw09.MaskPicks', WHERE WHAT IT READS IS OF BULK AT MOST 1048576: true; the input reads as it did. -/
def maskPicksUptoRow : OpenClaim := { program := "ytjhhkdkemgkcgaadoor", sum := "b9bf3e92e40ba43af52294335fb84797808202ee2a425d4bf2ffdb5d8e4ed8ba", func := "shunter/shunterlaw09.MaskPicks", spec := "maskPicks", unfollowed := true, recurses := true, named := ["math/bits.deBruijn32tab"], apart := false, laid := [("math/bits.deBruijn32tab", laid_math_bits_deBruijn32tab)], narrowed := true }
def MaskPicksUptoSaid : Prop := maskPicksUptoRow.holds Tryd.pinned (OpenSpec.upto maskPicksSpec)

/-- 'shunterlaw09.MaskTurns', WHERE WHAT IT READS IS OF BULK AT MOST 1048576: true; the input reads as it did. -/
def maskTurnsUptoRow : OpenClaim := { program := "ytjhhkdkemgkcgaadoor", sum := "b9bf3e92e40ba43af52294335fb84797808202ee2a425d4bf2ffdb5d8e4ed8ba", func := "shunter/shunterlaw09.MaskTurns", spec := "maskTurns", unfollowed := true, recurses := true, named := ["math/bits.deBruijn32tab"], apart := false, laid := [("math/bits.deBruijn32tab", laid_math_bits_deBruijn32tab)], narrowed := true }
def MaskTurnsUptoSaid : Prop := maskTurnsUptoRow.holds Tryd.pinned (OpenSpec.upto maskTurnsSpec)

/-- 'shunterlaw09.MaskTwice', WHERE WHAT IT READS IS OF BULK AT MOST 1048576: true; the input reads as it did. -/
def maskTwiceUptoRow : OpenClaim := { program := "ytjhhkdkemgkcgaadoor", sum := "b9bf3e92e40ba43af52294335fb84797808202ee2a425d4bf2ffdb5d8e4ed8ba", func := "shunter/shunterlaw09.MaskTwice", spec := "maskTwice", unfollowed := true, recurses := true, named := ["math/bits.deBruijn32tab"], apart := false, laid := [("math/bits.deBruijn32tab", laid_math_bits_deBruijn32tab)], narrowed := true }
def MaskTwiceUptoSaid : Prop := maskTwiceUptoRow.holds Tryd.pinned (OpenSpec.upto maskTwiceSpec)

/-- 'shunterlaw09.MaskFirst', WHERE WHAT IT READS IS OF BULK AT MOST 1048576: true; the input reads as it did. -/
def maskFirstUptoRow : OpenClaim := { program := "ytjhhkdkemgkcgaadoor", sum := "b9bf3e92e40ba43af52294335fb84797808202ee2a425d4bf2ffdb5d8e4ed8ba", func := "shunter/shunterlaw09.MaskFirst", spec := "maskFirst", unfollowed := true, recurses := true, named := ["math/bits.deBruijn32tab"], apart := false, laid := [("math/bits.deBruijn32tab", laid_math_bits_deBruijn32tab)], narrowed := true }
def MaskFirstUptoSaid : Prop := maskFirstUptoRow.holds Tryd.pinned (OpenSpec.upto maskFirstSpec)

/-- 'shunterlaw09.MaskBits', WHERE WHAT IT READS IS OF BULK AT MOST 1048576: true; the input reads as it did. -/
def maskBitsUptoRow : OpenClaim := { program := "ytjhhkdkemgkcgaadoor", sum := "b9bf3e92e40ba43af52294335fb84797808202ee2a425d4bf2ffdb5d8e4ed8ba", func := "shunter/shunterlaw09.MaskBits", spec := "maskBits", unfollowed := true, recurses := true, named := ["math/bits.deBruijn32tab"], apart := false, laid := [("math/bits.deBruijn32tab", laid_math_bits_deBruijn32tab)], narrowed := true }
def MaskBitsUptoSaid : Prop := maskBitsUptoRow.holds Tryd.pinned (OpenSpec.upto maskBitsSpec)

end Rows
end Go.Proofs.YtjhhkdkemgkcgaaDoor
