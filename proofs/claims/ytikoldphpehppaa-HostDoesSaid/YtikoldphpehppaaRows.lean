/-
  No cell of these rows narrows 'for every input' (looked for: loops, veiled, ifaces, maps, wideKeys, modest, calm, conditions, laid).
  DERIVED. THE GIVEN ROWS OF THIS SEAT. 5 by the template 'for every input the law returns true; each argument reads behind the call as it read before'; 0 by the template 'total and deterministic' (their statements: YtikoldphpehppaaTotals.lean).
  GIVEN WITH THE SEED: the statements are not yours to turn. If you find one false, say at which input.
  Laid BY PROGRAM, IN A SANDBOX (cutbox-rows.mjs): the forced cells as the released guide's own fill.sh prints them over the translation d9ea7bcf9a8fca2f… (all of the seat's roots in one cut). By AI agents, Wed Nov 11 2026. No macro, syntax, notation, axiom, sorry.
-/
import Derived.Test.YtikoldphpehppaaChecked
import GoSem.Claim
import GoSem.ClaimJoined
import GoSem.ClaimMapViews
import Derived.JoinedTies
import Derived.KernelRfl
namespace Go.Proofs.Ytikoldphpehppaa
/- THE CELL 'sum', in the pinned program and in every row, IS THE sha256 OF THE DUMP (.gsa) THAT YtikoldphpehppaaProg.lean LOADS. Nothing in Lean hashes anything: it is a label: what it is worth is what the hold of that sum in a sandbox is worth. -/
noncomputable def Try.pinned : Pinned := { name := "ytikoldphpehppaa", sum := "d9ea7bcf9a8fca2f61fe84634f2139b8ae4e3b8d70988eca935cf526c3e56637", checked := Try.checked }
namespace Rows
def none {H : Type} : Left H := { results := [], args := [] }

/-- 'shunterlaw15.HostNew': WHATEVER THE INPUT: true; the input reads as it did. -/
def hostNewSpec : ChangeSpec := { name := "hostNew", fn := fun _ => fun
  | [d1, d2] => { results := [.lit (.bool true)], args := [d1, d2] }
  | _ => none }
def hostNewRow : OpenClaim := { program := "ytikoldphpehppaa", sum := "d9ea7bcf9a8fca2f61fe84634f2139b8ae4e3b8d70988eca935cf526c3e56637", func := "shunter/shunterlaw15.HostNew", spec := "hostNew", apart := false }
def HostNewSaid : Prop := hostNewRow.holds Try.pinned (OpenSpec.ofChange hostNewSpec)

/-- ITS FALSE NEIGHBOUR: 'it returns false'. Refute it at one input. -/
def hostNewWrong : ChangeSpec := { name := "hostNew", fn := fun _ => fun
  | [d1, d2] => { results := [.lit (.bool false)], args := [d1, d2] }
  | _ => none }
def HostNewWrongFalsely : Prop := hostNewRow.holds Try.pinned (OpenSpec.ofChange hostNewWrong)

/-- 'shunterlaw15.HostLanes': WHATEVER THE INPUT: true; the input reads as it did. -/
def hostLanesSpec : ChangeSpec := { name := "hostLanes", fn := fun _ => fun
  | [d1, d2, d3] => { results := [.lit (.bool true)], args := [d1, d2, d3] }
  | _ => none }
def hostLanesRow : OpenClaim := { program := "ytikoldphpehppaa", sum := "d9ea7bcf9a8fca2f61fe84634f2139b8ae4e3b8d70988eca935cf526c3e56637", func := "shunter/shunterlaw15.HostLanes", spec := "hostLanes", apart := false }
def HostLanesSaid : Prop := hostLanesRow.holds Try.pinned (OpenSpec.ofChange hostLanesSpec)

/-- ITS FALSE NEIGHBOUR: 'it returns false'. Refute it at one input. -/
def hostLanesWrong : ChangeSpec := { name := "hostLanes", fn := fun _ => fun
  | [d1, d2, d3] => { results := [.lit (.bool false)], args := [d1, d2, d3] }
  | _ => none }
def HostLanesWrongFalsely : Prop := hostLanesRow.holds Try.pinned (OpenSpec.ofChange hostLanesWrong)

/-- 'shunterlaw15.HostDoes': WHATEVER THE INPUT: true; the input reads as it did. -/
def hostDoesSpec : ChangeSpec := { name := "hostDoes", fn := fun _ => fun
  | [d1, d2, d3] => { results := [.lit (.bool true)], args := [d1, d2, d3] }
  | _ => none }
def hostDoesRow : OpenClaim := { program := "ytikoldphpehppaa", sum := "d9ea7bcf9a8fca2f61fe84634f2139b8ae4e3b8d70988eca935cf526c3e56637", func := "shunter/shunterlaw15.HostDoes", spec := "hostDoes", apart := false }
def HostDoesSaid : Prop := hostDoesRow.holds Try.pinned (OpenSpec.ofChange hostDoesSpec)

/-- ITS FALSE NEIGHBOUR: 'it returns false'. Refute it at one input. -/
def hostDoesWrong : ChangeSpec := { name := "hostDoes", fn := fun _ => fun
  | [d1, d2, d3] => { results := [.lit (.bool false)], args := [d1, d2, d3] }
  | _ => none }
def HostDoesWrongFalsely : Prop := hostDoesRow.holds Try.pinned (OpenSpec.ofChange hostDoesWrong)

/-- 'shunterlaw15.HostOrder': WHATEVER THE INPUT: true; the input reads as it did. -/
def hostOrderSpec : ChangeSpec := { name := "hostOrder", fn := fun _ => fun
  | [d1, d2] => { results := [.lit (.bool true)], args := [d1, d2] }
  | _ => none }
def hostOrderRow : OpenClaim := { program := "ytikoldphpehppaa", sum := "d9ea7bcf9a8fca2f61fe84634f2139b8ae4e3b8d70988eca935cf526c3e56637", func := "shunter/shunterlaw15.HostOrder", spec := "hostOrder", apart := false }
def HostOrderSaid : Prop := hostOrderRow.holds Try.pinned (OpenSpec.ofChange hostOrderSpec)

/-- ITS FALSE NEIGHBOUR: 'it returns false'. Refute it at one input. -/
def hostOrderWrong : ChangeSpec := { name := "hostOrder", fn := fun _ => fun
  | [d1, d2] => { results := [.lit (.bool false)], args := [d1, d2] }
  | _ => none }
def HostOrderWrongFalsely : Prop := hostOrderRow.holds Try.pinned (OpenSpec.ofChange hostOrderWrong)

/-- 'shunterlaw15.HostGot': WHATEVER THE INPUT: true; the input reads as it did. -/
def hostGotSpec : ChangeSpec := { name := "hostGot", fn := fun _ => fun
  | [d] => { results := [.lit (.bool true)], args := [d] }
  | _ => none }
def hostGotRow : OpenClaim := { program := "ytikoldphpehppaa", sum := "d9ea7bcf9a8fca2f61fe84634f2139b8ae4e3b8d70988eca935cf526c3e56637", func := "shunter/shunterlaw15.HostGot", spec := "hostGot", apart := false }
def HostGotSaid : Prop := hostGotRow.holds Try.pinned (OpenSpec.ofChange hostGotSpec)

/-- ITS FALSE NEIGHBOUR: 'it returns false'. Refute it at one input. -/
def hostGotWrong : ChangeSpec := { name := "hostGot", fn := fun _ => fun
  | [d] => { results := [.lit (.bool false)], args := [d] }
  | _ => none }
def HostGotWrongFalsely : Prop := hostGotRow.holds Try.pinned (OpenSpec.ofChange hostGotWrong)

/- THE SECOND FORM. 'bulk': how many values and letters a reading holds, each counted each time it is reached (what is shared counts as often as it is met; a slice's spare places count too). A statement '..UptoSaid' is the law's where the arguments, and the package variables that the reading takes, are together of bulk at most 1048576: NARROWER than '..Said'. Prove '..Said' where nothing that the law and all that it calls make is longer than what came in: it says more and counts as full. Else prove '..UptoSaid'. A law counts once. -/
mutual
def uptoBulk {H : Type} : DataW H → Nat
  | .lit (.string bytes) => bytes.length + 1
  | .lit _ => 1
  | .nil => 1
  | .ptr d => uptoBulk d + 1
  | .slice elems spare => uptoBulkAll elems + uptoBulkAll spare + 1
  | .agg parts => uptoBulkAll parts + 1
  | .iface _ d => uptoBulk d + 1
  | .map entries => uptoBulkEntries entries + 1
  | .held _ => 1
def uptoBulkAll {H : Type} : List (DataW H) → Nat
  | [] => 0
  | d :: r => uptoBulk d + uptoBulkAll r
def uptoBulkEntries {H : Type} : List (Lit × DataW H) → Nat
  | [] => 0
  | x :: r => uptoBulkEntry x + uptoBulkEntries r
def uptoBulkEntry {H : Type} : Lit × DataW H → Nat
  | (.string bytes, d) => bytes.length + uptoBulk d + 1
  | (_, d) => uptoBulk d + 1
 end
def uptoSmall : (H : Type) → List (DataW H) → Bool := fun _ ds => decide (uptoBulkAll ds ≤ 1048576)
def OpenSpec.upto (s : _root_.Go.ChangeSpec) : _root_.Go.OpenSpec := { _root_.Go.OpenSpec.ofChange s with cond := some uptoSmall }

/-- 'shunterlaw15.HostNew', WHERE WHAT IT READS IS OF BULK AT MOST 1048576: true; the input reads as it did. -/
def hostNewUptoRow : OpenClaim := { program := "ytikoldphpehppaa", sum := "d9ea7bcf9a8fca2f61fe84634f2139b8ae4e3b8d70988eca935cf526c3e56637", func := "shunter/shunterlaw15.HostNew", spec := "hostNew", apart := false, narrowed := true }
def HostNewUptoSaid : Prop := hostNewUptoRow.holds Try.pinned (OpenSpec.upto hostNewSpec)

/-- 'shunterlaw15.HostLanes', WHERE WHAT IT READS IS OF BULK AT MOST 1048576: true; the input reads as it did. -/
def hostLanesUptoRow : OpenClaim := { program := "ytikoldphpehppaa", sum := "d9ea7bcf9a8fca2f61fe84634f2139b8ae4e3b8d70988eca935cf526c3e56637", func := "shunter/shunterlaw15.HostLanes", spec := "hostLanes", apart := false, narrowed := true }
def HostLanesUptoSaid : Prop := hostLanesUptoRow.holds Try.pinned (OpenSpec.upto hostLanesSpec)

/-- 'shunterlaw15.HostDoes', WHERE WHAT IT READS IS OF BULK AT MOST 1048576: true; the input reads as it did. -/
def hostDoesUptoRow : OpenClaim := { program := "ytikoldphpehppaa", sum := "d9ea7bcf9a8fca2f61fe84634f2139b8ae4e3b8d70988eca935cf526c3e56637", func := "shunter/shunterlaw15.HostDoes", spec := "hostDoes", apart := false, narrowed := true }
def HostDoesUptoSaid : Prop := hostDoesUptoRow.holds Try.pinned (OpenSpec.upto hostDoesSpec)

/-- 'shunterlaw15.HostOrder', WHERE WHAT IT READS IS OF BULK AT MOST 1048576: true; the input reads as it did. -/
def hostOrderUptoRow : OpenClaim := { program := "ytikoldphpehppaa", sum := "d9ea7bcf9a8fca2f61fe84634f2139b8ae4e3b8d70988eca935cf526c3e56637", func := "shunter/shunterlaw15.HostOrder", spec := "hostOrder", apart := false, narrowed := true }
def HostOrderUptoSaid : Prop := hostOrderUptoRow.holds Try.pinned (OpenSpec.upto hostOrderSpec)

/-- 'shunterlaw15.HostGot', WHERE WHAT IT READS IS OF BULK AT MOST 1048576: true; the input reads as it did. -/
def hostGotUptoRow : OpenClaim := { program := "ytikoldphpehppaa", sum := "d9ea7bcf9a8fca2f61fe84634f2139b8ae4e3b8d70988eca935cf526c3e56637", func := "shunter/shunterlaw15.HostGot", spec := "hostGot", apart := false, narrowed := true }
def HostGotUptoSaid : Prop := hostGotUptoRow.holds Try.pinned (OpenSpec.upto hostGotSpec)

end Rows
end Go.Proofs.Ytikoldphpehppaa
