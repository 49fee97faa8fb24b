/-
  DERIVED. GIVEN WITH THE SEED: THE CARDS: each row of YtebnflpanfmicaaGreatDoorRows.lean that lists a variable, with what it lists TIED to the program's text (the seventh form; the later family's looks); each row that meets fmt, with fmt's text TOLD by the authors' own Lean function (tested against real Go, not proved from fmt's source: count such statements apart). THE CARD IS WHAT COUNTS. Prove the row's statement (the work); the ties are given (YtebnflpanfmicaaGreatDoorTie.lean); close each card by the builder's one call (the guide's Derived/Test/ToyasCard.lean, 'card_holds'). Laid BY PROGRAM, IN A SANDBOX (cutbox-door.mjs). By AI agents, Wed Nov 11 2026. No macro, syntax, notation, axiom, sorry.
-/
import Derived.Test.YtebnflpanfmicaaGreatDoorRows
import GoSem.ClaimSeven
namespace Go.Proofs.YtebnflpanfmicaaGreatDoor
namespace Rows

/-- THE TIED CARD OF 'shuntertop.TopDrains'. -/
def topDrainsCard : Claim7 := { stood := { row := topDrainsRow, standIns := [], harness := (true, "25615563cf9f159fe4e6678a85aecc078345c7bff4291311a97d0d1d1520de3d"), looks := false }, kinds := [], alts := [], laidByText := true, laidKinds := [.data], laidTests := true, laidLooks := .later }
def TopDrainsCardSaid : Prop := Claim7.holds Tryz.pinned (.plain (OpenSpec.ofChange topDrainsSpec)) topDrainsCard

/-- THE TIED CARD OF 'shuntertop.TopRefuses'. -/
def topRefusesCard : Claim7 := { stood := { row := topRefusesRow, standIns := [], harness := (true, "25615563cf9f159fe4e6678a85aecc078345c7bff4291311a97d0d1d1520de3d"), looks := false }, kinds := [], alts := [], laidByText := true, laidKinds := [.data], laidTests := true, laidLooks := .later }
def TopRefusesCardSaid : Prop := Claim7.holds Tryz.pinned (.plain (OpenSpec.ofChange topRefusesSpec)) topRefusesCard

/-- THE TIED CARD OF 'shuntertop.TopMachine'. -/
def topMachineCard : Claim7 := { stood := { row := topMachineRow, standIns := [], harness := (true, "25615563cf9f159fe4e6678a85aecc078345c7bff4291311a97d0d1d1520de3d"), looks := false }, kinds := [], alts := [], laidByText := true, laidKinds := [.data], laidTests := true, laidLooks := .later }
def TopMachineCardSaid : Prop := Claim7.holds Tryz.pinned (.plain (OpenSpec.ofChange topMachineSpec)) topMachineCard

/-- THE SECOND FORM's CARD OF 'shuntertop.TopDrains'. -/
def topDrainsUptoCard : Claim7 := { stood := { row := topDrainsUptoRow, standIns := [], harness := (true, "25615563cf9f159fe4e6678a85aecc078345c7bff4291311a97d0d1d1520de3d"), looks := false }, kinds := [], alts := [], laidByText := true, laidKinds := [.data], laidTests := true, laidLooks := .later }
def TopDrainsUptoCardSaid : Prop := Claim7.holds Tryz.pinned (.plain (OpenSpec.upto topDrainsSpec)) topDrainsUptoCard

/-- THE SECOND FORM's CARD OF 'shuntertop.TopRefuses'. -/
def topRefusesUptoCard : Claim7 := { stood := { row := topRefusesUptoRow, standIns := [], harness := (true, "25615563cf9f159fe4e6678a85aecc078345c7bff4291311a97d0d1d1520de3d"), looks := false }, kinds := [], alts := [], laidByText := true, laidKinds := [.data], laidTests := true, laidLooks := .later }
def TopRefusesUptoCardSaid : Prop := Claim7.holds Tryz.pinned (.plain (OpenSpec.upto topRefusesSpec)) topRefusesUptoCard

/-- THE SECOND FORM's CARD OF 'shuntertop.TopMachine'. -/
def topMachineUptoCard : Claim7 := { stood := { row := topMachineUptoRow, standIns := [], harness := (true, "25615563cf9f159fe4e6678a85aecc078345c7bff4291311a97d0d1d1520de3d"), looks := false }, kinds := [], alts := [], laidByText := true, laidKinds := [.data], laidTests := true, laidLooks := .later }
def TopMachineUptoCardSaid : Prop := Claim7.holds Tryz.pinned (.plain (OpenSpec.upto topMachineSpec)) topMachineUptoCard
end Rows
end Go.Proofs.YtebnflpanfmicaaGreatDoor
