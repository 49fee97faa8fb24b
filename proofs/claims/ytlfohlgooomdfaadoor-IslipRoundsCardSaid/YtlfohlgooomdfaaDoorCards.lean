/-
  DERIVED. GIVEN WITH THE SEED: THE CARDS: each row of YtlfohlgooomdfaaDoorRows.lean that lists a variable, with what it lists TIED to the program's text (the seventh form; the later family's looks); each row that meets fmt, with fmt's text TOLD by the authors' own Lean function (tested against real Go, not proved from fmt's source: count such statements apart). THE CARD IS WHAT COUNTS. Prove the row's statement (the work); the ties are given (YtlfohlgooomdfaaDoorTie.lean); close each card by the builder's one call (the guide's Derived/Test/ToyasCard.lean, 'card_holds'). Laid BY PROGRAM, IN A SANDBOX (cutbox-door.mjs). By AI agents, Wed Nov 11 2026. No macro, syntax, notation, axiom, sorry.
-/
import Derived.Test.YtlfohlgooomdfaaDoorRows
import GoSem.ClaimSeven
namespace Go.Proofs.YtlfohlgooomdfaaDoor
namespace Rows

/-- THE TIED CARD OF 'shunterlaw10.IslipNew'. -/
def islipNewCard : Claim7 := { stood := { row := islipNewRow, standIns := [], harness := (true, "7856983a025614b0d28d1facec1cc867e9de493f9e58fcf01986064b06b3ae89"), looks := false }, kinds := [], alts := [], laidByText := true, laidKinds := [.data], laidTests := true, laidLooks := .later }
def IslipNewCardSaid : Prop := Claim7.holds Tryd.pinned (.plain (OpenSpec.ofChange islipNewSpec)) islipNewCard

/-- THE TIED CARD OF 'shunterlaw10.IslipOne'. -/
def islipOneCard : Claim7 := { stood := { row := islipOneRow, standIns := [], harness := (true, "7856983a025614b0d28d1facec1cc867e9de493f9e58fcf01986064b06b3ae89"), looks := false }, kinds := [], alts := [], laidByText := true, laidKinds := [.data], laidTests := true, laidLooks := .later }
def IslipOneCardSaid : Prop := Claim7.holds Tryd.pinned (.plain (OpenSpec.ofChange islipOneSpec)) islipOneCard

/-- THE TIED CARD OF 'shunterlaw10.IslipNone'. -/
def islipNoneCard : Claim7 := { stood := { row := islipNoneRow, standIns := [], harness := (true, "7856983a025614b0d28d1facec1cc867e9de493f9e58fcf01986064b06b3ae89"), looks := false }, kinds := [], alts := [], laidByText := true, laidKinds := [.data], laidTests := true, laidLooks := .later }
def IslipNoneCardSaid : Prop := Claim7.holds Tryd.pinned (.plain (OpenSpec.ofChange islipNoneSpec)) islipNoneCard

/-- THE TIED CARD OF 'shunterlaw10.IslipRuns'. -/
def islipRunsCard : Claim7 := { stood := { row := islipRunsRow, standIns := [], harness := (true, "7856983a025614b0d28d1facec1cc867e9de493f9e58fcf01986064b06b3ae89"), looks := false }, kinds := [], alts := [], laidByText := true, laidKinds := [.data], laidTests := true, laidLooks := .later }
def IslipRunsCardSaid : Prop := Claim7.holds Tryd.pinned (.plain (OpenSpec.ofChange islipRunsSpec)) islipRunsCard

/-- THE TIED CARD OF 'shunterlaw10.IslipMatches'. -/
def islipMatchesCard : Claim7 := { stood := { row := islipMatchesRow, standIns := [], harness := (true, "7856983a025614b0d28d1facec1cc867e9de493f9e58fcf01986064b06b3ae89"), looks := false }, kinds := [], alts := [], laidByText := true, laidKinds := [.data], laidTests := true, laidLooks := .later }
def IslipMatchesCardSaid : Prop := Claim7.holds Tryd.pinned (.plain (OpenSpec.ofChange islipMatchesSpec)) islipMatchesCard

/-- THE TIED CARD OF 'shunterlaw10.IslipWhole'. -/
def islipWholeCard : Claim7 := { stood := { row := islipWholeRow, standIns := [], harness := (true, "7856983a025614b0d28d1facec1cc867e9de493f9e58fcf01986064b06b3ae89"), looks := false }, kinds := [], alts := [], laidByText := true, laidKinds := [.data], laidTests := true, laidLooks := .later }
def IslipWholeCardSaid : Prop := Claim7.holds Tryd.pinned (.plain (OpenSpec.ofChange islipWholeSpec)) islipWholeCard

/-- THE TIED CARD OF 'shunterlaw10.IslipTurns'. -/
def islipTurnsCard : Claim7 := { stood := { row := islipTurnsRow, standIns := [], harness := (true, "7856983a025614b0d28d1facec1cc867e9de493f9e58fcf01986064b06b3ae89"), looks := false }, kinds := [], alts := [], laidByText := true, laidKinds := [.data], laidTests := true, laidLooks := .later }
def IslipTurnsCardSaid : Prop := Claim7.holds Tryd.pinned (.plain (OpenSpec.ofChange islipTurnsSpec)) islipTurnsCard

/-- THE TIED CARD OF 'shunterlaw10.IslipRounds'. -/
def islipRoundsCard : Claim7 := { stood := { row := islipRoundsRow, standIns := [], harness := (true, "7856983a025614b0d28d1facec1cc867e9de493f9e58fcf01986064b06b3ae89"), looks := false }, kinds := [], alts := [], laidByText := true, laidKinds := [.data], laidTests := true, laidLooks := .later }
def IslipRoundsCardSaid : Prop := Claim7.holds Tryd.pinned (.plain (OpenSpec.ofChange islipRoundsSpec)) islipRoundsCard

/-- THE SECOND FORM's CARD OF 'shunterlaw10.IslipNew'. -/
def islipNewUptoCard : Claim7 := { stood := { row := islipNewUptoRow, standIns := [], harness := (true, "7856983a025614b0d28d1facec1cc867e9de493f9e58fcf01986064b06b3ae89"), looks := false }, kinds := [], alts := [], laidByText := true, laidKinds := [.data], laidTests := true, laidLooks := .later }
def IslipNewUptoCardSaid : Prop := Claim7.holds Tryd.pinned (.plain (OpenSpec.upto islipNewSpec)) islipNewUptoCard

/-- THE SECOND FORM's CARD OF 'shunterlaw10.IslipOne'. -/
def islipOneUptoCard : Claim7 := { stood := { row := islipOneUptoRow, standIns := [], harness := (true, "7856983a025614b0d28d1facec1cc867e9de493f9e58fcf01986064b06b3ae89"), looks := false }, kinds := [], alts := [], laidByText := true, laidKinds := [.data], laidTests := true, laidLooks := .later }
def IslipOneUptoCardSaid : Prop := Claim7.holds Tryd.pinned (.plain (OpenSpec.upto islipOneSpec)) islipOneUptoCard

/-- THE SECOND FORM's CARD OF 'shunterlaw10.IslipNone'. -/
def islipNoneUptoCard : Claim7 := { stood := { row := islipNoneUptoRow, standIns := [], harness := (true, "7856983a025614b0d28d1facec1cc867e9de493f9e58fcf01986064b06b3ae89"), looks := false }, kinds := [], alts := [], laidByText := true, laidKinds := [.data], laidTests := true, laidLooks := .later }
def IslipNoneUptoCardSaid : Prop := Claim7.holds Tryd.pinned (.plain (OpenSpec.upto islipNoneSpec)) islipNoneUptoCard

/-- THE SECOND FORM's CARD OF 'shunterlaw10.IslipRuns'. -/
def islipRunsUptoCard : Claim7 := { stood := { row := islipRunsUptoRow, standIns := [], harness := (true, "7856983a025614b0d28d1facec1cc867e9de493f9e58fcf01986064b06b3ae89"), looks := false }, kinds := [], alts := [], laidByText := true, laidKinds := [.data], laidTests := true, laidLooks := .later }
def IslipRunsUptoCardSaid : Prop := Claim7.holds Tryd.pinned (.plain (OpenSpec.upto islipRunsSpec)) islipRunsUptoCard

/-- THE SECOND FORM's CARD OF 'shunterlaw10.IslipMatches'. -/
def islipMatchesUptoCard : Claim7 := { stood := { row := islipMatchesUptoRow, standIns := [], harness := (true, "7856983a025614b0d28d1facec1cc867e9de493f9e58fcf01986064b06b3ae89"), looks := false }, kinds := [], alts := [], laidByText := true, laidKinds := [.data], laidTests := true, laidLooks := .later }
def IslipMatchesUptoCardSaid : Prop := Claim7.holds Tryd.pinned (.plain (OpenSpec.upto islipMatchesSpec)) islipMatchesUptoCard

/-- THE SECOND FORM's CARD OF 'shunterlaw10.IslipWhole'. -/
def islipWholeUptoCard : Claim7 := { stood := { row := islipWholeUptoRow, standIns := [], harness := (true, "7856983a025614b0d28d1facec1cc867e9de493f9e58fcf01986064b06b3ae89"), looks := false }, kinds := [], alts := [], laidByText := true, laidKinds := [.data], laidTests := true, laidLooks := .later }
def IslipWholeUptoCardSaid : Prop := Claim7.holds Tryd.pinned (.plain (OpenSpec.upto islipWholeSpec)) islipWholeUptoCard

/-- THE SECOND FORM's CARD OF 'shunterlaw10.IslipTurns'. -/
def islipTurnsUptoCard : Claim7 := { stood := { row := islipTurnsUptoRow, standIns := [], harness := (true, "7856983a025614b0d28d1facec1cc867e9de493f9e58fcf01986064b06b3ae89"), looks := false }, kinds := [], alts := [], laidByText := true, laidKinds := [.data], laidTests := true, laidLooks := .later }
def IslipTurnsUptoCardSaid : Prop := Claim7.holds Tryd.pinned (.plain (OpenSpec.upto islipTurnsSpec)) islipTurnsUptoCard

/-- THE SECOND FORM's CARD OF 'shunterlaw10.IslipRounds'. -/
def islipRoundsUptoCard : Claim7 := { stood := { row := islipRoundsUptoRow, standIns := [], harness := (true, "7856983a025614b0d28d1facec1cc867e9de493f9e58fcf01986064b06b3ae89"), looks := false }, kinds := [], alts := [], laidByText := true, laidKinds := [.data], laidTests := true, laidLooks := .later }
def IslipRoundsUptoCardSaid : Prop := Claim7.holds Tryd.pinned (.plain (OpenSpec.upto islipRoundsSpec)) islipRoundsUptoCard
end Rows
end Go.Proofs.YtlfohlgooomdfaaDoor
