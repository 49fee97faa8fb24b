/-
  DERIVED. GIVEN WITH THE SEED: THE CARDS: each row of YtjhhkdkemgkcgaaDoorRows.lean that lists a variable, with what it lists TIED to the program's text (the seventh form; the later family's looks); each row that meets fmt, with fmt's text TOLD by the authors' own Lean function (tested against real Go, not proved from fmt's source: count such statements apart). THE CARD IS WHAT COUNTS. Prove the row's statement (the work); the ties are given (YtjhhkdkemgkcgaaDoorTie.lean); close each card by the builder's one call (the guide's Derived/Test/ToyasCard.lean, 'card_holds'). Laid BY PROGRAM, IN A SANDBOX (cutbox-door.mjs). By AI agents, Wed Nov 11 2026. No macro, syntax, notation, axiom, sorry.
-/
import Derived.Test.YtjhhkdkemgkcgaaDoorRows
import GoSem.ClaimSeven
namespace Go.Proofs.YtjhhkdkemgkcgaaDoor
namespace Rows

/-- THE TIED CARD OF 'shunterlaw09.MaskBounds'. -/
def maskBoundsCard : Claim7 := { stood := { row := maskBoundsRow, standIns := [], harness := (true, "46d9c11c8486745058c71fbc812909b064ce63242440955ff6d1f9bc09e0f457"), looks := false }, kinds := [], alts := [], laidByText := true, laidKinds := [.data], laidTests := true, laidLooks := .later }
def MaskBoundsCardSaid : Prop := Claim7.holds Tryd.pinned (.plain (OpenSpec.ofChange maskBoundsSpec)) maskBoundsCard

/-- THE TIED CARD OF 'shunterlaw09.MaskTurned'. -/
def maskTurnedCard : Claim7 := { stood := { row := maskTurnedRow, standIns := [], harness := (true, "46d9c11c8486745058c71fbc812909b064ce63242440955ff6d1f9bc09e0f457"), looks := false }, kinds := [], alts := [], laidByText := true, laidKinds := [.data], laidTests := true, laidLooks := .later }
def MaskTurnedCardSaid : Prop := Claim7.holds Tryd.pinned (.plain (OpenSpec.ofChange maskTurnedSpec)) maskTurnedCard

/-- THE TIED CARD OF 'shunterlaw09.MaskTells'. -/
def maskTellsCard : Claim7 := { stood := { row := maskTellsRow, standIns := [], harness := (true, "46d9c11c8486745058c71fbc812909b064ce63242440955ff6d1f9bc09e0f457"), looks := false }, kinds := [], alts := [], laidByText := true, laidKinds := [.data], laidTests := true, laidLooks := .later }
def MaskTellsCardSaid : Prop := Claim7.holds Tryd.pinned (.plain (OpenSpec.ofChange maskTellsSpec)) maskTellsCard

/-- THE TIED CARD OF 'shunterlaw09.MaskPicks'. -/
def maskPicksCard : Claim7 := { stood := { row := maskPicksRow, standIns := [], harness := (true, "46d9c11c8486745058c71fbc812909b064ce63242440955ff6d1f9bc09e0f457"), looks := false }, kinds := [], alts := [], laidByText := true, laidKinds := [.data], laidTests := true, laidLooks := .later }
def MaskPicksCardSaid : Prop := Claim7.holds Tryd.pinned (.plain (OpenSpec.ofChange maskPicksSpec)) maskPicksCard

/-- THE TIED CARD OF 'shunterlaw09.MaskTurns'. -/
def maskTurnsCard : Claim7 := { stood := { row := maskTurnsRow, standIns := [], harness := (true, "46d9c11c8486745058c71fbc812909b064ce63242440955ff6d1f9bc09e0f457"), looks := false }, kinds := [], alts := [], laidByText := true, laidKinds := [.data], laidTests := true, laidLooks := .later }
def MaskTurnsCardSaid : Prop := Claim7.holds Tryd.pinned (.plain (OpenSpec.ofChange maskTurnsSpec)) maskTurnsCard

/-- THE TIED CARD OF 'shunterlaw09.MaskTwice'. -/
def maskTwiceCard : Claim7 := { stood := { row := maskTwiceRow, standIns := [], harness := (true, "46d9c11c8486745058c71fbc812909b064ce63242440955ff6d1f9bc09e0f457"), looks := false }, kinds := [], alts := [], laidByText := true, laidKinds := [.data], laidTests := true, laidLooks := .later }
def MaskTwiceCardSaid : Prop := Claim7.holds Tryd.pinned (.plain (OpenSpec.ofChange maskTwiceSpec)) maskTwiceCard

/-- THE TIED CARD OF 'shunterlaw09.MaskFirst'. -/
def maskFirstCard : Claim7 := { stood := { row := maskFirstRow, standIns := [], harness := (true, "46d9c11c8486745058c71fbc812909b064ce63242440955ff6d1f9bc09e0f457"), looks := false }, kinds := [], alts := [], laidByText := true, laidKinds := [.data], laidTests := true, laidLooks := .later }
def MaskFirstCardSaid : Prop := Claim7.holds Tryd.pinned (.plain (OpenSpec.ofChange maskFirstSpec)) maskFirstCard

/-- THE TIED CARD OF 'shunterlaw09.MaskBits'. -/
def maskBitsCard : Claim7 := { stood := { row := maskBitsRow, standIns := [], harness := (true, "46d9c11c8486745058c71fbc812909b064ce63242440955ff6d1f9bc09e0f457"), looks := false }, kinds := [], alts := [], laidByText := true, laidKinds := [.data], laidTests := true, laidLooks := .later }
def MaskBitsCardSaid : Prop := Claim7.holds Tryd.pinned (.plain (OpenSpec.ofChange maskBitsSpec)) maskBitsCard

/-- THE SECOND FORM's CARD OF 'shunterlaw09.MaskBounds'. -/
def maskBoundsUptoCard : Claim7 := { stood := { row := maskBoundsUptoRow, standIns := [], harness := (true, "46d9c11c8486745058c71fbc812909b064ce63242440955ff6d1f9bc09e0f457"), looks := false }, kinds := [], alts := [], laidByText := true, laidKinds := [.data], laidTests := true, laidLooks := .later }
def MaskBoundsUptoCardSaid : Prop := Claim7.holds Tryd.pinned (.plain (OpenSpec.upto maskBoundsSpec)) maskBoundsUptoCard

/-- THE SECOND FORM's CARD OF 'shunterlaw09.MaskTurned'. -/
def maskTurnedUptoCard : Claim7 := { stood := { row := maskTurnedUptoRow, standIns := [], harness := (true, "46d9c11c8486745058c71fbc812909b064ce63242440955ff6d1f9bc09e0f457"), looks := false }, kinds := [], alts := [], laidByText := true, laidKinds := [.data], laidTests := true, laidLooks := .later }
def MaskTurnedUptoCardSaid : Prop := Claim7.holds Tryd.pinned (.plain (OpenSpec.upto maskTurnedSpec)) maskTurnedUptoCard

/-- THE SECOND FORM's CARD OF 'shunterlaw09.MaskTells'. -/
def maskTellsUptoCard : Claim7 := { stood := { row := maskTellsUptoRow, standIns := [], harness := (true, "46d9c11c8486745058c71fbc812909b064ce63242440955ff6d1f9bc09e0f457"), looks := false }, kinds := [], alts := [], laidByText := true, laidKinds := [.data], laidTests := true, laidLooks := .later }
def MaskTellsUptoCardSaid : Prop := Claim7.holds Tryd.pinned (.plain (OpenSpec.upto maskTellsSpec)) maskTellsUptoCard

/-- THE SECOND FORM's CARD OF 'shunterlaw09.MaskPicks'. -/
def maskPicksUptoCard : Claim7 := { stood := { row := maskPicksUptoRow, standIns := [], harness := (true, "46d9c11c8486745058c71fbc812909b064ce63242440955ff6d1f9bc09e0f457"), looks := false }, kinds := [], alts := [], laidByText := true, laidKinds := [.data], laidTests := true, laidLooks := .later }
def MaskPicksUptoCardSaid : Prop := Claim7.holds Tryd.pinned (.plain (OpenSpec.upto maskPicksSpec)) maskPicksUptoCard

/-- THE SECOND FORM's CARD OF 'shunterlaw09.MaskTurns'. -/
def maskTurnsUptoCard : Claim7 := { stood := { row := maskTurnsUptoRow, standIns := [], harness := (true, "46d9c11c8486745058c71fbc812909b064ce63242440955ff6d1f9bc09e0f457"), looks := false }, kinds := [], alts := [], laidByText := true, laidKinds := [.data], laidTests := true, laidLooks := .later }
def MaskTurnsUptoCardSaid : Prop := Claim7.holds Tryd.pinned (.plain (OpenSpec.upto maskTurnsSpec)) maskTurnsUptoCard

/-- THE SECOND FORM's CARD OF 'shunterlaw09.MaskTwice'. -/
def maskTwiceUptoCard : Claim7 := { stood := { row := maskTwiceUptoRow, standIns := [], harness := (true, "46d9c11c8486745058c71fbc812909b064ce63242440955ff6d1f9bc09e0f457"), looks := false }, kinds := [], alts := [], laidByText := true, laidKinds := [.data], laidTests := true, laidLooks := .later }
def MaskTwiceUptoCardSaid : Prop := Claim7.holds Tryd.pinned (.plain (OpenSpec.upto maskTwiceSpec)) maskTwiceUptoCard

/-- THE SECOND FORM's CARD OF 'shunterlaw09.MaskFirst'. -/
def maskFirstUptoCard : Claim7 := { stood := { row := maskFirstUptoRow, standIns := [], harness := (true, "46d9c11c8486745058c71fbc812909b064ce63242440955ff6d1f9bc09e0f457"), looks := false }, kinds := [], alts := [], laidByText := true, laidKinds := [.data], laidTests := true, laidLooks := .later }
def MaskFirstUptoCardSaid : Prop := Claim7.holds Tryd.pinned (.plain (OpenSpec.upto maskFirstSpec)) maskFirstUptoCard

/-- THE SECOND FORM's CARD OF 'shunterlaw09.MaskBits'. -/
def maskBitsUptoCard : Claim7 := { stood := { row := maskBitsUptoRow, standIns := [], harness := (true, "46d9c11c8486745058c71fbc812909b064ce63242440955ff6d1f9bc09e0f457"), looks := false }, kinds := [], alts := [], laidByText := true, laidKinds := [.data], laidTests := true, laidLooks := .later }
def MaskBitsUptoCardSaid : Prop := Claim7.holds Tryd.pinned (.plain (OpenSpec.upto maskBitsSpec)) maskBitsUptoCard
end Rows
end Go.Proofs.YtjhhkdkemgkcgaaDoor
