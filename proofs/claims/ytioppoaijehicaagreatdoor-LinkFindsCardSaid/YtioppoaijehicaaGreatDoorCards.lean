/-
  DERIVED. GIVEN WITH THE SEED: THE CARDS: each row of YtioppoaijehicaaGreatDoorRows.lean that lists a variable, with what it lists TIED to the program's text (the seventh form; the later family's looks); each row that meets fmt, with fmt's text TOLD by the authors' own Lean function (tested against real Go, not proved from fmt's source: count such statements apart). THE CARD IS WHAT COUNTS. Prove the row's statement (the work); the ties are given (YtioppoaijehicaaGreatDoorTie.lean); close each card by the builder's one call (the guide's Derived/Test/ToyasCard.lean, 'card_holds'). Laid BY PROGRAM, IN A SANDBOX (cutbox-door.mjs). By AI agents, Wed Nov 11 2026. No macro, syntax, notation, axiom, sorry.
-/
import Derived.Test.YtioppoaijehicaaGreatDoorRows
import GoSem.ClaimSeven
namespace Go.Proofs.YtioppoaijehicaaGreatDoor
namespace Rows

/-- THE TIED CARD OF 'florlaw2.DayPages'. -/
def dayPagesCard : Claim7 := { stood := { row := dayPagesRow, standIns := [], harness := (true, "38f1223a7048c87ef233f2c94c958bbe6208eb706cd6381488568e4f171ebe47"), looks := true }, kinds := [], alts := [], laidByText := true, laidKinds := [.data, .data, .data, .data, .sentinel, .sentinel, .pinned], laidTests := true, laidLooks := .later }
def DayPagesCardSaid : Prop := Claim7.holds Tryz.pinned (.plain (OpenSpec.ofChange dayPagesSpec)) dayPagesCard

/-- THE TIED CARD OF 'florlaw2.LinkFinds'. -/
def linkFindsCard : Claim7 := { stood := { row := linkFindsRow, standIns := [], harness := (true, "38f1223a7048c87ef233f2c94c958bbe6208eb706cd6381488568e4f171ebe47"), looks := true }, kinds := [], alts := [], laidByText := true, laidKinds := [.data, .data, .data, .data, .sentinel, .sentinel, .pinned], laidTests := true, laidLooks := .later }
def LinkFindsCardSaid : Prop := Claim7.holds Tryz.pinned (.plain (OpenSpec.ofChange linkFindsSpec)) linkFindsCard

/-- THE SECOND FORM's CARD OF 'florlaw2.DayPages'. -/
def dayPagesUptoCard : Claim7 := { stood := { row := dayPagesUptoRow, standIns := [], harness := (true, "38f1223a7048c87ef233f2c94c958bbe6208eb706cd6381488568e4f171ebe47"), looks := true }, kinds := [], alts := [], laidByText := true, laidKinds := [.data, .data, .data, .data, .sentinel, .sentinel, .pinned], laidTests := true, laidLooks := .later }
def DayPagesUptoCardSaid : Prop := Claim7.holds Tryz.pinned (.plain (OpenSpec.upto dayPagesSpec)) dayPagesUptoCard

/-- THE SECOND FORM's CARD OF 'florlaw2.LinkFinds'. -/
def linkFindsUptoCard : Claim7 := { stood := { row := linkFindsUptoRow, standIns := [], harness := (true, "38f1223a7048c87ef233f2c94c958bbe6208eb706cd6381488568e4f171ebe47"), looks := true }, kinds := [], alts := [], laidByText := true, laidKinds := [.data, .data, .data, .data, .sentinel, .sentinel, .pinned], laidTests := true, laidLooks := .later }
def LinkFindsUptoCardSaid : Prop := Claim7.holds Tryz.pinned (.plain (OpenSpec.upto linkFindsSpec)) linkFindsUptoCard
end Rows
end Go.Proofs.YtioppoaijehicaaGreatDoor
