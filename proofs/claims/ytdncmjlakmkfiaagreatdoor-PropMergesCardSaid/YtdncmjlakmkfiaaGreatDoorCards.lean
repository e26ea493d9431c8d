/-
  DERIVED. GIVEN WITH THE SEED: THE CARDS: each row of YtdncmjlakmkfiaaGreatDoorRows.lean that lists a variable, with what it lists TIED to the program's text (the seventh form; the later family's looks); each row that meets fmt, with fmt's text TOLD by the authors' own Lean function (tested against real Go, not proved from fmt's source: count such statements apart). THE CARD IS WHAT COUNTS. Prove the row's statement (the work); the ties are given (YtdncmjlakmkfiaaGreatDoorTie.lean); close each card by the builder's one call (the guide's Derived/Test/ToyasCard.lean, 'card_holds'). Laid BY PROGRAM, IN A SANDBOX (cutbox-door.mjs). By AI agents, Wed Nov 11 2026. No macro, syntax, notation, axiom, sorry.
-/
import Derived.Test.YtdncmjlakmkfiaaGreatDoorRows
import GoSem.ClaimSeven
namespace Go.Proofs.YtdncmjlakmkfiaaGreatDoor
namespace Rows

/-- THE TIED CARD OF 'florlaw2.ValueReads'. -/
def valueReadsCard : Claim7 := { stood := { row := valueReadsRow, standIns := [], harness := (true, "68d2445f235f46a44fe00f124a5ad531b48bf094aea7d95a6c408a867d7b5ba7"), looks := true }, kinds := [], alts := [], laidByText := true, laidKinds := [.data, .data, .data, .data, .sentinel, .sentinel, .pinned], laidTests := true, laidLooks := .later }
def ValueReadsCardSaid : Prop := Claim7.holds Tryz.pinned (.plain (OpenSpec.ofChange valueReadsSpec)) valueReadsCard

/-- THE TIED CARD OF 'florlaw2.PropMerges'. -/
def propMergesCard : Claim7 := { stood := { row := propMergesRow, standIns := [], harness := (true, "68d2445f235f46a44fe00f124a5ad531b48bf094aea7d95a6c408a867d7b5ba7"), looks := true }, kinds := [], alts := [], laidByText := true, laidKinds := [.data, .pinned], laidTests := true, laidLooks := .later }
def PropMergesCardSaid : Prop := Claim7.holds Tryz.pinned (.plain (OpenSpec.ofChange propMergesSpec)) propMergesCard

/-- THE TIED CARD OF 'florlaw2.PropReads'. -/
def propReadsCard : Claim7 := { stood := { row := propReadsRow, standIns := [], harness := (true, "68d2445f235f46a44fe00f124a5ad531b48bf094aea7d95a6c408a867d7b5ba7"), looks := true }, kinds := [], alts := [], laidByText := true, laidKinds := [.data, .data, .data, .data, .sentinel, .sentinel, .pinned], laidTests := true, laidLooks := .later }
def PropReadsCardSaid : Prop := Claim7.holds Tryz.pinned (.plain (OpenSpec.ofChange propReadsSpec)) propReadsCard

/-- THE SECOND FORM's CARD OF 'florlaw2.ValueReads'. -/
def valueReadsUptoCard : Claim7 := { stood := { row := valueReadsUptoRow, standIns := [], harness := (true, "68d2445f235f46a44fe00f124a5ad531b48bf094aea7d95a6c408a867d7b5ba7"), looks := true }, kinds := [], alts := [], laidByText := true, laidKinds := [.data, .data, .data, .data, .sentinel, .sentinel, .pinned], laidTests := true, laidLooks := .later }
def ValueReadsUptoCardSaid : Prop := Claim7.holds Tryz.pinned (.plain (OpenSpec.upto valueReadsSpec)) valueReadsUptoCard

/-- THE SECOND FORM's CARD OF 'florlaw2.PropMerges'. -/
def propMergesUptoCard : Claim7 := { stood := { row := propMergesUptoRow, standIns := [], harness := (true, "68d2445f235f46a44fe00f124a5ad531b48bf094aea7d95a6c408a867d7b5ba7"), looks := true }, kinds := [], alts := [], laidByText := true, laidKinds := [.data, .pinned], laidTests := true, laidLooks := .later }
def PropMergesUptoCardSaid : Prop := Claim7.holds Tryz.pinned (.plain (OpenSpec.upto propMergesSpec)) propMergesUptoCard

/-- THE SECOND FORM's CARD OF 'florlaw2.PropReads'. -/
def propReadsUptoCard : Claim7 := { stood := { row := propReadsUptoRow, standIns := [], harness := (true, "68d2445f235f46a44fe00f124a5ad531b48bf094aea7d95a6c408a867d7b5ba7"), looks := true }, kinds := [], alts := [], laidByText := true, laidKinds := [.data, .data, .data, .data, .sentinel, .sentinel, .pinned], laidTests := true, laidLooks := .later }
def PropReadsUptoCardSaid : Prop := Claim7.holds Tryz.pinned (.plain (OpenSpec.upto propReadsSpec)) propReadsUptoCard
end Rows
end Go.Proofs.YtdncmjlakmkfiaaGreatDoor
