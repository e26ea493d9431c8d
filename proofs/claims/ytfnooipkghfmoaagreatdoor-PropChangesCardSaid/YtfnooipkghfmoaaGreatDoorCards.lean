/-
  DERIVED. GIVEN WITH THE SEED: THE CARDS: each row of YtfnooipkghfmoaaGreatDoorRows.lean that lists a variable, with what it lists TIED to the program's text (the seventh form; the later family's looks); each row that meets fmt, with fmt's text TOLD by the authors' own Lean function (tested against real Go, not proved from fmt's source: count such statements apart). THE CARD IS WHAT COUNTS. Prove the row's statement (the work); the ties are given (YtfnooipkghfmoaaGreatDoorTie.lean); close each card by the builder's one call (the guide's Derived/Test/ToyasCard.lean, 'card_holds'). Laid BY PROGRAM, IN A SANDBOX (cutbox-door.mjs). By AI agents, Wed Nov 11 2026. No macro, syntax, notation, axiom, sorry.
-/
import Derived.Test.YtfnooipkghfmoaaGreatDoorRows
import GoSem.ClaimSeven
namespace Go.Proofs.YtfnooipkghfmoaaGreatDoor
namespace Rows

/-- THE TIED CARD OF 'florlaw2.PropChanges'. -/
def propChangesCard : Claim7 := { stood := { row := propChangesRow, standIns := [], harness := (true, "14a1c3c6fd1d49a7cbd60edf51be50c2886c885e77279ac0c20e35037f437d1d"), looks := true }, kinds := [], alts := [], laidByText := true, laidKinds := [.data, .pinned], laidTests := true, laidLooks := .later }
def PropChangesCardSaid : Prop := Claim7.holds Tryz.pinned (.plain (OpenSpec.ofChange propChangesSpec)) propChangesCard

/-- THE TIED CARD OF 'florlaw2.ValueChecks'. -/
def valueChecksCard : Claim7 := { stood := { row := valueChecksRow, standIns := [], harness := (true, "14a1c3c6fd1d49a7cbd60edf51be50c2886c885e77279ac0c20e35037f437d1d"), looks := true }, kinds := [], alts := [], laidByText := true, laidKinds := [.data, .data, .data, .data, .pinned], laidTests := true, laidLooks := .later }
def ValueChecksCardSaid : Prop := Claim7.holds Tryz.pinned (.plain (OpenSpec.ofChange valueChecksSpec)) valueChecksCard

/-- THE TIED CARD OF 'florlaw2.PropChecks'. -/
def propChecksCard : Claim7 := { stood := { row := propChecksRow, standIns := [], harness := (true, "14a1c3c6fd1d49a7cbd60edf51be50c2886c885e77279ac0c20e35037f437d1d"), looks := true }, kinds := [], alts := [], laidByText := true, laidKinds := [.data, .data, .data, .data, .pinned], laidTests := true, laidLooks := .later }
def PropChecksCardSaid : Prop := Claim7.holds Tryz.pinned (.plain (OpenSpec.ofChange propChecksSpec)) propChecksCard

/-- THE TIED CARD OF 'florlaw2.PropMerges'. -/
def propMergesCard : Claim7 := { stood := { row := propMergesRow, standIns := [], harness := (true, "14a1c3c6fd1d49a7cbd60edf51be50c2886c885e77279ac0c20e35037f437d1d"), looks := true }, kinds := [], alts := [], laidByText := true, laidKinds := [.data, .pinned], laidTests := true, laidLooks := .later }
def PropMergesCardSaid : Prop := Claim7.holds Tryz.pinned (.plain (OpenSpec.ofChange propMergesSpec)) propMergesCard

/-- THE SECOND FORM's CARD OF 'florlaw2.PropChanges'. -/
def propChangesUptoCard : Claim7 := { stood := { row := propChangesUptoRow, standIns := [], harness := (true, "14a1c3c6fd1d49a7cbd60edf51be50c2886c885e77279ac0c20e35037f437d1d"), looks := true }, kinds := [], alts := [], laidByText := true, laidKinds := [.data, .pinned], laidTests := true, laidLooks := .later }
def PropChangesUptoCardSaid : Prop := Claim7.holds Tryz.pinned (.plain (OpenSpec.upto propChangesSpec)) propChangesUptoCard

/-- THE SECOND FORM's CARD OF 'florlaw2.ValueChecks'. -/
def valueChecksUptoCard : Claim7 := { stood := { row := valueChecksUptoRow, standIns := [], harness := (true, "14a1c3c6fd1d49a7cbd60edf51be50c2886c885e77279ac0c20e35037f437d1d"), looks := true }, kinds := [], alts := [], laidByText := true, laidKinds := [.data, .data, .data, .data, .pinned], laidTests := true, laidLooks := .later }
def ValueChecksUptoCardSaid : Prop := Claim7.holds Tryz.pinned (.plain (OpenSpec.upto valueChecksSpec)) valueChecksUptoCard

/-- THE SECOND FORM's CARD OF 'florlaw2.PropChecks'. -/
def propChecksUptoCard : Claim7 := { stood := { row := propChecksUptoRow, standIns := [], harness := (true, "14a1c3c6fd1d49a7cbd60edf51be50c2886c885e77279ac0c20e35037f437d1d"), looks := true }, kinds := [], alts := [], laidByText := true, laidKinds := [.data, .data, .data, .data, .pinned], laidTests := true, laidLooks := .later }
def PropChecksUptoCardSaid : Prop := Claim7.holds Tryz.pinned (.plain (OpenSpec.upto propChecksSpec)) propChecksUptoCard

/-- THE SECOND FORM's CARD OF 'florlaw2.PropMerges'. -/
def propMergesUptoCard : Claim7 := { stood := { row := propMergesUptoRow, standIns := [], harness := (true, "14a1c3c6fd1d49a7cbd60edf51be50c2886c885e77279ac0c20e35037f437d1d"), looks := true }, kinds := [], alts := [], laidByText := true, laidKinds := [.data, .pinned], laidTests := true, laidLooks := .later }
def PropMergesUptoCardSaid : Prop := Claim7.holds Tryz.pinned (.plain (OpenSpec.upto propMergesSpec)) propMergesUptoCard
end Rows
end Go.Proofs.YtfnooipkghfmoaaGreatDoor
