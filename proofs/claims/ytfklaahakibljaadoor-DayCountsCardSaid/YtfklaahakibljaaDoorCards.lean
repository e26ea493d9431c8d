/-
  DERIVED. GIVEN WITH THE SEED: THE CARDS: each row of YtfklaahakibljaaDoorRows.lean that lists a variable, with what it lists TIED to the program's text (the seventh form; the later family's looks); each row that meets fmt, with fmt's text TOLD by the authors' own Lean function (tested against real Go, not proved from fmt's source: count such statements apart). THE CARD IS WHAT COUNTS. Prove the row's statement (the work); the ties are given (YtfklaahakibljaaDoorTie.lean); close each card by the builder's one call (the guide's Derived/Test/ToyasCard.lean, 'card_holds'). Laid BY PROGRAM, IN A SANDBOX (cutbox-door.mjs). By AI agents, Wed Nov 11 2026. No macro, syntax, notation, axiom, sorry.
-/
import Derived.Test.YtfklaahakibljaaDoorRows
import GoSem.ClaimSeven
namespace Go.Proofs.YtfklaahakibljaaDoor
namespace Rows

/-- THE TIED CARD OF 'florlaw2.DayCounts'. -/
def dayCountsCard : Claim7 := { stood := { row := dayCountsRow, standIns := [], harness := (true, "f615ccc0f6e40ff0146285cfadfb0d2b79ad381cb92fc3c9e3b553d9cf5269e3"), looks := true }, kinds := [], alts := [], laidByText := true, laidKinds := [.data, .data, .data], laidTests := true, laidLooks := .later }
def DayCountsCardSaid : Prop := Claim7.holds Tryd.pinned (.plain (OpenSpec.ofChange dayCountsSpec)) dayCountsCard

/-- THE TIED CARD OF 'florlaw2.RuleChecks'. -/
def ruleChecksCard : Claim7 := { stood := { row := ruleChecksRow, standIns := [], harness := (true, "f615ccc0f6e40ff0146285cfadfb0d2b79ad381cb92fc3c9e3b553d9cf5269e3"), looks := true }, kinds := [], alts := [], laidByText := true, laidKinds := [.data, .data, .data, .widerDeep, .widerDeep], laidTests := true, laidLooks := .later }
def RuleChecksCardSaid : Prop := Claim7.holds Tryd.pinned (.plain (OpenSpec.ofChange ruleChecksSpec)) ruleChecksCard

/-- THE TIED CARD OF 'florlaw2.PropTypes'. -/
def propTypesCard : Claim7 := { stood := { row := propTypesRow, standIns := [], harness := (true, "f615ccc0f6e40ff0146285cfadfb0d2b79ad381cb92fc3c9e3b553d9cf5269e3"), looks := true }, kinds := [], alts := [], laidByText := true, laidKinds := [.data, .pinned], laidTests := true, laidLooks := .later }
def PropTypesCardSaid : Prop := Claim7.holds Tryd.pinned (.plain (OpenSpec.ofChange propTypesSpec)) propTypesCard

/-- THE TIED CARD OF 'florlaw2.PropFolds'. -/
def propFoldsCard : Claim7 := { stood := { row := propFoldsRow, standIns := [], harness := (true, "f615ccc0f6e40ff0146285cfadfb0d2b79ad381cb92fc3c9e3b553d9cf5269e3"), looks := true }, kinds := [], alts := [], laidByText := true, laidKinds := [.data, .pinned], laidTests := true, laidLooks := .later }
def PropFoldsCardSaid : Prop := Claim7.holds Tryd.pinned (.plain (OpenSpec.ofChange propFoldsSpec)) propFoldsCard

/-- THE SECOND FORM's CARD OF 'florlaw2.DayCounts'. -/
def dayCountsUptoCard : Claim7 := { stood := { row := dayCountsUptoRow, standIns := [], harness := (true, "f615ccc0f6e40ff0146285cfadfb0d2b79ad381cb92fc3c9e3b553d9cf5269e3"), looks := true }, kinds := [], alts := [], laidByText := true, laidKinds := [.data, .data, .data], laidTests := true, laidLooks := .later }
def DayCountsUptoCardSaid : Prop := Claim7.holds Tryd.pinned (.plain (OpenSpec.upto dayCountsSpec)) dayCountsUptoCard

/-- THE SECOND FORM's CARD OF 'florlaw2.RuleChecks'. -/
def ruleChecksUptoCard : Claim7 := { stood := { row := ruleChecksUptoRow, standIns := [], harness := (true, "f615ccc0f6e40ff0146285cfadfb0d2b79ad381cb92fc3c9e3b553d9cf5269e3"), looks := true }, kinds := [], alts := [], laidByText := true, laidKinds := [.data, .data, .data, .widerDeep, .widerDeep], laidTests := true, laidLooks := .later }
def RuleChecksUptoCardSaid : Prop := Claim7.holds Tryd.pinned (.plain (OpenSpec.upto ruleChecksSpec)) ruleChecksUptoCard

/-- THE SECOND FORM's CARD OF 'florlaw2.PropTypes'. -/
def propTypesUptoCard : Claim7 := { stood := { row := propTypesUptoRow, standIns := [], harness := (true, "f615ccc0f6e40ff0146285cfadfb0d2b79ad381cb92fc3c9e3b553d9cf5269e3"), looks := true }, kinds := [], alts := [], laidByText := true, laidKinds := [.data, .pinned], laidTests := true, laidLooks := .later }
def PropTypesUptoCardSaid : Prop := Claim7.holds Tryd.pinned (.plain (OpenSpec.upto propTypesSpec)) propTypesUptoCard

/-- THE SECOND FORM's CARD OF 'florlaw2.PropFolds'. -/
def propFoldsUptoCard : Claim7 := { stood := { row := propFoldsUptoRow, standIns := [], harness := (true, "f615ccc0f6e40ff0146285cfadfb0d2b79ad381cb92fc3c9e3b553d9cf5269e3"), looks := true }, kinds := [], alts := [], laidByText := true, laidKinds := [.data, .pinned], laidTests := true, laidLooks := .later }
def PropFoldsUptoCardSaid : Prop := Claim7.holds Tryd.pinned (.plain (OpenSpec.upto propFoldsSpec)) propFoldsUptoCard
end Rows
end Go.Proofs.YtfklaahakibljaaDoor
