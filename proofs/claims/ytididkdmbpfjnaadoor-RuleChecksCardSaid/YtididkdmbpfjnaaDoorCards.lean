/-
  DERIVED. GIVEN WITH THE SEED: THE CARDS: each row of YtididkdmbpfjnaaDoorRows.lean that lists a variable, with what it lists TIED to the program's text (the seventh form; the later family's looks); each row that meets fmt, with fmt's text TOLD by the authors' own Lean function (tested against real Go, not proved from fmt's source: count such statements apart). THE CARD IS WHAT COUNTS. Prove the row's statement (the work); the ties are given (YtididkdmbpfjnaaDoorTie.lean); close each card by the builder's one call (the guide's Derived/Test/ToyasCard.lean, 'card_holds'). Laid BY PROGRAM, IN A SANDBOX (cutbox-door.mjs). By AI agents, Wed Nov 11 2026. No macro, syntax, notation, axiom, sorry.
-/
import Derived.Test.YtididkdmbpfjnaaDoorRows
import GoSem.ClaimSeven
namespace Go.Proofs.YtididkdmbpfjnaaDoor
namespace Rows

/-- THE TIED CARD OF 'florlaw2.RuleChecks'. -/
def ruleChecksCard : Claim7 := { stood := { row := ruleChecksRow, standIns := [], harness := (true, "4e4dedec9ebab41d0922235307978c19ae120ee3ef4d5d0e6a9e531b2deed051"), looks := true }, kinds := [], alts := [], laidByText := true, laidKinds := [.data, .data, .data, .widerDeep, .widerDeep], laidTests := true, laidLooks := .later }
def RuleChecksCardSaid : Prop := Claim7.holds Tryd.pinned (.plain (OpenSpec.ofChange ruleChecksSpec)) ruleChecksCard

/-- THE TIED CARD OF 'florlaw2.PropTypes'. -/
def propTypesCard : Claim7 := { stood := { row := propTypesRow, standIns := [], harness := (true, "4e4dedec9ebab41d0922235307978c19ae120ee3ef4d5d0e6a9e531b2deed051"), looks := true }, kinds := [], alts := [], laidByText := true, laidKinds := [.data, .pinned], laidTests := true, laidLooks := .later }
def PropTypesCardSaid : Prop := Claim7.holds Tryd.pinned (.plain (OpenSpec.ofChange propTypesSpec)) propTypesCard

/-- THE TIED CARD OF 'florlaw2.PropFolds'. -/
def propFoldsCard : Claim7 := { stood := { row := propFoldsRow, standIns := [], harness := (true, "4e4dedec9ebab41d0922235307978c19ae120ee3ef4d5d0e6a9e531b2deed051"), looks := true }, kinds := [], alts := [], laidByText := true, laidKinds := [.data, .pinned], laidTests := true, laidLooks := .later }
def PropFoldsCardSaid : Prop := Claim7.holds Tryd.pinned (.plain (OpenSpec.ofChange propFoldsSpec)) propFoldsCard

/-- THE TIED CARD OF 'florlaw2.CardCuts'. -/
def cardCutsCard : Claim7 := { stood := { row := cardCutsRow, standIns := [], harness := (true, "4e4dedec9ebab41d0922235307978c19ae120ee3ef4d5d0e6a9e531b2deed051"), looks := true }, kinds := [], alts := [], laidByText := true, laidKinds := [.data, .pinned], laidTests := true, laidLooks := .later }
def CardCutsCardSaid : Prop := Claim7.holds Tryd.pinned (.plain (OpenSpec.ofChange cardCutsSpec)) cardCutsCard

/-- THE SECOND FORM's CARD OF 'florlaw2.RuleChecks'. -/
def ruleChecksUptoCard : Claim7 := { stood := { row := ruleChecksUptoRow, standIns := [], harness := (true, "4e4dedec9ebab41d0922235307978c19ae120ee3ef4d5d0e6a9e531b2deed051"), looks := true }, kinds := [], alts := [], laidByText := true, laidKinds := [.data, .data, .data, .widerDeep, .widerDeep], laidTests := true, laidLooks := .later }
def RuleChecksUptoCardSaid : Prop := Claim7.holds Tryd.pinned (.plain (OpenSpec.upto ruleChecksSpec)) ruleChecksUptoCard

/-- THE SECOND FORM's CARD OF 'florlaw2.PropTypes'. -/
def propTypesUptoCard : Claim7 := { stood := { row := propTypesUptoRow, standIns := [], harness := (true, "4e4dedec9ebab41d0922235307978c19ae120ee3ef4d5d0e6a9e531b2deed051"), looks := true }, kinds := [], alts := [], laidByText := true, laidKinds := [.data, .pinned], laidTests := true, laidLooks := .later }
def PropTypesUptoCardSaid : Prop := Claim7.holds Tryd.pinned (.plain (OpenSpec.upto propTypesSpec)) propTypesUptoCard

/-- THE SECOND FORM's CARD OF 'florlaw2.PropFolds'. -/
def propFoldsUptoCard : Claim7 := { stood := { row := propFoldsUptoRow, standIns := [], harness := (true, "4e4dedec9ebab41d0922235307978c19ae120ee3ef4d5d0e6a9e531b2deed051"), looks := true }, kinds := [], alts := [], laidByText := true, laidKinds := [.data, .pinned], laidTests := true, laidLooks := .later }
def PropFoldsUptoCardSaid : Prop := Claim7.holds Tryd.pinned (.plain (OpenSpec.upto propFoldsSpec)) propFoldsUptoCard

/-- THE SECOND FORM's CARD OF 'florlaw2.CardCuts'. -/
def cardCutsUptoCard : Claim7 := { stood := { row := cardCutsUptoRow, standIns := [], harness := (true, "4e4dedec9ebab41d0922235307978c19ae120ee3ef4d5d0e6a9e531b2deed051"), looks := true }, kinds := [], alts := [], laidByText := true, laidKinds := [.data, .pinned], laidTests := true, laidLooks := .later }
def CardCutsUptoCardSaid : Prop := Claim7.holds Tryd.pinned (.plain (OpenSpec.upto cardCutsSpec)) cardCutsUptoCard
end Rows
end Go.Proofs.YtididkdmbpfjnaaDoor
