/-
  DERIVED. GIVEN WITH THE SEED: THE CARDS: each row of YtpbkidjbbhkjnaaDoorRows.lean that lists a variable, with what it lists TIED to the program's text (the seventh form; the later family's looks); each row that meets fmt, with fmt's text TOLD by the authors' own Lean function (tested against real Go, not proved from fmt's source: count such statements apart). THE CARD IS WHAT COUNTS. Prove the row's statement (the work); the ties are given (YtpbkidjbbhkjnaaDoorTie.lean); close each card by the builder's one call (the guide's Derived/Test/ToyasCard.lean, 'card_holds'). Laid BY PROGRAM, IN A SANDBOX (cutbox-door.mjs). By AI agents, Wed Nov 11 2026. No macro, syntax, notation, axiom, sorry.
-/
import Derived.Test.YtpbkidjbbhkjnaaDoorRows
import GoSem.ClaimSeven
namespace Go.Proofs.YtpbkidjbbhkjnaaDoor
namespace Rows

/-- THE TIED CARD OF 'florlaw2.PropTypes'. -/
def propTypesCard : Claim7 := { stood := { row := propTypesRow, standIns := [], harness := (true, "769b8571dc72c422828b759eba31ea8dc540316c00d3d2cd0905eff2ff668666"), looks := true }, kinds := [], alts := [], laidByText := true, laidKinds := [.data, .pinned], laidTests := true, laidLooks := .later }
def PropTypesCardSaid : Prop := Claim7.holds Tryd.pinned (.plain (OpenSpec.ofChange propTypesSpec)) propTypesCard

/-- THE TIED CARD OF 'florlaw2.PropFolds'. -/
def propFoldsCard : Claim7 := { stood := { row := propFoldsRow, standIns := [], harness := (true, "769b8571dc72c422828b759eba31ea8dc540316c00d3d2cd0905eff2ff668666"), looks := true }, kinds := [], alts := [], laidByText := true, laidKinds := [.data, .pinned], laidTests := true, laidLooks := .later }
def PropFoldsCardSaid : Prop := Claim7.holds Tryd.pinned (.plain (OpenSpec.ofChange propFoldsSpec)) propFoldsCard

/-- THE SECOND FORM's CARD OF 'florlaw2.PropTypes'. -/
def propTypesUptoCard : Claim7 := { stood := { row := propTypesUptoRow, standIns := [], harness := (true, "769b8571dc72c422828b759eba31ea8dc540316c00d3d2cd0905eff2ff668666"), looks := true }, kinds := [], alts := [], laidByText := true, laidKinds := [.data, .pinned], laidTests := true, laidLooks := .later }
def PropTypesUptoCardSaid : Prop := Claim7.holds Tryd.pinned (.plain (OpenSpec.upto propTypesSpec)) propTypesUptoCard

/-- THE SECOND FORM's CARD OF 'florlaw2.PropFolds'. -/
def propFoldsUptoCard : Claim7 := { stood := { row := propFoldsUptoRow, standIns := [], harness := (true, "769b8571dc72c422828b759eba31ea8dc540316c00d3d2cd0905eff2ff668666"), looks := true }, kinds := [], alts := [], laidByText := true, laidKinds := [.data, .pinned], laidTests := true, laidLooks := .later }
def PropFoldsUptoCardSaid : Prop := Claim7.holds Tryd.pinned (.plain (OpenSpec.upto propFoldsSpec)) propFoldsUptoCard
end Rows
end Go.Proofs.YtpbkidjbbhkjnaaDoor
