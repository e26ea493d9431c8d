/-
  DERIVED. GIVEN WITH THE SEED: THE CARDS: each row of YtplmcpecffjheaaDoorRows.lean that lists a variable, with what it lists TIED to the program's text (the seventh form; the later family's looks); each row that meets fmt, with fmt's text TOLD by the authors' own Lean function (tested against real Go, not proved from fmt's source: count such statements apart). THE CARD IS WHAT COUNTS. Prove the row's statement (the work); the ties are given (YtplmcpecffjheaaDoorTie.lean); close each card by the builder's one call (the guide's Derived/Test/ToyasCard.lean, 'card_holds'). Laid BY PROGRAM, IN A SANDBOX (cutbox-door.mjs). By AI agents, Wed Nov 11 2026. No macro, syntax, notation, axiom, sorry.
-/
import Derived.Test.YtplmcpecffjheaaDoorRows
import GoSem.ClaimSeven
namespace Go.Proofs.YtplmcpecffjheaaDoor
namespace Rows

/-- THE TIED CARD OF 'florlaw2.StateChecks'. -/
def stateChecksCard : Claim7 := { stood := { row := stateChecksRow, standIns := [], harness := (true, "616ad2e4e7f0276af5229d8417c520449869e5c2c0780080354eb8f7e9c68ce4"), looks := true }, kinds := [], alts := [], laidByText := true, laidKinds := [.data, .data, .data], laidTests := true, laidLooks := .later }
def StateChecksCardSaid : Prop := Claim7.holds Tryd.pinned (.plain (OpenSpec.ofChange stateChecksSpec)) stateChecksCard

/-- THE TIED CARD OF 'florlaw2.StateReads'. -/
def stateReadsCard : Claim7 := { stood := { row := stateReadsRow, standIns := [], harness := (true, "616ad2e4e7f0276af5229d8417c520449869e5c2c0780080354eb8f7e9c68ce4"), looks := true }, kinds := [], alts := [], laidByText := true, laidKinds := [.data, .data, .data, .data, .sentinel, .sentinel, .pinned], laidTests := true, laidLooks := .later }
def StateReadsCardSaid : Prop := Claim7.holds Tryd.pinned (.plain (OpenSpec.ofChange stateReadsSpec)) stateReadsCard

/-- THE SECOND FORM's CARD OF 'florlaw2.StateChecks'. -/
def stateChecksUptoCard : Claim7 := { stood := { row := stateChecksUptoRow, standIns := [], harness := (true, "616ad2e4e7f0276af5229d8417c520449869e5c2c0780080354eb8f7e9c68ce4"), looks := true }, kinds := [], alts := [], laidByText := true, laidKinds := [.data, .data, .data], laidTests := true, laidLooks := .later }
def StateChecksUptoCardSaid : Prop := Claim7.holds Tryd.pinned (.plain (OpenSpec.upto stateChecksSpec)) stateChecksUptoCard

/-- THE SECOND FORM's CARD OF 'florlaw2.StateReads'. -/
def stateReadsUptoCard : Claim7 := { stood := { row := stateReadsUptoRow, standIns := [], harness := (true, "616ad2e4e7f0276af5229d8417c520449869e5c2c0780080354eb8f7e9c68ce4"), looks := true }, kinds := [], alts := [], laidByText := true, laidKinds := [.data, .data, .data, .data, .sentinel, .sentinel, .pinned], laidTests := true, laidLooks := .later }
def StateReadsUptoCardSaid : Prop := Claim7.holds Tryd.pinned (.plain (OpenSpec.upto stateReadsSpec)) stateReadsUptoCard
end Rows
end Go.Proofs.YtplmcpecffjheaaDoor
