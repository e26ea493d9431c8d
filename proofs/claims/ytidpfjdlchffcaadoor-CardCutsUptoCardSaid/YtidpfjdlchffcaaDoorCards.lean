/-
  DERIVED. GIVEN WITH THE SEED: THE CARDS: each row of YtidpfjdlchffcaaDoorRows.lean that lists a variable, with what it lists TIED to the program's text (the seventh form; the later family's looks); each row that meets fmt, with fmt's text TOLD by the authors' own Lean function (tested against real Go, not proved from fmt's source: count such statements apart). THE CARD IS WHAT COUNTS. Prove the row's statement (the work); the ties are given (YtidpfjdlchffcaaDoorTie.lean); close each card by the builder's one call (the guide's Derived/Test/ToyasCard.lean, 'card_holds'). Laid BY PROGRAM, IN A SANDBOX (cutbox-door.mjs). By AI agents, Wed Nov 11 2026. No macro, syntax, notation, axiom, sorry.
-/
import Derived.Test.YtidpfjdlchffcaaDoorRows
import GoSem.ClaimSeven
namespace Go.Proofs.YtidpfjdlchffcaaDoor
namespace Rows

/-- THE TIED CARD OF 'florlaw2.CardCuts'. -/
def cardCutsCard : Claim7 := { stood := { row := cardCutsRow, standIns := [], harness := (true, "dd452127ca49989d0dcd0cd5d451bb022c0cf5efd0704302a59a1e245fda9ccb"), looks := false }, kinds := [], alts := [], laidByText := true, laidKinds := [.data, .pinned], laidTests := true, laidLooks := .later }
def CardCutsCardSaid : Prop := Claim7.holds Tryd.pinned (.plain (OpenSpec.ofChange cardCutsSpec)) cardCutsCard

/-- THE SECOND FORM's CARD OF 'florlaw2.CardCuts'. -/
def cardCutsUptoCard : Claim7 := { stood := { row := cardCutsUptoRow, standIns := [], harness := (true, "dd452127ca49989d0dcd0cd5d451bb022c0cf5efd0704302a59a1e245fda9ccb"), looks := false }, kinds := [], alts := [], laidByText := true, laidKinds := [.data, .pinned], laidTests := true, laidLooks := .later }
def CardCutsUptoCardSaid : Prop := Claim7.holds Tryd.pinned (.plain (OpenSpec.upto cardCutsSpec)) cardCutsUptoCard
end Rows
end Go.Proofs.YtidpfjdlchffcaaDoor
