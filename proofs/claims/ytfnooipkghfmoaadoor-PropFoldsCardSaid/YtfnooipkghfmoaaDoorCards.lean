/-
  DERIVED. GIVEN WITH THE SEED: THE CARDS: each row of YtfnooipkghfmoaaDoorRows.lean that lists a variable, with what it lists TIED to the program's text (the seventh form; the later family's looks); each row that meets fmt, with fmt's text TOLD by the authors' own Lean function (tested against real Go, not proved from fmt's source: count such statements apart). THE CARD IS WHAT COUNTS. Prove the row's statement (the work); the ties are given (YtfnooipkghfmoaaDoorTie.lean); close each card by the builder's one call (the guide's Derived/Test/ToyasCard.lean, 'card_holds'). Laid BY PROGRAM, IN A SANDBOX (cutbox-door.mjs). By AI agents, Wed Nov 11 2026. No macro, syntax, notation, axiom, sorry.
-/
import Derived.Test.YtfnooipkghfmoaaDoorRows
import GoSem.ClaimSeven
namespace Go.Proofs.YtfnooipkghfmoaaDoor
namespace Rows

/-- THE TIED CARD OF 'florlaw2.PropFolds'. -/
def propFoldsCard : Claim7 := { stood := { row := propFoldsRow, standIns := [], harness := (true, "f406fc00ec8027d0e888a483c35cde3a5d2399cf8059983b19ae279cc581b182"), looks := true }, kinds := [], alts := [], laidByText := true, laidKinds := [.data, .pinned], laidTests := true, laidLooks := .later }
def PropFoldsCardSaid : Prop := Claim7.holds Tryd.pinned (.plain (OpenSpec.ofChange propFoldsSpec)) propFoldsCard

/-- THE TIED CARD OF 'florlaw2.CardCuts'. -/
def cardCutsCard : Claim7 := { stood := { row := cardCutsRow, standIns := [], harness := (true, "f406fc00ec8027d0e888a483c35cde3a5d2399cf8059983b19ae279cc581b182"), looks := true }, kinds := [], alts := [], laidByText := true, laidKinds := [.data, .pinned], laidTests := true, laidLooks := .later }
def CardCutsCardSaid : Prop := Claim7.holds Tryd.pinned (.plain (OpenSpec.ofChange cardCutsSpec)) cardCutsCard

/-- THE SECOND FORM's CARD OF 'florlaw2.PropFolds'. -/
def propFoldsUptoCard : Claim7 := { stood := { row := propFoldsUptoRow, standIns := [], harness := (true, "f406fc00ec8027d0e888a483c35cde3a5d2399cf8059983b19ae279cc581b182"), looks := true }, kinds := [], alts := [], laidByText := true, laidKinds := [.data, .pinned], laidTests := true, laidLooks := .later }
def PropFoldsUptoCardSaid : Prop := Claim7.holds Tryd.pinned (.plain (OpenSpec.upto propFoldsSpec)) propFoldsUptoCard

/-- THE SECOND FORM's CARD OF 'florlaw2.CardCuts'. -/
def cardCutsUptoCard : Claim7 := { stood := { row := cardCutsUptoRow, standIns := [], harness := (true, "f406fc00ec8027d0e888a483c35cde3a5d2399cf8059983b19ae279cc581b182"), looks := true }, kinds := [], alts := [], laidByText := true, laidKinds := [.data, .pinned], laidTests := true, laidLooks := .later }
def CardCutsUptoCardSaid : Prop := Claim7.holds Tryd.pinned (.plain (OpenSpec.upto cardCutsSpec)) cardCutsUptoCard
end Rows
end Go.Proofs.YtfnooipkghfmoaaDoor
