/-
  DERIVED. GIVEN WITH THE SEED: THE CARDS: each row of YtafgfldcbdkccaaGreatDoorRows.lean that lists a variable, with what it lists TIED to the program's text (the seventh form; the later family's looks); each row that meets fmt, with fmt's text TOLD by the authors' own Lean function (tested against real Go, not proved from fmt's source: count such statements apart). THE CARD IS WHAT COUNTS. Prove the row's statement (the work); the ties are given (YtafgfldcbdkccaaGreatDoorTie.lean); close each card by the builder's one call (the guide's Derived/Test/ToyasCard.lean, 'card_holds'). Laid BY PROGRAM, IN A SANDBOX (cutbox-door.mjs). By AI agents, Wed Nov 11 2026. No macro, syntax, notation, axiom, sorry.
-/
import Derived.Test.YtafgfldcbdkccaaGreatDoorRows
import GoSem.ClaimSeven
namespace Go.Proofs.YtafgfldcbdkccaaGreatDoor
namespace Rows

/-- THE TIED CARD OF 'florlaw2.LinkTitles'. -/
def linkTitlesCard : Claim7 := { stood := { row := linkTitlesRow, standIns := [], harness := (true, "1f9f47902a563380d8b9bd262a9e72f0a87cf277c5b5359d12a21345920b6d87"), looks := false }, kinds := [], alts := [], laidByText := true, laidKinds := [.data, .pinned], laidTests := true, laidLooks := .later }
def LinkTitlesCardSaid : Prop := Claim7.holds Tryz.pinned (.plain (OpenSpec.ofChange linkTitlesSpec)) linkTitlesCard

/-- THE SECOND FORM's CARD OF 'florlaw2.LinkTitles'. -/
def linkTitlesUptoCard : Claim7 := { stood := { row := linkTitlesUptoRow, standIns := [], harness := (true, "1f9f47902a563380d8b9bd262a9e72f0a87cf277c5b5359d12a21345920b6d87"), looks := false }, kinds := [], alts := [], laidByText := true, laidKinds := [.data, .pinned], laidTests := true, laidLooks := .later }
def LinkTitlesUptoCardSaid : Prop := Claim7.holds Tryz.pinned (.plain (OpenSpec.upto linkTitlesSpec)) linkTitlesUptoCard
end Rows
end Go.Proofs.YtafgfldcbdkccaaGreatDoor
