/-
  DERIVED. GIVEN WITH THE SEED: THE CARDS: each row of YtjaoiehjhnmahaaGreatDoorRows.lean that lists a variable, with what it lists TIED to the program's text (the seventh form; the later family's looks); each row that meets fmt, with fmt's text TOLD by the authors' own Lean function (tested against real Go, not proved from fmt's source: count such statements apart). THE CARD IS WHAT COUNTS. Prove the row's statement (the work); the ties are given (YtjaoiehjhnmahaaGreatDoorTie.lean); close each card by the builder's one call (the guide's Derived/Test/ToyasCard.lean, 'card_holds'). Laid BY PROGRAM, IN A SANDBOX (cutbox-door.mjs). By AI agents, Wed Nov 11 2026. No macro, syntax, notation, axiom, sorry.
-/
import Derived.Test.YtjaoiehjhnmahaaGreatDoorRows
import GoSem.ClaimSeven
namespace Go.Proofs.YtjaoiehjhnmahaaGreatDoor
namespace Rows

/-- THE TIED CARD OF 'florlaw2.PropChecks'. -/
def propChecksCard : Claim7 := { stood := { row := propChecksRow, standIns := [], harness := (true, "7e1902d5fb23208a5b874cdc9c0b6ea519a442dedbe919de4d22e74bebddf4f7"), looks := true }, kinds := [], alts := [], laidByText := true, laidKinds := [.data, .data, .data, .data, .pinned], laidTests := true, laidLooks := .later }
def PropChecksCardSaid : Prop := Claim7.holds Tryz.pinned (.plain (OpenSpec.ofChange propChecksSpec)) propChecksCard

/-- THE TIED CARD OF 'florlaw2.RuleReads'. -/
def ruleReadsCard : Claim7 := { stood := { row := ruleReadsRow, standIns := [], harness := (true, "7e1902d5fb23208a5b874cdc9c0b6ea519a442dedbe919de4d22e74bebddf4f7"), looks := true }, kinds := [], alts := [], laidByText := true, laidKinds := [.data, .data, .data, .data, .sentinel, .sentinel, .widerDeep, .widerDeep, .pinned], laidTests := true, laidLooks := .later }
def RuleReadsCardSaid : Prop := Claim7.holds Tryz.pinned (.plain (OpenSpec.ofChange ruleReadsSpec)) ruleReadsCard

/-- THE TIED CARD OF 'florlaw2.QueryWrites'. -/
def queryWritesCard : Claim7 := { stood := { row := queryWritesRow, standIns := [], harness := (true, "7e1902d5fb23208a5b874cdc9c0b6ea519a442dedbe919de4d22e74bebddf4f7"), looks := true }, kinds := [], alts := [], laidByText := true, laidKinds := [.data, .data, .data, .sentinel, .sentinel], laidTests := true, laidLooks := .later }
def QueryWritesCardSaid : Prop := Claim7.holds Tryz.pinned (.plain (OpenSpec.ofChange queryWritesSpec)) queryWritesCard

/-- THE SECOND FORM's CARD OF 'florlaw2.PropChecks'. -/
def propChecksUptoCard : Claim7 := { stood := { row := propChecksUptoRow, standIns := [], harness := (true, "7e1902d5fb23208a5b874cdc9c0b6ea519a442dedbe919de4d22e74bebddf4f7"), looks := true }, kinds := [], alts := [], laidByText := true, laidKinds := [.data, .data, .data, .data, .pinned], laidTests := true, laidLooks := .later }
def PropChecksUptoCardSaid : Prop := Claim7.holds Tryz.pinned (.plain (OpenSpec.upto propChecksSpec)) propChecksUptoCard

/-- THE SECOND FORM's CARD OF 'florlaw2.RuleReads'. -/
def ruleReadsUptoCard : Claim7 := { stood := { row := ruleReadsUptoRow, standIns := [], harness := (true, "7e1902d5fb23208a5b874cdc9c0b6ea519a442dedbe919de4d22e74bebddf4f7"), looks := true }, kinds := [], alts := [], laidByText := true, laidKinds := [.data, .data, .data, .data, .sentinel, .sentinel, .widerDeep, .widerDeep, .pinned], laidTests := true, laidLooks := .later }
def RuleReadsUptoCardSaid : Prop := Claim7.holds Tryz.pinned (.plain (OpenSpec.upto ruleReadsSpec)) ruleReadsUptoCard

/-- THE SECOND FORM's CARD OF 'florlaw2.QueryWrites'. -/
def queryWritesUptoCard : Claim7 := { stood := { row := queryWritesUptoRow, standIns := [], harness := (true, "7e1902d5fb23208a5b874cdc9c0b6ea519a442dedbe919de4d22e74bebddf4f7"), looks := true }, kinds := [], alts := [], laidByText := true, laidKinds := [.data, .data, .data, .sentinel, .sentinel], laidTests := true, laidLooks := .later }
def QueryWritesUptoCardSaid : Prop := Claim7.holds Tryz.pinned (.plain (OpenSpec.upto queryWritesSpec)) queryWritesUptoCard
end Rows
end Go.Proofs.YtjaoiehjhnmahaaGreatDoor
