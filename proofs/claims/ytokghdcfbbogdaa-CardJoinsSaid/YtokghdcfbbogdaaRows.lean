/-
  No cell of these rows narrows 'for every input' (looked for: loops, veiled, ifaces, maps, wideKeys, modest, calm, conditions, laid).
  DERIVED. THE GIVEN ROWS OF THIS SEAT. 10 by the template 'for every input the law returns true; each argument reads behind the call as it read before'; 0 by the template 'total and deterministic' (their statements: YtokghdcfbbogdaaTotals.lean).
  GIVEN WITH THE SEED: the statements are not yours to turn. If you find one false, say at which input.
  Laid BY PROGRAM, IN A SANDBOX (cutbox-rows.mjs): the forced cells as the released guide's own fill.sh prints them over the translation c50cac860f52a2ea… (all of the seat's roots in one cut). By AI agents, Wed Nov 11 2026. No macro, syntax, notation, axiom, sorry.
-/
import Derived.Test.YtokghdcfbbogdaaChecked
import GoSem.Claim
import GoSem.ClaimJoined
import GoSem.ClaimMapViews
import Derived.JoinedTies
import Derived.KernelRfl
namespace Go.Proofs.Ytokghdcfbbogdaa
/- THE CELL 'sum', in the pinned program and in every row, IS THE sha256 OF THE DUMP (.gsa) THAT YtokghdcfbbogdaaProg.lean LOADS. Nothing in Lean hashes anything: it is a label: what it is worth is what the hold of that sum in a sandbox is worth. -/
noncomputable def Try.pinned : Pinned := { name := "ytokghdcfbbogdaa", sum := "c50cac860f52a2ea1e1c1446d456bfc0a6e7dee14ba542a95bd136594876022c", checked := Try.checked }
namespace Rows
def none {H : Type} : Left H := { results := [], args := [] }

/-- 'florlaw2.StateReplays': WHATEVER THE INPUT: true; the input reads as it did. -/
def stateReplaysSpec : ChangeSpec := { name := "stateReplays", fn := fun _ => fun
  | [d1, d2, d3] => { results := [.lit (.bool true)], args := [d1, d2, d3] }
  | _ => none }
def stateReplaysRow : OpenClaim := { program := "ytokghdcfbbogdaa", sum := "c50cac860f52a2ea1e1c1446d456bfc0a6e7dee14ba542a95bd136594876022c", func := "florilegium/florlaw2.StateReplays", spec := "stateReplays", unfollowed := true, recurses := true, plainKeys := false, apart := false }
def StateReplaysSaid : Prop := stateReplaysRow.holds Try.pinned (OpenSpec.ofChange stateReplaysSpec)

/-- ITS FALSE NEIGHBOUR: 'it returns false'. Refute it at one input. -/
def stateReplaysWrong : ChangeSpec := { name := "stateReplays", fn := fun _ => fun
  | [d1, d2, d3] => { results := [.lit (.bool false)], args := [d1, d2, d3] }
  | _ => none }
def StateReplaysWrongFalsely : Prop := stateReplaysRow.holds Try.pinned (OpenSpec.ofChange stateReplaysWrong)

/-- 'florlaw2.StateGrades': WHATEVER THE INPUT: true; the input reads as it did. -/
def stateGradesSpec : ChangeSpec := { name := "stateGrades", fn := fun _ => fun
  | [d1, d2, d3] => { results := [.lit (.bool true)], args := [d1, d2, d3] }
  | _ => none }
def stateGradesRow : OpenClaim := { program := "ytokghdcfbbogdaa", sum := "c50cac860f52a2ea1e1c1446d456bfc0a6e7dee14ba542a95bd136594876022c", func := "florilegium/florlaw2.StateGrades", spec := "stateGrades", unfollowed := true, recurses := true, plainKeys := false, apart := false }
def StateGradesSaid : Prop := stateGradesRow.holds Try.pinned (OpenSpec.ofChange stateGradesSpec)

/-- ITS FALSE NEIGHBOUR: 'it returns false'. Refute it at one input. -/
def stateGradesWrong : ChangeSpec := { name := "stateGrades", fn := fun _ => fun
  | [d1, d2, d3] => { results := [.lit (.bool false)], args := [d1, d2, d3] }
  | _ => none }
def StateGradesWrongFalsely : Prop := stateGradesRow.holds Try.pinned (OpenSpec.ofChange stateGradesWrong)

/-- 'florlaw2.CardGrades': WHATEVER THE INPUT: true; the input reads as it did. -/
def cardGradesSpec : ChangeSpec := { name := "cardGrades", fn := fun _ => fun
  | [d1, d2, d3, d4] => { results := [.lit (.bool true)], args := [d1, d2, d3, d4] }
  | _ => none }
def cardGradesRow : OpenClaim := { program := "ytokghdcfbbogdaa", sum := "c50cac860f52a2ea1e1c1446d456bfc0a6e7dee14ba542a95bd136594876022c", func := "florilegium/florlaw2.CardGrades", spec := "cardGrades", unfollowed := true, recurses := true, plainKeys := false, apart := false }
def CardGradesSaid : Prop := cardGradesRow.holds Try.pinned (OpenSpec.ofChange cardGradesSpec)

/-- ITS FALSE NEIGHBOUR: 'it returns false'. Refute it at one input. -/
def cardGradesWrong : ChangeSpec := { name := "cardGrades", fn := fun _ => fun
  | [d1, d2, d3, d4] => { results := [.lit (.bool false)], args := [d1, d2, d3, d4] }
  | _ => none }
def CardGradesWrongFalsely : Prop := cardGradesRow.holds Try.pinned (OpenSpec.ofChange cardGradesWrong)

/-- 'florlaw2.CardAsks': WHATEVER THE INPUT: true; the input reads as it did. -/
def cardAsksSpec : ChangeSpec := { name := "cardAsks", fn := fun _ => fun
  | [d1, d2, d3, d4] => { results := [.lit (.bool true)], args := [d1, d2, d3, d4] }
  | _ => none }
def cardAsksRow : OpenClaim := { program := "ytokghdcfbbogdaa", sum := "c50cac860f52a2ea1e1c1446d456bfc0a6e7dee14ba542a95bd136594876022c", func := "florilegium/florlaw2.CardAsks", spec := "cardAsks", unfollowed := true, recurses := true, plainKeys := false, apart := false }
def CardAsksSaid : Prop := cardAsksRow.holds Try.pinned (OpenSpec.ofChange cardAsksSpec)

/-- ITS FALSE NEIGHBOUR: 'it returns false'. Refute it at one input. -/
def cardAsksWrong : ChangeSpec := { name := "cardAsks", fn := fun _ => fun
  | [d1, d2, d3, d4] => { results := [.lit (.bool false)], args := [d1, d2, d3, d4] }
  | _ => none }
def CardAsksWrongFalsely : Prop := cardAsksRow.holds Try.pinned (OpenSpec.ofChange cardAsksWrong)

/-- 'florlaw2.CardCounts': WHATEVER THE INPUT: true; the input reads as it did. -/
def cardCountsSpec : ChangeSpec := { name := "cardCounts", fn := fun _ => fun
  | [d1, d2, d3, d4, d5] => { results := [.lit (.bool true)], args := [d1, d2, d3, d4, d5] }
  | _ => none }
def cardCountsRow : OpenClaim := { program := "ytokghdcfbbogdaa", sum := "c50cac860f52a2ea1e1c1446d456bfc0a6e7dee14ba542a95bd136594876022c", func := "florilegium/florlaw2.CardCounts", spec := "cardCounts", unfollowed := true, recurses := true, plainKeys := false, apart := false }
def CardCountsSaid : Prop := cardCountsRow.holds Try.pinned (OpenSpec.ofChange cardCountsSpec)

/-- ITS FALSE NEIGHBOUR: 'it returns false'. Refute it at one input. -/
def cardCountsWrong : ChangeSpec := { name := "cardCounts", fn := fun _ => fun
  | [d1, d2, d3, d4, d5] => { results := [.lit (.bool false)], args := [d1, d2, d3, d4, d5] }
  | _ => none }
def CardCountsWrongFalsely : Prop := cardCountsRow.holds Try.pinned (OpenSpec.ofChange cardCountsWrong)

/-- 'florlaw2.CardSimulates': WHATEVER THE INPUT: true; the input reads as it did. -/
def cardSimulatesSpec : ChangeSpec := { name := "cardSimulates", fn := fun _ => fun
  | [d1, d2, d3, d4, d5] => { results := [.lit (.bool true)], args := [d1, d2, d3, d4, d5] }
  | _ => none }
def cardSimulatesRow : OpenClaim := { program := "ytokghdcfbbogdaa", sum := "c50cac860f52a2ea1e1c1446d456bfc0a6e7dee14ba542a95bd136594876022c", func := "florilegium/florlaw2.CardSimulates", spec := "cardSimulates", unfollowed := true, recurses := true, plainKeys := false, apart := false }
def CardSimulatesSaid : Prop := cardSimulatesRow.holds Try.pinned (OpenSpec.ofChange cardSimulatesSpec)

/-- ITS FALSE NEIGHBOUR: 'it returns false'. Refute it at one input. -/
def cardSimulatesWrong : ChangeSpec := { name := "cardSimulates", fn := fun _ => fun
  | [d1, d2, d3, d4, d5] => { results := [.lit (.bool false)], args := [d1, d2, d3, d4, d5] }
  | _ => none }
def CardSimulatesWrongFalsely : Prop := cardSimulatesRow.holds Try.pinned (OpenSpec.ofChange cardSimulatesWrong)

/-- 'florlaw2.CardJoins': WHATEVER THE INPUT: true; the input reads as it did. -/
def cardJoinsSpec : ChangeSpec := { name := "cardJoins", fn := fun _ => fun
  | [d1, d2] => { results := [.lit (.bool true)], args := [d1, d2] }
  | _ => none }
def cardJoinsRow : OpenClaim := { program := "ytokghdcfbbogdaa", sum := "c50cac860f52a2ea1e1c1446d456bfc0a6e7dee14ba542a95bd136594876022c", func := "florilegium/florlaw2.CardJoins", spec := "cardJoins", unfollowed := true, recurses := true, plainKeys := false, apart := false }
def CardJoinsSaid : Prop := cardJoinsRow.holds Try.pinned (OpenSpec.ofChange cardJoinsSpec)

/-- ITS FALSE NEIGHBOUR: 'it returns false'. Refute it at one input. -/
def cardJoinsWrong : ChangeSpec := { name := "cardJoins", fn := fun _ => fun
  | [d1, d2] => { results := [.lit (.bool false)], args := [d1, d2] }
  | _ => none }
def CardJoinsWrongFalsely : Prop := cardJoinsRow.holds Try.pinned (OpenSpec.ofChange cardJoinsWrong)

/-- 'flortop.TopCards': WHATEVER THE INPUT: true; the input reads as it did. -/
def topCardsSpec : ChangeSpec := { name := "topCards", fn := fun _ => fun
  | [d1, d2, d3] => { results := [.lit (.bool true)], args := [d1, d2, d3] }
  | _ => none }
def topCardsRow : OpenClaim := { program := "ytokghdcfbbogdaa", sum := "c50cac860f52a2ea1e1c1446d456bfc0a6e7dee14ba542a95bd136594876022c", func := "florilegium/flortop.TopCards", spec := "topCards", plainKeys := false, apart := false }
def TopCardsSaid : Prop := topCardsRow.holds Try.pinned (OpenSpec.ofChange topCardsSpec)

/-- ITS FALSE NEIGHBOUR: 'it returns false'. Refute it at one input. -/
def topCardsWrong : ChangeSpec := { name := "topCards", fn := fun _ => fun
  | [d1, d2, d3] => { results := [.lit (.bool false)], args := [d1, d2, d3] }
  | _ => none }
def TopCardsWrongFalsely : Prop := topCardsRow.holds Try.pinned (OpenSpec.ofChange topCardsWrong)

/-- 'florlaw2.CardKeeps': WHATEVER THE INPUT: true; the input reads as it did. -/
def cardKeepsSpec : ChangeSpec := { name := "cardKeeps", fn := fun _ => fun
  | [d1, d2] => { results := [.lit (.bool true)], args := [d1, d2] }
  | _ => none }
def cardKeepsRow : OpenClaim := { program := "ytokghdcfbbogdaa", sum := "c50cac860f52a2ea1e1c1446d456bfc0a6e7dee14ba542a95bd136594876022c", func := "florilegium/florlaw2.CardKeeps", spec := "cardKeeps", unfollowed := true, recurses := true, plainKeys := false, apart := false }
def CardKeepsSaid : Prop := cardKeepsRow.holds Try.pinned (OpenSpec.ofChange cardKeepsSpec)

/-- ITS FALSE NEIGHBOUR: 'it returns false'. Refute it at one input. -/
def cardKeepsWrong : ChangeSpec := { name := "cardKeeps", fn := fun _ => fun
  | [d1, d2] => { results := [.lit (.bool false)], args := [d1, d2] }
  | _ => none }
def CardKeepsWrongFalsely : Prop := cardKeepsRow.holds Try.pinned (OpenSpec.ofChange cardKeepsWrong)

/-- 'flortop.TopYear': WHATEVER THE INPUT: true; the input reads as it did. -/
def topYearSpec : ChangeSpec := { name := "topYear", fn := fun _ => fun
  | [d1, d2, d3, d4, d5, d6] => { results := [.lit (.bool true)], args := [d1, d2, d3, d4, d5, d6] }
  | _ => none }
def topYearRow : OpenClaim := { program := "ytokghdcfbbogdaa", sum := "c50cac860f52a2ea1e1c1446d456bfc0a6e7dee14ba542a95bd136594876022c", func := "florilegium/flortop.TopYear", spec := "topYear", unfollowed := true, recurses := true, plainKeys := false, apart := false }
def TopYearSaid : Prop := topYearRow.holds Try.pinned (OpenSpec.ofChange topYearSpec)

/-- ITS FALSE NEIGHBOUR: 'it returns false'. Refute it at one input. -/
def topYearWrong : ChangeSpec := { name := "topYear", fn := fun _ => fun
  | [d1, d2, d3, d4, d5, d6] => { results := [.lit (.bool false)], args := [d1, d2, d3, d4, d5, d6] }
  | _ => none }
def TopYearWrongFalsely : Prop := topYearRow.holds Try.pinned (OpenSpec.ofChange topYearWrong)

/- THE SECOND FORM. 'bulk': how many values and letters a reading holds, each counted each time it is reached (what is shared counts as often as it is met; a slice's spare places count too). A statement '..UptoSaid' is the law's where the arguments, and the package variables that the reading takes, are together of bulk at most 1048576: NARROWER than '..Said'. Prove '..Said' where nothing that the law and all that it calls make is longer than what came in: it says more and counts as full. Else prove '..UptoSaid'. A law counts once. -/
mutual
def uptoBulk {H : Type} : DataW H → Nat
  | .lit (.string bytes) => bytes.length + 1
  | .lit _ => 1
  | .nil => 1
  | .ptr d => uptoBulk d + 1
  | .slice elems spare => uptoBulkAll elems + uptoBulkAll spare + 1
  | .agg parts => uptoBulkAll parts + 1
  | .iface _ d => uptoBulk d + 1
  | .map entries => uptoBulkEntries entries + 1
  | .held _ => 1
def uptoBulkAll {H : Type} : List (DataW H) → Nat
  | [] => 0
  | d :: r => uptoBulk d + uptoBulkAll r
def uptoBulkEntries {H : Type} : List (Lit × DataW H) → Nat
  | [] => 0
  | x :: r => uptoBulkEntry x + uptoBulkEntries r
def uptoBulkEntry {H : Type} : Lit × DataW H → Nat
  | (.string bytes, d) => bytes.length + uptoBulk d + 1
  | (_, d) => uptoBulk d + 1
 end
def uptoSmall : (H : Type) → List (DataW H) → Bool := fun _ ds => decide (uptoBulkAll ds ≤ 1048576)
def OpenSpec.upto (s : _root_.Go.ChangeSpec) : _root_.Go.OpenSpec := { _root_.Go.OpenSpec.ofChange s with cond := some uptoSmall }

/-- 'florlaw2.StateReplays', WHERE WHAT IT READS IS OF BULK AT MOST 1048576: true; the input reads as it did. -/
def stateReplaysUptoRow : OpenClaim := { program := "ytokghdcfbbogdaa", sum := "c50cac860f52a2ea1e1c1446d456bfc0a6e7dee14ba542a95bd136594876022c", func := "florilegium/florlaw2.StateReplays", spec := "stateReplays", unfollowed := true, recurses := true, plainKeys := false, apart := false, narrowed := true }
def StateReplaysUptoSaid : Prop := stateReplaysUptoRow.holds Try.pinned (OpenSpec.upto stateReplaysSpec)

/-- 'florlaw2.StateGrades', WHERE WHAT IT READS IS OF BULK AT MOST 1048576: true; the input reads as it did. -/
def stateGradesUptoRow : OpenClaim := { program := "ytokghdcfbbogdaa", sum := "c50cac860f52a2ea1e1c1446d456bfc0a6e7dee14ba542a95bd136594876022c", func := "florilegium/florlaw2.StateGrades", spec := "stateGrades", unfollowed := true, recurses := true, plainKeys := false, apart := false, narrowed := true }
def StateGradesUptoSaid : Prop := stateGradesUptoRow.holds Try.pinned (OpenSpec.upto stateGradesSpec)

/-- 'florlaw2.CardGrades', WHERE WHAT IT READS IS OF BULK AT MOST 1048576: true; the input reads as it did. -/
def cardGradesUptoRow : OpenClaim := { program := "ytokghdcfbbogdaa", sum := "c50cac860f52a2ea1e1c1446d456bfc0a6e7dee14ba542a95bd136594876022c", func := "florilegium/florlaw2.CardGrades", spec := "cardGrades", unfollowed := true, recurses := true, plainKeys := false, apart := false, narrowed := true }
def CardGradesUptoSaid : Prop := cardGradesUptoRow.holds Try.pinned (OpenSpec.upto cardGradesSpec)

/-- 'florlaw2.CardAsks', WHERE WHAT IT READS IS OF BULK AT MOST 1048576: true; the input reads as it did. -/
def cardAsksUptoRow : OpenClaim := { program := "ytokghdcfbbogdaa", sum := "c50cac860f52a2ea1e1c1446d456bfc0a6e7dee14ba542a95bd136594876022c", func := "florilegium/florlaw2.CardAsks", spec := "cardAsks", unfollowed := true, recurses := true, plainKeys := false, apart := false, narrowed := true }
def CardAsksUptoSaid : Prop := cardAsksUptoRow.holds Try.pinned (OpenSpec.upto cardAsksSpec)

/-- 'florlaw2.CardCounts', WHERE WHAT IT READS IS OF BULK AT MOST 1048576: true; the input reads as it did. -/
def cardCountsUptoRow : OpenClaim := { program := "ytokghdcfbbogdaa", sum := "c50cac860f52a2ea1e1c1446d456bfc0a6e7dee14ba542a95bd136594876022c", func := "florilegium/florlaw2.CardCounts", spec := "cardCounts", unfollowed := true, recurses := true, plainKeys := false, apart := false, narrowed := true }
def CardCountsUptoSaid : Prop := cardCountsUptoRow.holds Try.pinned (OpenSpec.upto cardCountsSpec)

/-- 'florlaw2.CardSimulates', WHERE WHAT IT READS IS OF BULK AT MOST 1048576: true; the input reads as it did. -/
def cardSimulatesUptoRow : OpenClaim := { program := "ytokghdcfbbogdaa", sum := "c50cac860f52a2ea1e1c1446d456bfc0a6e7dee14ba542a95bd136594876022c", func := "florilegium/florlaw2.CardSimulates", spec := "cardSimulates", unfollowed := true, recurses := true, plainKeys := false, apart := false, narrowed := true }
def CardSimulatesUptoSaid : Prop := cardSimulatesUptoRow.holds Try.pinned (OpenSpec.upto cardSimulatesSpec)

/-- 'florlaw2.CardJoins', WHERE WHAT IT READS IS OF BULK AT MOST 1048576: true; the input reads as it did. -/
def cardJoinsUptoRow : OpenClaim := { program := "ytokghdcfbbogdaa", sum := "c50cac860f52a2ea1e1c1446d456bfc0a6e7dee14ba542a95bd136594876022c", func := "florilegium/florlaw2.CardJoins", spec := "cardJoins", unfollowed := true, recurses := true, plainKeys := false, apart := false, narrowed := true }
def CardJoinsUptoSaid : Prop := cardJoinsUptoRow.holds Try.pinned (OpenSpec.upto cardJoinsSpec)

/-- 'flortop.TopCards', WHERE WHAT IT READS IS OF BULK AT MOST 1048576: true; the input reads as it did. -/
def topCardsUptoRow : OpenClaim := { program := "ytokghdcfbbogdaa", sum := "c50cac860f52a2ea1e1c1446d456bfc0a6e7dee14ba542a95bd136594876022c", func := "florilegium/flortop.TopCards", spec := "topCards", plainKeys := false, apart := false, narrowed := true }
def TopCardsUptoSaid : Prop := topCardsUptoRow.holds Try.pinned (OpenSpec.upto topCardsSpec)

/-- 'florlaw2.CardKeeps', WHERE WHAT IT READS IS OF BULK AT MOST 1048576: true; the input reads as it did. -/
def cardKeepsUptoRow : OpenClaim := { program := "ytokghdcfbbogdaa", sum := "c50cac860f52a2ea1e1c1446d456bfc0a6e7dee14ba542a95bd136594876022c", func := "florilegium/florlaw2.CardKeeps", spec := "cardKeeps", unfollowed := true, recurses := true, plainKeys := false, apart := false, narrowed := true }
def CardKeepsUptoSaid : Prop := cardKeepsUptoRow.holds Try.pinned (OpenSpec.upto cardKeepsSpec)

/-- 'flortop.TopYear', WHERE WHAT IT READS IS OF BULK AT MOST 1048576: true; the input reads as it did. -/
def topYearUptoRow : OpenClaim := { program := "ytokghdcfbbogdaa", sum := "c50cac860f52a2ea1e1c1446d456bfc0a6e7dee14ba542a95bd136594876022c", func := "florilegium/flortop.TopYear", spec := "topYear", unfollowed := true, recurses := true, plainKeys := false, apart := false, narrowed := true }
def TopYearUptoSaid : Prop := topYearUptoRow.holds Try.pinned (OpenSpec.upto topYearSpec)

end Rows
end Go.Proofs.Ytokghdcfbbogdaa
