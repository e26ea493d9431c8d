/-
  NARROWER THAN 'FOR EVERY INPUT', by the rows' own cells (each row's printed sentence says how): ValueCompares: loops.
  DERIVED. THE GIVEN ROWS OF THIS SEAT. 8 by the template 'for every input the law returns true; each argument reads behind the call as it read before'; 0 by the template 'total and deterministic' (their statements: YtfklaahakibljaaTotals.lean).
  GIVEN WITH THE SEED: the statements are not yours to turn. If you find one false, say at which input.
  Laid BY PROGRAM, IN A SANDBOX (cutbox-rows.mjs): the forced cells as the released guide's own fill.sh prints them over the translation 10343d2826e2a496… (all of the seat's roots in one cut). By AI agents, Wed Nov 11 2026. No macro, syntax, notation, axiom, sorry.
-/
import Derived.Test.YtfklaahakibljaaChecked
import GoSem.Claim
import GoSem.ClaimJoined
import GoSem.ClaimMapViews
import Derived.JoinedTies
import Derived.KernelRfl
namespace Go.Proofs.Ytfklaahakibljaa
/- THE CELL 'sum', in the pinned program and in every row, IS THE sha256 OF THE DUMP (.gsa) THAT YtfklaahakibljaaProg.lean LOADS. Nothing in Lean hashes anything: it is a label: what it is worth is what the hold of that sum in a sandbox is worth. -/
noncomputable def Try.pinned : Pinned := { name := "ytfklaahakibljaa", sum := "10343d2826e2a49669a25ddb5d99ac875e15be4ba4a5b3f53340362249e11457", checked := Try.checked }
namespace Rows
def none {H : Type} : Left H := { results := [], args := [] }

/-- 'florlaw2.ValueCompares': WHATEVER THE INPUT: true; the input reads as it did. -/
def valueComparesSpec : ChangeSpec := { name := "valueCompares", fn := fun _ => fun
  | [d1, d2, d3] => { results := [.lit (.bool true)], args := [d1, d2, d3] }
  | _ => none }
def valueComparesRow : OpenClaim := { program := "ytfklaahakibljaa", sum := "10343d2826e2a49669a25ddb5d99ac875e15be4ba4a5b3f53340362249e11457", func := "florilegium/florlaw2.ValueCompares", spec := "valueCompares", inPlace := ["internal/bytealg.abigen_runtime_cmpstring"], unfollowed := true, recurses := true, loops := true, apart := false }
def ValueComparesSaid : Prop := valueComparesRow.holds Try.pinned (OpenSpec.ofChange valueComparesSpec)

/-- ITS FALSE NEIGHBOUR: 'it returns false'. Refute it at one input. -/
def valueComparesWrong : ChangeSpec := { name := "valueCompares", fn := fun _ => fun
  | [d1, d2, d3] => { results := [.lit (.bool false)], args := [d1, d2, d3] }
  | _ => none }
def ValueComparesWrongFalsely : Prop := valueComparesRow.holds Try.pinned (OpenSpec.ofChange valueComparesWrong)

/-- 'florlaw2.FindWords': WHATEVER THE INPUT: true; the input reads as it did. -/
def findWordsSpec : ChangeSpec := { name := "findWords", fn := fun _ => fun
  | [d1, d2, d3] => { results := [.lit (.bool true)], args := [d1, d2, d3] }
  | _ => none }
def findWordsRow : OpenClaim := { program := "ytfklaahakibljaa", sum := "10343d2826e2a49669a25ddb5d99ac875e15be4ba4a5b3f53340362249e11457", func := "florilegium/florlaw2.FindWords", spec := "findWords", unfollowed := true, recurses := true, apart := false }
def FindWordsSaid : Prop := findWordsRow.holds Try.pinned (OpenSpec.ofChange findWordsSpec)

/-- ITS FALSE NEIGHBOUR: 'it returns false'. Refute it at one input. -/
def findWordsWrong : ChangeSpec := { name := "findWords", fn := fun _ => fun
  | [d1, d2, d3] => { results := [.lit (.bool false)], args := [d1, d2, d3] }
  | _ => none }
def FindWordsWrongFalsely : Prop := findWordsRow.holds Try.pinned (OpenSpec.ofChange findWordsWrong)

/-- 'florlaw2.QueryReads': WHATEVER THE INPUT: true; the input reads as it did. -/
def queryReadsSpec : ChangeSpec := { name := "queryReads", fn := fun _ => fun
  | [d] => { results := [.lit (.bool true)], args := [d] }
  | _ => none }
def queryReadsRow : OpenClaim := { program := "ytfklaahakibljaa", sum := "10343d2826e2a49669a25ddb5d99ac875e15be4ba4a5b3f53340362249e11457", func := "florilegium/florlaw2.QueryReads", spec := "queryReads", inPlace := ["internal/bytealg.IndexByteString"], unfollowed := true, recurses := true, apart := false }
def QueryReadsSaid : Prop := queryReadsRow.holds Try.pinned (OpenSpec.ofChange queryReadsSpec)

/-- ITS FALSE NEIGHBOUR: 'it returns false'. Refute it at one input. -/
def queryReadsWrong : ChangeSpec := { name := "queryReads", fn := fun _ => fun
  | [d] => { results := [.lit (.bool false)], args := [d] }
  | _ => none }
def QueryReadsWrongFalsely : Prop := queryReadsRow.holds Try.pinned (OpenSpec.ofChange queryReadsWrong)

/-- 'florlaw2.DayGrids': WHATEVER THE INPUT: true; the input reads as it did. -/
def dayGridsSpec : ChangeSpec := { name := "dayGrids", fn := fun _ => fun
  | [d1, d2, d3, d4] => { results := [.lit (.bool true)], args := [d1, d2, d3, d4] }
  | _ => none }
def dayGridsRow : OpenClaim := { program := "ytfklaahakibljaa", sum := "10343d2826e2a49669a25ddb5d99ac875e15be4ba4a5b3f53340362249e11457", func := "florilegium/florlaw2.DayGrids", spec := "dayGrids", unfollowed := true, recurses := true, apart := false }
def DayGridsSaid : Prop := dayGridsRow.holds Try.pinned (OpenSpec.ofChange dayGridsSpec)

/-- ITS FALSE NEIGHBOUR: 'it returns false'. Refute it at one input. -/
def dayGridsWrong : ChangeSpec := { name := "dayGrids", fn := fun _ => fun
  | [d1, d2, d3, d4] => { results := [.lit (.bool false)], args := [d1, d2, d3, d4] }
  | _ => none }
def DayGridsWrongFalsely : Prop := dayGridsRow.holds Try.pinned (OpenSpec.ofChange dayGridsWrong)

/-- 'florlaw2.FindSnippets': WHATEVER THE INPUT: true; the input reads as it did. -/
def findSnippetsSpec : ChangeSpec := { name := "findSnippets", fn := fun _ => fun
  | [d1, d2, d3] => { results := [.lit (.bool true)], args := [d1, d2, d3] }
  | _ => none }
def findSnippetsRow : OpenClaim := { program := "ytfklaahakibljaa", sum := "10343d2826e2a49669a25ddb5d99ac875e15be4ba4a5b3f53340362249e11457", func := "florilegium/florlaw2.FindSnippets", spec := "findSnippets", inPlace := ["internal/abi.NoEscape", "internal/bytealg.MakeNoZero"], unfollowed := true, recurses := true, apart := false }
def FindSnippetsSaid : Prop := findSnippetsRow.holds Try.pinned (OpenSpec.ofChange findSnippetsSpec)

/-- ITS FALSE NEIGHBOUR: 'it returns false'. Refute it at one input. -/
def findSnippetsWrong : ChangeSpec := { name := "findSnippets", fn := fun _ => fun
  | [d1, d2, d3] => { results := [.lit (.bool false)], args := [d1, d2, d3] }
  | _ => none }
def FindSnippetsWrongFalsely : Prop := findSnippetsRow.holds Try.pinned (OpenSpec.ofChange findSnippetsWrong)

/-- 'florlaw2.TemplateChecks': WHATEVER THE INPUT: true; the input reads as it did. -/
def templateChecksSpec : ChangeSpec := { name := "templateChecks", fn := fun _ => fun
  | [d] => { results := [.lit (.bool true)], args := [d] }
  | _ => none }
def templateChecksRow : OpenClaim := { program := "ytfklaahakibljaa", sum := "10343d2826e2a49669a25ddb5d99ac875e15be4ba4a5b3f53340362249e11457", func := "florilegium/florlaw2.TemplateChecks", spec := "templateChecks", inPlace := ["internal/bytealg.IndexByteString", "internal/bytealg.IndexString"], recurses := true, named := ["internal/bytealg.MaxLen"], apart := false }
def TemplateChecksSaid : Prop := templateChecksRow.holds Try.pinned (OpenSpec.ofChange templateChecksSpec)

/-- ITS FALSE NEIGHBOUR: 'it returns false'. Refute it at one input. -/
def templateChecksWrong : ChangeSpec := { name := "templateChecks", fn := fun _ => fun
  | [d] => { results := [.lit (.bool false)], args := [d] }
  | _ => none }
def TemplateChecksWrongFalsely : Prop := templateChecksRow.holds Try.pinned (OpenSpec.ofChange templateChecksWrong)

/-- 'florlaw2.RuleBetween': WHATEVER THE INPUT: true; the input reads as it did. -/
def ruleBetweenSpec : ChangeSpec := { name := "ruleBetween", fn := fun _ => fun
  | [d1, d2, d3] => { results := [.lit (.bool true)], args := [d1, d2, d3] }
  | _ => none }
def ruleBetweenRow : OpenClaim := { program := "ytfklaahakibljaa", sum := "10343d2826e2a49669a25ddb5d99ac875e15be4ba4a5b3f53340362249e11457", func := "florilegium/florlaw2.RuleBetween", spec := "ruleBetween", unfollowed := true, recurses := true, apart := false }
def RuleBetweenSaid : Prop := ruleBetweenRow.holds Try.pinned (OpenSpec.ofChange ruleBetweenSpec)

/-- ITS FALSE NEIGHBOUR: 'it returns false'. Refute it at one input. -/
def ruleBetweenWrong : ChangeSpec := { name := "ruleBetween", fn := fun _ => fun
  | [d1, d2, d3] => { results := [.lit (.bool false)], args := [d1, d2, d3] }
  | _ => none }
def RuleBetweenWrongFalsely : Prop := ruleBetweenRow.holds Try.pinned (OpenSpec.ofChange ruleBetweenWrong)

/-- 'florlaw2.RuleOccurs': WHATEVER THE INPUT: true; the input reads as it did. -/
def ruleOccursSpec : ChangeSpec := { name := "ruleOccurs", fn := fun _ => fun
  | [d1, d2] => { results := [.lit (.bool true)], args := [d1, d2] }
  | _ => none }
def ruleOccursRow : OpenClaim := { program := "ytfklaahakibljaa", sum := "10343d2826e2a49669a25ddb5d99ac875e15be4ba4a5b3f53340362249e11457", func := "florilegium/florlaw2.RuleOccurs", spec := "ruleOccurs", unfollowed := true, recurses := true, apart := false }
def RuleOccursSaid : Prop := ruleOccursRow.holds Try.pinned (OpenSpec.ofChange ruleOccursSpec)

/-- ITS FALSE NEIGHBOUR: 'it returns false'. Refute it at one input. -/
def ruleOccursWrong : ChangeSpec := { name := "ruleOccurs", fn := fun _ => fun
  | [d1, d2] => { results := [.lit (.bool false)], args := [d1, d2] }
  | _ => none }
def RuleOccursWrongFalsely : Prop := ruleOccursRow.holds Try.pinned (OpenSpec.ofChange ruleOccursWrong)

/- THE SECOND FORM. 'bulk': how many values and letters a reading holds, each counted each time it is reached (what is shared counts as often as it is met; a slice's spare places count too). A statement '..UptoSaid' is the law's where the arguments, and the package variables that the reading takes, are together of bulk at most 1048576: NARROWER than '..Said'. Prove '..Said' where nothing that the law and all that it calls make is longer than what came in: it says more and counts as full. Else prove '..UptoSaid'. A law counts once. -/
mutual
def uptoBulk {H : Type} : DataW H → Nat
  | .lit (.string bytes) => bytes.length + 1
  | .lit _ => 1
  | .nil => 1
  | .ptr d => uptoBulk d + 1
  | .slice elems spare => uptoBulkAll elems + uptoBulkAll spare + 1
  | .agg parts => uptoBulkAll parts + 1
  | .iface _ d => uptoBulk d + 1
  | .map entries => uptoBulkEntries entries + 1
  | .held _ => 1
def uptoBulkAll {H : Type} : List (DataW H) → Nat
  | [] => 0
  | d :: r => uptoBulk d + uptoBulkAll r
def uptoBulkEntries {H : Type} : List (Lit × DataW H) → Nat
  | [] => 0
  | x :: r => uptoBulkEntry x + uptoBulkEntries r
def uptoBulkEntry {H : Type} : Lit × DataW H → Nat
  | (.string bytes, d) => bytes.length + uptoBulk d + 1
  | (_, d) => uptoBulk d + 1
 end
def uptoSmall : (H : Type) → List (DataW H) → Bool := fun _ ds => decide (uptoBulkAll ds ≤ 1048576)
def OpenSpec.upto (s : _root_.Go.ChangeSpec) : _root_.Go.OpenSpec := { _root_.Go.OpenSpec.ofChange s with cond := some uptoSmall }

/-- 'florlaw2.ValueCompares', WHERE WHAT IT READS IS OF BULK AT MOST 1048576: true; the input reads as it did. -/
def valueComparesUptoRow : OpenClaim := { program := "ytfklaahakibljaa", sum := "10343d2826e2a49669a25ddb5d99ac875e15be4ba4a5b3f53340362249e11457", func := "florilegium/florlaw2.ValueCompares", spec := "valueCompares", inPlace := ["internal/bytealg.abigen_runtime_cmpstring"], unfollowed := true, recurses := true, loops := true, apart := false, narrowed := true }
def ValueComparesUptoSaid : Prop := valueComparesUptoRow.holds Try.pinned (OpenSpec.upto valueComparesSpec)

/-- 'florlaw2.FindWords', WHERE WHAT IT READS IS OF BULK AT MOST 1048576: true; the input reads as it did. -/
def findWordsUptoRow : OpenClaim := { program := "ytfklaahakibljaa", sum := "10343d2826e2a49669a25ddb5d99ac875e15be4ba4a5b3f53340362249e11457", func := "florilegium/florlaw2.FindWords", spec := "findWords", unfollowed := true, recurses := true, apart := false, narrowed := true }
def FindWordsUptoSaid : Prop := findWordsUptoRow.holds Try.pinned (OpenSpec.upto findWordsSpec)

/-- 'florlaw2.QueryReads', WHERE WHAT IT READS IS OF BULK AT MOST 1048576: true; the input reads as it did. -/
def queryReadsUptoRow : OpenClaim := { program := "ytfklaahakibljaa", sum := "10343d2826e2a49669a25ddb5d99ac875e15be4ba4a5b3f53340362249e11457", func := "florilegium/florlaw2.QueryReads", spec := "queryReads", inPlace := ["internal/bytealg.IndexByteString"], unfollowed := true, recurses := true, apart := false, narrowed := true }
def QueryReadsUptoSaid : Prop := queryReadsUptoRow.holds Try.pinned (OpenSpec.upto queryReadsSpec)

/-- 'florlaw2.DayGrids', WHERE WHAT IT READS IS OF BULK AT MOST 1048576: true; the input reads as it did. -/
def dayGridsUptoRow : OpenClaim := { program := "ytfklaahakibljaa", sum := "10343d2826e2a49669a25ddb5d99ac875e15be4ba4a5b3f53340362249e11457", func := "florilegium/florlaw2.DayGrids", spec := "dayGrids", unfollowed := true, recurses := true, apart := false, narrowed := true }
def DayGridsUptoSaid : Prop := dayGridsUptoRow.holds Try.pinned (OpenSpec.upto dayGridsSpec)

/-- 'florlaw2.FindSnippets', WHERE WHAT IT READS IS OF BULK AT MOST 1048576: true; the input reads as it did. -/
def findSnippetsUptoRow : OpenClaim := { program := "ytfklaahakibljaa", sum := "10343d2826e2a49669a25ddb5d99ac875e15be4ba4a5b3f53340362249e11457", func := "florilegium/florlaw2.FindSnippets", spec := "findSnippets", inPlace := ["internal/abi.NoEscape", "internal/bytealg.MakeNoZero"], unfollowed := true, recurses := true, apart := false, narrowed := true }
def FindSnippetsUptoSaid : Prop := findSnippetsUptoRow.holds Try.pinned (OpenSpec.upto findSnippetsSpec)

/-- 'florlaw2.TemplateChecks', WHERE WHAT IT READS IS OF BULK AT MOST 1048576: true; the input reads as it did. -/
def templateChecksUptoRow : OpenClaim := { program := "ytfklaahakibljaa", sum := "10343d2826e2a49669a25ddb5d99ac875e15be4ba4a5b3f53340362249e11457", func := "florilegium/florlaw2.TemplateChecks", spec := "templateChecks", inPlace := ["internal/bytealg.IndexByteString", "internal/bytealg.IndexString"], recurses := true, named := ["internal/bytealg.MaxLen"], apart := false, narrowed := true }
def TemplateChecksUptoSaid : Prop := templateChecksUptoRow.holds Try.pinned (OpenSpec.upto templateChecksSpec)

/-- 'florlaw2.RuleBetween', WHERE WHAT IT READS IS OF BULK AT MOST 1048576: true; the input reads as it did. -/
def ruleBetweenUptoRow : OpenClaim := { program := "ytfklaahakibljaa", sum := "10343d2826e2a49669a25ddb5d99ac875e15be4ba4a5b3f53340362249e11457", func := "florilegium/florlaw2.RuleBetween", spec := "ruleBetween", unfollowed := true, recurses := true, apart := false, narrowed := true }
def RuleBetweenUptoSaid : Prop := ruleBetweenUptoRow.holds Try.pinned (OpenSpec.upto ruleBetweenSpec)

/-- 'florlaw2.RuleOccurs', WHERE WHAT IT READS IS OF BULK AT MOST 1048576: true; the input reads as it did. -/
def ruleOccursUptoRow : OpenClaim := { program := "ytfklaahakibljaa", sum := "10343d2826e2a49669a25ddb5d99ac875e15be4ba4a5b3f53340362249e11457", func := "florilegium/florlaw2.RuleOccurs", spec := "ruleOccurs", unfollowed := true, recurses := true, apart := false, narrowed := true }
def RuleOccursUptoSaid : Prop := ruleOccursUptoRow.holds Try.pinned (OpenSpec.upto ruleOccursSpec)

end Rows
end Go.Proofs.Ytfklaahakibljaa
