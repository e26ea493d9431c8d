/-
  No cell of these rows narrows 'for every input' (looked for: loops, veiled, ifaces, maps, wideKeys, modest, calm, conditions, laid).
  DERIVED. THE GIVEN ROWS OF THIS SEAT. 3 by the template 'for every input the law returns true; each argument reads behind the call as it read before'; 0 by the template 'total and deterministic' (their statements: YtpbkidjbbhkjnaaTotals.lean).
  GIVEN WITH THE SEED: the statements are not yours to turn. If you find one false, say at which input.
  Laid BY PROGRAM, IN A SANDBOX (cutbox-rows.mjs): the forced cells as the released guide's own fill.sh prints them over the translation b46241485211c169… (all of the seat's roots in one cut). By AI agents, Wed Nov 11 2026. No macro, syntax, notation, axiom, sorry.
-/
import Derived.Test.YtpbkidjbbhkjnaaChecked
import GoSem.Claim
import GoSem.ClaimJoined
import GoSem.ClaimMapViews
import Derived.JoinedTies
import Derived.KernelRfl
namespace Go.Proofs.Ytpbkidjbbhkjnaa
/- THE CELL 'sum', in the pinned program and in every row, IS THE sha256 OF THE DUMP (.gsa) THAT YtpbkidjbbhkjnaaProg.lean LOADS. Nothing in Lean hashes anything: it is a label: what it is worth is what the hold of that sum in a sandbox is worth. -/
noncomputable def Try.pinned : Pinned := { name := "ytpbkidjbbhkjnaa", sum := "b46241485211c1695872107784647d0deae58b6d91eab77769167958f2613635", checked := Try.checked }
namespace Rows
def none {H : Type} : Left H := { results := [], args := [] }

/-- 'florlaw2.TemplateChecks': WHATEVER THE INPUT: true; the input reads as it did. -/
def templateChecksSpec : ChangeSpec := { name := "templateChecks", fn := fun _ => fun
  | [d] => { results := [.lit (.bool true)], args := [d] }
  | _ => none }
def templateChecksRow : OpenClaim := { program := "ytpbkidjbbhkjnaa", sum := "b46241485211c1695872107784647d0deae58b6d91eab77769167958f2613635", func := "florilegium/florlaw2.TemplateChecks", spec := "templateChecks", inPlace := ["internal/bytealg.IndexByteString", "internal/bytealg.IndexString"], recurses := true, named := ["internal/bytealg.MaxLen"], apart := false }
def TemplateChecksSaid : Prop := templateChecksRow.holds Try.pinned (OpenSpec.ofChange templateChecksSpec)

/-- ITS FALSE NEIGHBOUR: 'it returns false'. Refute it at one input. -/
def templateChecksWrong : ChangeSpec := { name := "templateChecks", fn := fun _ => fun
  | [d] => { results := [.lit (.bool false)], args := [d] }
  | _ => none }
def TemplateChecksWrongFalsely : Prop := templateChecksRow.holds Try.pinned (OpenSpec.ofChange templateChecksWrong)

/-- 'florlaw2.RuleBetween': WHATEVER THE INPUT: true; the input reads as it did. -/
def ruleBetweenSpec : ChangeSpec := { name := "ruleBetween", fn := fun _ => fun
  | [d1, d2, d3] => { results := [.lit (.bool true)], args := [d1, d2, d3] }
  | _ => none }
def ruleBetweenRow : OpenClaim := { program := "ytpbkidjbbhkjnaa", sum := "b46241485211c1695872107784647d0deae58b6d91eab77769167958f2613635", func := "florilegium/florlaw2.RuleBetween", spec := "ruleBetween", unfollowed := true, recurses := true, apart := false }
def RuleBetweenSaid : Prop := ruleBetweenRow.holds Try.pinned (OpenSpec.ofChange ruleBetweenSpec)

/-- ITS FALSE NEIGHBOUR: 'it returns false'. Refute it at one input. -/
def ruleBetweenWrong : ChangeSpec := { name := "ruleBetween", fn := fun _ => fun
  | [d1, d2, d3] => { results := [.lit (.bool false)], args := [d1, d2, d3] }
  | _ => none }
def RuleBetweenWrongFalsely : Prop := ruleBetweenRow.holds Try.pinned (OpenSpec.ofChange ruleBetweenWrong)

/-- 'florlaw2.RuleOccurs': WHATEVER THE INPUT: true; the input reads as it did. -/
def ruleOccursSpec : ChangeSpec := { name := "ruleOccurs", fn := fun _ => fun
  | [d1, d2] => { results := [.lit (.bool true)], args := [d1, d2] }
  | _ => none }
def ruleOccursRow : OpenClaim := { program := "ytpbkidjbbhkjnaa", sum := "b46241485211c1695872107784647d0deae58b6d91eab77769167958f2613635", func := "florilegium/florlaw2.RuleOccurs", spec := "ruleOccurs", unfollowed := true, recurses := true, apart := false }
def RuleOccursSaid : Prop := ruleOccursRow.holds Try.pinned (OpenSpec.ofChange ruleOccursSpec)

/-- ITS FALSE NEIGHBOUR: 'it returns false'. Refute it at one input. -/
def ruleOccursWrong : ChangeSpec := { name := "ruleOccurs", fn := fun _ => fun
  | [d1, d2] => { results := [.lit (.bool false)], args := [d1, d2] }
  | _ => none }
def RuleOccursWrongFalsely : Prop := ruleOccursRow.holds Try.pinned (OpenSpec.ofChange ruleOccursWrong)

/- THE SECOND FORM. 'bulk': how many values and letters a reading holds, each counted each time it is reached (what is shared counts as often as it is met; a slice's spare places count too). A statement '..UptoSaid' is the law's where the arguments, and the package variables that the reading takes, are together of bulk at most 1048576: NARROWER than '..Said'. Prove '..Said' where nothing that the law and all that it calls make is longer than what came in: it says more and counts as full. Else prove '..UptoSaid'. A law counts once. -/
mutual
def uptoBulk {H : Type} : DataW H → Nat
  | .lit (.string bytes) => bytes.length + 1
  | .lit _ => 1
  | .nil => 1
  | .ptr d => uptoBulk d + 1
  | .slice elems spare => uptoBulkAll elems + uptoBulkAll spare + 1
  | .agg parts => uptoBulkAll parts + 1
  | .iface _ d => uptoBulk d + 1
  | .map entries => uptoBulkEntries entries + 1
  | .held _ => 1
def uptoBulkAll {H : Type} : List (DataW H) → Nat
  | [] => 0
  | d :: r => uptoBulk d + uptoBulkAll r
def uptoBulkEntries {H : Type} : List (Lit × DataW H) → Nat
  | [] => 0
  | x :: r => uptoBulkEntry x + uptoBulkEntries r
def uptoBulkEntry {H : Type} : Lit × DataW H → Nat
  | (.string bytes, d) => bytes.length + uptoBulk d + 1
  | (_, d) => uptoBulk d + 1
 end
def uptoSmall : (H : Type) → List (DataW H) → Bool := fun _ ds => decide (uptoBulkAll ds ≤ 1048576)
def OpenSpec.upto (s : _root_.Go.ChangeSpec) : _root_.Go.OpenSpec := { _root_.Go.OpenSpec.ofChange s with cond := some uptoSmall }

/-- 'florlaw2.TemplateChecks', WHERE WHAT IT READS IS OF BULK AT MOST 1048576: true; the input reads as it did. -/
def templateChecksUptoRow : OpenClaim := { program := "ytpbkidjbbhkjnaa", sum := "b46241485211c1695872107784647d0deae58b6d91eab77769167958f2613635", func := "florilegium/florlaw2.TemplateChecks", spec := "templateChecks", inPlace := ["internal/bytealg.IndexByteString", "internal/bytealg.IndexString"], recurses := true, named := ["internal/bytealg.MaxLen"], apart := false, narrowed := true }
def TemplateChecksUptoSaid : Prop := templateChecksUptoRow.holds Try.pinned (OpenSpec.upto templateChecksSpec)

/-- 'florlaw2.RuleBetween', WHERE WHAT IT READS IS OF BULK AT MOST 1048576: true; the input reads as it did. -/
def ruleBetweenUptoRow : OpenClaim := { program := "ytpbkidjbbhkjnaa", sum := "b46241485211c1695872107784647d0deae58b6d91eab77769167958f2613635", func := "florilegium/florlaw2.RuleBetween", spec := "ruleBetween", unfollowed := true, recurses := true, apart := false, narrowed := true }
def RuleBetweenUptoSaid : Prop := ruleBetweenUptoRow.holds Try.pinned (OpenSpec.upto ruleBetweenSpec)

/-- 'florlaw2.RuleOccurs', WHERE WHAT IT READS IS OF BULK AT MOST 1048576: true; the input reads as it did. -/
def ruleOccursUptoRow : OpenClaim := { program := "ytpbkidjbbhkjnaa", sum := "b46241485211c1695872107784647d0deae58b6d91eab77769167958f2613635", func := "florilegium/florlaw2.RuleOccurs", spec := "ruleOccurs", unfollowed := true, recurses := true, apart := false, narrowed := true }
def RuleOccursUptoSaid : Prop := ruleOccursUptoRow.holds Try.pinned (OpenSpec.upto ruleOccursSpec)

end Rows
end Go.Proofs.Ytpbkidjbbhkjnaa
