/-
  PROVED: the tied card of RuleChecks: for every rule RuleChecks returns true and turns nothing: CheckRule and RuleText compute what the reference's do. Condition: the listed variables read as the card ties them to the program's text.
-/
import Derived.Test.YtididkdmbpfjnaaDoorRows
import Derived.Test.YtididkdmbpfjnaaDoorCards
import Derived.Test.YtididkdmbpfjnaaDoorTie
import Derived.Test.YtididkdmbpfjnaaDoorRlx
import Derived.Test.YtididkdmbpfjnaaDoorRowL
import Derived.SevenTiedAt
namespace Go.Proofs.YtididkdmbpfjnaaDoor
open Go.ChangeShapes Go.WideShapes Go.ChangeAt Go.RowKit

/-- The door's own heap meets the condition. -/
theorem ruleChecks_met (os : Os) (args : Array Value) : laidMetH Tryd.prog Rows.ruleChecksRow.laid ((World.doorLaid Tryd.prog 44 os).forCall (fun _ _ => 0) ⟨#[], args, []⟩).memory :=
  laidMetH_of_parts3 (fuel := 8) (laidMet_of_run' 8 (by kernel_rfl) (by kernel_rfl)) (by kernel_rfl) (by kernel_rfl)
theorem tPow : (Tryd.prog.globals[3]?).map (·.type) = some 246 := by kernel_rfl
/-- What the condition gives the walks. -/
theorem tabs_of_laid {W : World} (h : laidMetH Tryd.prog Rows.ruleChecksRow.laid W) : PowTab W ∧ (∃ b o c, StrsTab W 1 b o c wdaysL) ∧ (∃ b o c, StrsTab W 0 b o c unitsL) := by
  rw [MakeChecks.laidMetH_plain _ _ _ (by kernel_rfl)] at h
  refine ⟨Lib.tabIs_of_head gPow tPow Tryd.underlying246 Tryd.underlying231 (by kernel_rfl) (by kernel_rfl) h.tail.tail, ?_, ?_⟩
  · exact strsTab_of_head (t := 66) (e := 9) (by kernel_rfl) (by kernel_rfl) Tryd.underlying66 Tryd.underlying9 (by kernel_rfl) (by decide) h.tail.tail.tail
  · exact strsTab_of_head (t := 66) (e := 9) (by kernel_rfl) (by kernel_rfl) Tryd.underlying66 Tryd.underlying9 (by kernel_rfl) (by decide) h.tail.tail.tail.tail

set_option maxRecDepth 100000 in
theorem ruleChecks_lifted (os : Os) (started : os.Started) (H : Type) (enc : TypeId × Value → H) :
    ReturnsInHanded {} Tryd.checked os 3 .any (fun w args => (Rows.ruleChecksSpec.pre enc Tryd.prog Tryd.f3 [] false w args ∧ laidMetH Tryd.prog Rows.ruleChecksRow.laid w) ∧ sizedMet enc Tryd.prog Tryd.f3 (OpenSpec.ofChange Rows.ruleChecksSpec) false w args) (Rows.ruleChecksSpec.post enc Tryd.prog Tryd.f3 false true false false) := by
  refine law_lifted_laid Rows.ruleChecksRow.laid started (by kernel_rfl) Tryd.func3 rfl (by kernel_rfl) Tryd.underlying4 (fun t ht => ?_) (fun ds hds => ?_)
    (ChangeSpec.witness_shaped (enc := enc) (C := Tryd.checked) (os := os) (X := fun w _ => laidMetH Tryd.prog Rows.ruleChecksRow.laid w) false (World.doorLaid Tryd.prog 44 os) #[.agg #[.int .i64 0, .int .i64 0, .int .i64 0, .int .i64 0, .int .i64 0, .slice none 0 0, .slice none 0 0, .int .i64 0, .slice none 0 0]] 8 rfl (World.shaped_of_RefB (by kernel_rfl) (by kernel_rfl)) (by kernel_rfl) (by kernel_rfl) (by kernel_rfl) (ruleChecks_met os _)) ?_
  · rw [Tryd.params3] at ht
    simp only [List.mem_cons, List.not_mem_nil, or_false] at ht
    rcases ht with rfl; exact ⟨by kernel_rfl, of_decide_eq_true (by kernel_rfl)⟩
  · rw [Tryd.params3] at hds
    match ds, hds with
    | [d1], _ => rfl
  · intro W b0 args ds p hval hA hlt hsz hL
    rw [Tryd.params3] at hA hval
    obtain ⟨v0, d0, rfl, rfl, h0⟩ := trodAll_one hA
    obtain ⟨r, hr⟩ := open_rule (hval 0 _ v0 rfl rfl) h0
    obtain ⟨hp, ⟨bs, os', cs, hS⟩, ⟨bu, ou, cu, hU⟩⟩ := tabs_of_laid hL
    exact ruleChecks_any r v0 W hr hp bu ou cu bs os' cs hU hS

set_option maxRecDepth 100000 in
theorem ruleChecks_holds : Rows.RuleChecksSaid :=
  OpenClaim.holds_of_wide 3 Tryd.f3 rfl rfl rfl rfl rfl rfl rfl ⟨rfl, rfl, rfl, rfl, rfl⟩ rfl rfl rfl rfl rfl (by kernel_rfl) Tryd.func3 (by kernel_rfl)
    (of_decide_eq_true (by kernel_rfl)) (by unfold Func.isWrapper; first | (rw [if_pos (by decide +kernel)]; kernel_rfl) | (rw [if_neg (by decide +kernel)]; exact ⟨rfl, rfl⟩))
    (fun os started H enc _ => ruleChecks_lifted os started H enc)

theorem ruleChecks_card : Rows.RuleChecksCardSaid :=
  Claim7.holds_tied_plain_at .later [] [.data, .data, .data, .widerDeep, .widerDeep] true Rows.ruleChecksCard.stood.harness true
    ruleChecks_holds (fun _ h => by cases h) (by kernel_rfl) (fun _ h => by cases h) ruleChecks_row_tie rfl ⟨rfl, rfl⟩ (by kernel_rfl) rfl
    (fun f fn hf hfn => by
      obtain rfl : f = 3 := Option.some.inj ((show Tryd.prog.funcNamed Rows.ruleChecksRow.func = some 3 by kernel_rfl).symm.trans hf) |>.symm
      obtain rfl : fn = Tryd.f3 := (Option.some.inj (Tryd.func3.symm.trans hfn)).symm
      exact ⟨by kernel_rfl, fun j t ht => by
        rw [Tryd.params3] at ht
        have hm : t ∈ [24] := by simpa using Array.mem_of_getElem? ht
        have hall : ([24].all fun u => !Tryd.prog.wantsStandIn u) = true := by kernel_rfl
        exact (show Tryd.prog.wantsStandIn t = false by simpa using List.all_eq_true.1 hall t hm)⟩)
    (by kernel_rfl)

#print axioms ruleChecks_card
end Go.Proofs.YtididkdmbpfjnaaDoor
