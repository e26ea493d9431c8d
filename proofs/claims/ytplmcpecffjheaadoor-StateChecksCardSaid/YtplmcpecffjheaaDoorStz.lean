/-
  PROVED: the tied card of StateChecks: for every state StateChecks returns true and turns nothing: StateText, CheckState and New compute what the reference's do. Condition: the listed tables of Go's library read as the card ties them to the program's text.
-/
import Derived.Test.YtplmcpecffjheaaDoorRows
import Derived.Test.YtplmcpecffjheaaDoorCards
import Derived.Test.YtplmcpecffjheaaDoorTie
import Derived.Test.YtplmcpecffjheaaDoorStl
import Derived.Test.YtplmcpecffjheaaDoorStn
import Derived.Test.YtplmcpecffjheaaDoorRowL
import Derived.SevenTiedAt
namespace Go.Proofs.YtplmcpecffjheaaDoor
open Go.ChangeShapes Go.WideShapes Go.ChangeAt Go.Deep Go.RowKit

/-- The door's own heap meets the condition. -/
theorem stateChecks_met (os : Os) (args : Array Value) : laidMetH Tryd.prog Rows.stateChecksRow.laid ((World.doorLaid Tryd.prog 72 os).forCall (fun _ _ => 0) ⟨#[], args, []⟩).memory :=
  laidMetH_of_parts3 (fuel := 8) (laidMet_of_run' 8 (by kernel_rfl) (by kernel_rfl)) (by kernel_rfl) (by kernel_rfl)
theorem tPow : (Tryd.prog.globals[0]?).map (·.type) = some 97 := by kernel_rfl
/-- What the condition gives the walks. -/
theorem powTab_of_laid {W : World} (h : laidMetH Tryd.prog Rows.stateChecksRow.laid W) : PowTab W := by
  rw [MakeChecks.laidMetH_plain _ _ _ (by kernel_rfl)] at h
  exact Lib.tabIs_of_head (rest := []) gPow tPow Tryd.underlying97 Tryd.underlying74 (by kernel_rfl) (by kernel_rfl) h.tail.tail

section
variable {H : Type} {enc : TypeId × Value → H} {w : World} {base : Nat} {spare : Nat → Bool} {held : Bool}
set_option maxRecDepth 100000 in
/-- A state that comes in by value. -/
theorem open_state {v : Value} {d : DataW H} {ps : List MemPlace} {r : Reach} {b0 : Nat} (hv : Value.okWide Tryd.prog w r b0 23 v) (h : DataW.Trod enc Tryd.prog w base spare held 23 v d ps) : ∃ x : St, v = x.val := by
  obtain ⟨cs, rfl, hsz⟩ := okWide_struct Tryd.underlying23 hv
  obtain ⟨fuel, hf⟩ := h
  have hone := open_int_agg Tryd.underlying23 (by kernel_rfl) (by kernel_rfl) (K := 9) rfl (by kernel_rfl) hf hsz
  obtain ⟨l⟩ := cs
  obtain ⟨ns, hl, hns⟩ := hone
  simp only at hl
  subst hl
  match ns, hns with
  | [a0, a1, a2, a3, a4, a5, a6, a7, a8], _ => exact ⟨⟨a0, a1, a2, a3, a4, a5, a6, a7, a8⟩, rfl⟩
end

set_option maxRecDepth 100000 in
theorem stateChecks_lifted (os : Os) (started : os.Started) (H : Type) (enc : TypeId × Value → H) :
    ReturnsInHanded {} Tryd.checked os 3 .any (fun w args => (Rows.stateChecksSpec.pre enc Tryd.prog Tryd.f3 [] false w args ∧ laidMetH Tryd.prog Rows.stateChecksRow.laid w) ∧ sizedMet enc Tryd.prog Tryd.f3 (OpenSpec.ofChange Rows.stateChecksSpec) false w args) (Rows.stateChecksSpec.post enc Tryd.prog Tryd.f3 false true false false) := by
  refine law_lifted_laid Rows.stateChecksRow.laid started (by kernel_rfl) Tryd.func3 rfl (by kernel_rfl) Tryd.underlying4 (fun t ht => ?_) (fun ds hds => ?_)
    (ChangeSpec.witness_shaped (enc := enc) (C := Tryd.checked) (os := os) (X := fun w _ => laidMetH Tryd.prog Rows.stateChecksRow.laid w) false (World.doorLaid Tryd.prog 72 os) #[.agg #[.int .i64 0, .int .i64 0, .int .i64 0, .int .i64 0, .int .i64 0, .int .i64 0, .int .i64 0, .int .i64 0, .int .i64 0]] 8 rfl (World.shaped_of_RefB (by kernel_rfl) (by kernel_rfl)) (by kernel_rfl) (by kernel_rfl) (by kernel_rfl) (stateChecks_met os _)) ?_
  · rw [Tryd.params3] at ht
    simp only [List.mem_cons, List.not_mem_nil, or_false] at ht
    rcases ht with rfl; exact ⟨by kernel_rfl, of_decide_eq_true (by kernel_rfl)⟩
  · rw [Tryd.params3] at hds
    match ds, hds with
    | [d1], _ => rfl
  · intro W b0 args ds p hval hA hlt hsz hL
    rw [Tryd.params3] at hA hval
    obtain ⟨v0, d0, rfl, rfl, h0⟩ := trodAll_one hA
    obtain ⟨x, rfl⟩ := open_state (hval 0 _ v0 rfl rfl) h0
    exact stateChecks_gen x W (powTab_of_laid hL) (checkState_any x) (stateFault_any x) (new_any _ _) (newOf_any _ _)

set_option maxRecDepth 100000 in
theorem stateChecks_holds : Rows.StateChecksSaid :=
  OpenClaim.holds_of_wide 3 Tryd.f3 rfl rfl rfl rfl rfl rfl rfl ⟨rfl, rfl, rfl, rfl, rfl⟩ rfl rfl rfl rfl rfl (by kernel_rfl) Tryd.func3 (by kernel_rfl)
    (of_decide_eq_true (by kernel_rfl)) (by unfold Func.isWrapper; first | (rw [if_pos (by decide +kernel)]; kernel_rfl) | (rw [if_neg (by decide +kernel)]; exact ⟨rfl, rfl⟩))
    (fun os started H enc _ => stateChecks_lifted os started H enc)

theorem stateChecks_card : Rows.StateChecksCardSaid :=
  Claim7.holds_tied_plain_at .later [] [.data, .data, .data] true Rows.stateChecksCard.stood.harness true
    stateChecks_holds (fun _ h => by cases h) (by kernel_rfl) (fun _ h => by cases h) stateChecks_row_tie rfl ⟨rfl, rfl⟩ (by kernel_rfl) rfl
    (fun f fn hf hfn => by
      obtain rfl : f = 3 := Option.some.inj ((show Tryd.prog.funcNamed Rows.stateChecksRow.func = some 3 by kernel_rfl).symm.trans hf) |>.symm
      obtain rfl : fn = Tryd.f3 := (Option.some.inj (Tryd.func3.symm.trans hfn)).symm
      exact ⟨by kernel_rfl, fun j t ht => by
        rw [Tryd.params3] at ht
        have hm : t ∈ [23] := by simpa using Array.mem_of_getElem? ht
        have hall : ([23].all fun u => !Tryd.prog.wantsStandIn u) = true := by kernel_rfl
        exact (show Tryd.prog.wantsStandIn t = false by simpa using List.all_eq_true.1 hall t hm)⟩)
    (by kernel_rfl)

#print axioms stateChecks_card
end Go.Proofs.YtplmcpecffjheaaDoor
