/-
  PROVED: the tied card of PropMerges: for all three lists of properties PropMerges returns true and turns nothing: Merge computes what the reference's does. Condition: the listed variables of Go's library read as the card ties them to the program's text.
-/
import Derived.Test.YtdncmjlakmkfiaaGreatDoorRows
import Derived.Test.YtdncmjlakmkfiaaGreatDoorCards
import Derived.Test.YtdncmjlakmkfiaaGreatDoorTie
import Derived.Test.YtdncmjlakmkfiaaGreatDoorMgq
import Derived.Test.YtdncmjlakmkfiaaGreatDoorOpv
import Derived.Test.YtdncmjlakmkfiaaGreatDoorRowL
import Derived.SevenTiedAt
import Derived.ChangeMaps5
import Derived.Lay
set_option linter.all false
namespace Go.Proofs.YtdncmjlakmkfiaaGreatDoor
open Go.ChangeShapes Go.WideShapes Go.ChangeAt Go.RowKit

/-- A heap that is laid from the row's own data meets the condition. -/
theorem propMerges_met (os : Os) (args : Array Value) : laidMetH Tryz.prog Rows.propMergesRow.laid ((World.laidAll Tryz.prog os Rows.propMergesRow.laid).forCall (fun _ _ => 0) ⟨#[], args, []⟩).memory := by
  rw [MakeChecks.laidMetH_plain _ _ _ (by kernel_rfl)]
  exact laidMet_laidAll _ (by kernel_rfl) (by kernel_rfl)

set_option maxRecDepth 100000 in
theorem propMerges_lifted (os : Os) (started : os.Started) (H : Type) (enc : TypeId × Value → H) :
    ReturnsInHanded {} Tryz.checked os 4 .any (fun w args => (Rows.propMergesSpec.pre enc Tryz.prog Tryz.f4 [] false w args ∧ laidMetH Tryz.prog Rows.propMergesRow.laid w) ∧ sizedMet enc Tryz.prog Tryz.f4 (OpenSpec.ofChange Rows.propMergesSpec) false w args) (Rows.propMergesSpec.post enc Tryz.prog Tryz.f4 false true false false) := by
  refine law_lifted_laid Rows.propMergesRow.laid started (by kernel_rfl) Tryz.func4 rfl (by kernel_rfl) Tryz.underlying4 (fun t ht => ?_) (fun ds hds => ?_)
    (ChangeSpec.witness_shaped (enc := enc) (C := Tryz.checked) (os := os) (X := fun w _ => laidMetH Tryz.prog Rows.propMergesRow.laid w) false (World.laidAll Tryz.prog os Rows.propMergesRow.laid) #[.slice none 0 0, .slice none 0 0, .slice none 0 0] 8 (World.laidAll_os _ _ _) (World.shaped_of_ZipB (by kernel_rfl) (by kernel_rfl)) (by kernel_rfl) (by kernel_rfl) (by kernel_rfl) (propMerges_met os _)) ?_
  · rw [Tryz.params4] at ht
    simp only [List.mem_cons, List.not_mem_nil, or_false] at ht
    rcases ht with rfl | rfl | rfl <;> exact ⟨by kernel_rfl, of_decide_eq_true (by kernel_rfl)⟩
  · rw [Tryz.params4] at hds
    match ds, hds with
    | [d1, d2, d3], _ => rfl
  · intro W b0 args ds p hval hA hlt hsz hL
    rw [Tryz.params4] at hA hval
    obtain ⟨v0, v1, v2, d0, d1, d2, p0, p1, p2, rfl, rfl, rfl, h0, h1, h2⟩ := trodAll_three hA
    obtain ⟨l0, A0, c0, rfl, _, _, _, hP0⟩ := open_props (hval 0 _ v0 rfl rfl) h0
    obtain ⟨l1, A1, c1, rfl, _, _, _, hP1⟩ := open_props (hval 1 _ v1 rfl rfl) h1
    obtain ⟨l2, A2, c2, rfl, _, _, _, hP2⟩ := open_props (hval 2 _ v2 rfl rfl) h2
    exact propMerges_any l0 l1 l2 A0 A1 A2 c0 c1 c2 W hP0 hP1 hP2

set_option maxHeartbeats 6400000 in
set_option maxRecDepth 100000 in
theorem propMerges_holds : Rows.PropMergesSaid :=
  OpenClaim.holds_of_wide 4 Tryz.f4 rfl rfl rfl rfl rfl rfl rfl ⟨rfl, rfl, rfl, rfl, rfl⟩ rfl rfl rfl rfl rfl (by as_aux_lemma => kernel_rfl) Tryz.func4 (by as_aux_lemma => kernel_rfl)
    (of_decide_eq_true (by as_aux_lemma => kernel_rfl)) (by unfold Func.isWrapper; first | (rw [if_pos (by decide +kernel)]; kernel_rfl) | (rw [if_neg (by decide +kernel)]; exact ⟨rfl, rfl⟩))
    (fun os started H enc _ => propMerges_lifted os started H enc)

set_option maxHeartbeats 6400000 in
theorem propMerges_card : Rows.PropMergesCardSaid :=
  Claim7.holds_tied_plain_at .later [] [.data, .pinned] true Rows.propMergesCard.stood.harness true
    propMerges_holds (fun _ h => by cases h) (by as_aux_lemma => kernel_rfl) (fun _ h => by cases h) propMerges_row_tie rfl ⟨rfl, rfl⟩ (by as_aux_lemma => kernel_rfl) rfl
    (fun f fn hf hfn => by
      obtain rfl : f = 4 := Option.some.inj ((show Tryz.prog.funcNamed Rows.propMergesRow.func = some 4 by as_aux_lemma => kernel_rfl).symm.trans hf) |>.symm
      obtain rfl : fn = Tryz.f4 := (Option.some.inj (Tryz.func4.symm.trans hfn)).symm
      exact ⟨by as_aux_lemma => kernel_rfl, fun j t ht => by
        rw [Tryz.params4] at ht
        have hm : t ∈ [30] := by simpa using Array.mem_of_getElem? ht
        have hall : ([30].all fun u => !Tryz.prog.wantsStandIn u) = true := by as_aux_lemma => kernel_rfl
        exact (show Tryz.prog.wantsStandIn t = false by simpa using List.all_eq_true.1 hall t hm)⟩)
    (by as_aux_lemma => kernel_rfl)

#print axioms propMerges_card
end Go.Proofs.YtdncmjlakmkfiaaGreatDoor
