/-
  PROVED: the tied card of ValueReads: for every string ValueReads returns true and turns nothing: Read computes what the reference's does. Condition: the listed variables of Go's library read as the card ties them to the program's text.
-/
import Derived.Test.YtdncmjlakmkfiaaGreatDoorRows
import Derived.Test.YtdncmjlakmkfiaaGreatDoorCards
import Derived.Test.YtdncmjlakmkfiaaGreatDoorTie
import Derived.Test.YtdncmjlakmkfiaaGreatDoorVxk
import Derived.Test.YtdncmjlakmkfiaaGreatDoorRowS
import Derived.SevenTiedAt
import Derived.Lib.LaidTab
import Derived.ChangeMaps5
import Derived.Lay
set_option linter.all false
namespace Go.Proofs.YtdncmjlakmkfiaaGreatDoor
open Go.ChangeShapes Go.WideShapes Go.ChangeAt Go.RowKit Go.Deep
open Go.ChangeMaps (open_string)

/-- A heap that is laid from the row's own data meets the condition. -/
theorem valueReads_met (os : Os) (args : Array Value) : laidMetH Tryz.prog Rows.valueReadsRow.laid ((World.laidAll Tryz.prog os Rows.valueReadsRow.laid).forCall (fun _ _ => 0) ⟨#[], args, []⟩).memory := by
  rw [MakeChecks.laidMetH_plain _ _ _ (by kernel_rfl)]
  exact laidMet_laidAll _ (by kernel_rfl) (by kernel_rfl)

theorem tPow : (Tryz.prog.globals[5]?).map (·.type) = some 270 := by kernel_rfl

/-- What the condition gives the walks. -/
theorem powTab_of_laid {W : World} (h : laidMetH Tryz.prog Rows.valueReadsRow.laid W) : PowTab W := by
  rw [MakeChecks.laidMetH_plain _ _ _ (by kernel_rfl)] at h
  exact Lib.tabIs_of_head gPow tPow Tryz.underlying270 Tryz.underlying187 (by kernel_rfl) (by kernel_rfl) h.tail.tail

set_option maxRecDepth 100000 in
theorem valueReads_lifted (os : Os) (started : os.Started) (H : Type) (enc : TypeId × Value → H) :
    ReturnsInHanded {} Tryz.checked os 3 .any (fun w args => (Rows.valueReadsSpec.pre enc Tryz.prog Tryz.f3 [] false w args ∧ laidMetH Tryz.prog Rows.valueReadsRow.laid w) ∧ sizedMet enc Tryz.prog Tryz.f3 (OpenSpec.ofChange Rows.valueReadsSpec) false w args) (Rows.valueReadsSpec.post enc Tryz.prog Tryz.f3 false true false false) := by
  refine law_lifted_shaped Rows.valueReadsRow.laid started (by kernel_rfl) Tryz.func3 rfl (by kernel_rfl) Tryz.underlying4 (fun t ht => ?_) (fun ds hds => ?_)
    (ChangeSpec.witness_shaped (enc := enc) (C := Tryz.checked) (os := os) (X := fun w _ => laidMetH Tryz.prog Rows.valueReadsRow.laid w) false (World.laidAll Tryz.prog os Rows.valueReadsRow.laid) #[.string .empty] 8 (World.laidAll_os _ _ _) (World.shaped_of_ZipB (by kernel_rfl) (by kernel_rfl)) (by kernel_rfl) (by kernel_rfl) (by kernel_rfl) (valueReads_met os _)) ?_
  · rw [Tryz.params3] at ht
    simp only [List.mem_cons, List.not_mem_nil, or_false] at ht
    rcases ht with rfl; exact ⟨by kernel_rfl, of_decide_eq_true (by kernel_rfl)⟩
  · rw [Tryz.params3] at hds
    match ds, hds with
    | [d1], _ => rfl
  · intro W b0 args ds p hval hA hlt hsz hL hsh
    rw [Tryz.params3] at hA hval
    obtain ⟨v0, d0, rfl, rfl, h0⟩ := trodAll_one hA
    obtain ⟨s, rfl, rfl, rfl, ws⟩ := open_string Tryz.underlying9 (hval 0 _ v0 rfl rfl) h0
    exact valueReads_any s W (powTab_of_laid hL) (maxTold_shaped hsh)

set_option maxHeartbeats 6400000 in
set_option maxRecDepth 100000 in
theorem valueReads_holds : Rows.ValueReadsSaid :=
  OpenClaim.holds_of_wide 3 Tryz.f3 rfl rfl rfl rfl rfl rfl rfl ⟨rfl, rfl, rfl, rfl, rfl⟩ rfl rfl rfl rfl rfl (by as_aux_lemma => kernel_rfl) Tryz.func3 (by as_aux_lemma => kernel_rfl)
    (of_decide_eq_true (by as_aux_lemma => kernel_rfl)) (by unfold Func.isWrapper; first | (rw [if_pos (by decide +kernel)]; kernel_rfl) | (rw [if_neg (by decide +kernel)]; exact ⟨rfl, rfl⟩))
    (fun os started H enc _ => valueReads_lifted os started H enc)

set_option maxHeartbeats 6400000 in
theorem valueReads_card : Rows.ValueReadsCardSaid :=
  Claim7.holds_tied_plain_at .later [] [.data, .data, .data, .data, .sentinel, .sentinel, .pinned] true Rows.valueReadsCard.stood.harness true
    valueReads_holds (fun _ h => by cases h) (by as_aux_lemma => kernel_rfl) (fun _ h => by cases h) valueReads_row_tie rfl ⟨rfl, rfl⟩ (by as_aux_lemma => kernel_rfl) rfl
    (fun f fn hf hfn => by
      obtain rfl : f = 3 := Option.some.inj ((show Tryz.prog.funcNamed Rows.valueReadsRow.func = some 3 by as_aux_lemma => kernel_rfl).symm.trans hf) |>.symm
      obtain rfl : fn = Tryz.f3 := (Option.some.inj (Tryz.func3.symm.trans hfn)).symm
      exact ⟨by as_aux_lemma => kernel_rfl, fun j t ht => by
        rw [Tryz.params3] at ht
        have hm : t ∈ [9] := by simpa using Array.mem_of_getElem? ht
        have hall : ([9].all fun u => !Tryz.prog.wantsStandIn u) = true := by as_aux_lemma => kernel_rfl
        exact (show Tryz.prog.wantsStandIn t = false by simpa using List.all_eq_true.1 hall t hm)⟩)
    (by as_aux_lemma => kernel_rfl)

#print axioms valueReads_card
end Go.Proofs.YtdncmjlakmkfiaaGreatDoor
