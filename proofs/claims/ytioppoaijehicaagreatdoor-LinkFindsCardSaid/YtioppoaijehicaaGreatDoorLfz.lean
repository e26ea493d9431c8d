/-
  PROVED: the tied card of LinkFinds: for every base and page LinkFinds returns true and turns nothing: Links, Back, Refs and Broken compute what the references do. Condition: the listed variables of Go's library read as the card ties them to the program's text.
-/
import Derived.Test.YtioppoaijehicaaGreatDoorRows
import Derived.Test.YtioppoaijehicaaGreatDoorCards
import Derived.Test.YtioppoaijehicaaGreatDoorTie
import Derived.Test.YtioppoaijehicaaGreatDoorLfk
import Derived.Test.YtioppoaijehicaaGreatDoorCdk
import Derived.Test.YtioppoaijehicaaGreatDoorRowS
import Derived.SevenTiedAt
import Derived.Lib.LaidTab
import Derived.ChangeMaps5
import Derived.Lay
set_option linter.all false
namespace Go.Proofs.YtioppoaijehicaaGreatDoor
open Go.ChangeShapes Go.WideShapes Go.ChangeAt Go.RowKit Go.Deep
open Go.ChangeMaps (open_string)

/-- A heap that is laid from the row's own data meets the condition. -/
theorem linkFinds_met (os : Os) (args : Array Value) : laidMetH Tryz.prog Rows.linkFindsRow.laid ((World.laidAll Tryz.prog os Rows.linkFindsRow.laid).forCall (fun _ _ => 0) ⟨#[], args, []⟩).memory := by
  rw [MakeChecks.laidMetH_plain _ _ _ (by kernel_rfl)]
  exact laidMet_laidAll _ (by kernel_rfl) (by kernel_rfl)

set_option maxRecDepth 100000 in
theorem linkFinds_lifted (os : Os) (started : os.Started) (H : Type) (enc : TypeId × Value → H) :
    ReturnsInHanded {} Tryz.checked os 4 .any (fun w args => (Rows.linkFindsSpec.pre enc Tryz.prog Tryz.f4 [] false w args ∧ laidMetH Tryz.prog Rows.linkFindsRow.laid w) ∧ sizedMet enc Tryz.prog Tryz.f4 (OpenSpec.ofChange Rows.linkFindsSpec) false w args) (Rows.linkFindsSpec.post enc Tryz.prog Tryz.f4 false true false false) := by
  refine law_lifted_shaped Rows.linkFindsRow.laid started (by kernel_rfl) Tryz.func4 rfl (by kernel_rfl) Tryz.underlying4 (fun t ht => ?_) (fun ds hds => ?_)
    (ChangeSpec.witness_shaped (enc := enc) (C := Tryz.checked) (os := os) (X := fun w _ => laidMetH Tryz.prog Rows.linkFindsRow.laid w) false (World.laidAll Tryz.prog os Rows.linkFindsRow.laid) #[.slice none 0 0, .int .i64 0] 8 (World.laidAll_os _ _ _) (World.shaped_of_ZipB (by kernel_rfl) (by kernel_rfl)) (by kernel_rfl) (by kernel_rfl) (by kernel_rfl) (linkFinds_met os _)) ?_
  · rw [Tryz.params4] at ht
    simp only [List.mem_cons, List.not_mem_nil, or_false] at ht
    rcases ht with rfl | rfl <;> exact ⟨by kernel_rfl, of_decide_eq_true (by kernel_rfl)⟩
  · rw [Tryz.params4] at hds
    match ds, hds with
    | [d0, d1], _ => rfl
  · intro W b0 args ds p hval hA hlt hsz hL hsh
    rw [Tryz.params4] at hA hval
    obtain ⟨v0, v1, d0, d1, p0, p1, rfl, rfl, rfl, h0, h1⟩ := trodAll_two hA
    obtain ⟨l0, A0, c0, rfl, hc0, hB0, h640⟩ := open_blocks (hval 0 _ v0 rfl rfl) h0
    obtain ⟨k1, rfl, rfl, rfl, wk1⟩ := open_int Tryz.underlying3 (hval 1 _ v1 rfl rfl) h1
    exact linkFinds_any l0 A0 c0 k1 W hB0 h640 hc0 (maxTold_shaped hsh) (in64_wf wk1)

set_option maxHeartbeats 6400000 in
set_option maxRecDepth 100000 in
theorem linkFinds_holds : Rows.LinkFindsSaid :=
  OpenClaim.holds_of_wide 4 Tryz.f4 rfl rfl rfl rfl rfl rfl rfl ⟨rfl, rfl, rfl, rfl, rfl⟩ rfl rfl rfl rfl rfl (by as_aux_lemma => kernel_rfl) Tryz.func4 (by as_aux_lemma => kernel_rfl)
    (of_decide_eq_true (by as_aux_lemma => kernel_rfl)) (by unfold Func.isWrapper; first | (rw [if_pos (by decide +kernel)]; kernel_rfl) | (rw [if_neg (by decide +kernel)]; exact ⟨rfl, rfl⟩))
    (fun os started H enc _ => linkFinds_lifted os started H enc)

set_option maxHeartbeats 6400000 in
theorem linkFinds_card : Rows.LinkFindsCardSaid :=
  Claim7.holds_tied_plain_at .later [] [.data, .data, .data, .data, .sentinel, .sentinel, .pinned] true Rows.linkFindsCard.stood.harness true
    linkFinds_holds (fun _ h => by cases h) (by as_aux_lemma => kernel_rfl) (fun _ h => by cases h) linkFinds_row_tie rfl ⟨rfl, rfl⟩ (by as_aux_lemma => kernel_rfl) rfl
    (fun f fn hf hfn => by
      obtain rfl : f = 4 := Option.some.inj ((show Tryz.prog.funcNamed Rows.linkFindsRow.func = some 4 by as_aux_lemma => kernel_rfl).symm.trans hf) |>.symm
      obtain rfl : fn = Tryz.f4 := (Option.some.inj (Tryz.func4.symm.trans hfn)).symm
      exact ⟨by as_aux_lemma => kernel_rfl, fun j t ht => by
        rw [Tryz.params4] at ht
        have hm : t ∈ [22, 3] := by simpa using Array.mem_of_getElem? ht
        have hall : ([22, 3].all fun u => !Tryz.prog.wantsStandIn u) = true := by as_aux_lemma => kernel_rfl
        exact (show Tryz.prog.wantsStandIn t = false by simpa using List.all_eq_true.1 hall t hm)⟩)
    (by as_aux_lemma => kernel_rfl)

#print axioms linkFinds_card
end Go.Proofs.YtioppoaijehicaaGreatDoor
