/-
  PROVED: the tied card of DayPages: for every base and day DayPages returns true and turns nothing: Title, Daily and Dailies compute what the references do. Condition: the listed variables of Go's library read as the card ties them to the program's text.
-/
import Derived.Test.YtioppoaijehicaaGreatDoorRows
import Derived.Test.YtioppoaijehicaaGreatDoorCards
import Derived.Test.YtioppoaijehicaaGreatDoorTie
import Derived.Test.YtioppoaijehicaaGreatDoorDpg
import Derived.Test.YtioppoaijehicaaGreatDoorOpv
import Derived.Test.YtioppoaijehicaaGreatDoorCdk
import Derived.Test.YtioppoaijehicaaGreatDoorRowS
import Derived.SevenTiedAt
import Derived.Lib.LaidTab
import Derived.ChangeMaps5
import Derived.Lay
set_option linter.all false
namespace Go.Proofs.YtioppoaijehicaaGreatDoor
open Go.ChangeShapes Go.WideShapes Go.ChangeAt Go.RowKit Go.Deep
open Go.ChangeMaps (open_string)

/-- A heap that is laid from the row's own data meets the condition. -/
theorem dayPages_met (os : Os) (args : Array Value) : laidMetH Tryz.prog Rows.dayPagesRow.laid ((World.laidAll Tryz.prog os Rows.dayPagesRow.laid).forCall (fun _ _ => 0) ⟨#[], args, []⟩).memory := by
  rw [MakeChecks.laidMetH_plain _ _ _ (by kernel_rfl)]
  exact laidMet_laidAll _ (by kernel_rfl) (by kernel_rfl)

theorem tPow_dayPages : (Tryz.prog.globals[0]?).map (·.type) = some 235 := by kernel_rfl

/-- What the condition gives the walks. -/
theorem powTab_dayPages {W : World} (h : laidMetH Tryz.prog Rows.dayPagesRow.laid W) : PowTab W := by
  rw [MakeChecks.laidMetH_plain _ _ _ (by kernel_rfl)] at h
  exact Lib.tabIs_of_head gPow tPow_dayPages Tryz.underlying235 Tryz.underlying154 (by kernel_rfl) (by kernel_rfl) h.tail.tail

set_option maxRecDepth 100000 in
theorem dayPages_lifted (os : Os) (started : os.Started) (H : Type) (enc : TypeId × Value → H) :
    ReturnsInHanded {} Tryz.checked os 3 .any (fun w args => (Rows.dayPagesSpec.pre enc Tryz.prog Tryz.f3 [] false w args ∧ laidMetH Tryz.prog Rows.dayPagesRow.laid w) ∧ sizedMet enc Tryz.prog Tryz.f3 (OpenSpec.ofChange Rows.dayPagesSpec) false w args) (Rows.dayPagesSpec.post enc Tryz.prog Tryz.f3 false true false false) := by
  refine law_lifted_shaped Rows.dayPagesRow.laid started (by kernel_rfl) Tryz.func3 rfl (by kernel_rfl) Tryz.underlying4 (fun t ht => ?_) (fun ds hds => ?_)
    (ChangeSpec.witness_shaped (enc := enc) (C := Tryz.checked) (os := os) (X := fun w _ => laidMetH Tryz.prog Rows.dayPagesRow.laid w) false (World.laidAll Tryz.prog os Rows.dayPagesRow.laid) #[.slice none 0 0, .int .i64 0] 8 (World.laidAll_os _ _ _) (World.shaped_of_ZipB (by kernel_rfl) (by kernel_rfl)) (by kernel_rfl) (by kernel_rfl) (by kernel_rfl) (dayPages_met os _)) ?_
  · rw [Tryz.params3] at ht
    simp only [List.mem_cons, List.not_mem_nil, or_false] at ht
    rcases ht with rfl | rfl <;> exact ⟨by kernel_rfl, of_decide_eq_true (by kernel_rfl)⟩
  · rw [Tryz.params3] at hds
    match ds, hds with
    | [d0, d1], _ => rfl
  · intro W b0 args ds p hval hA hlt hsz hL hsh
    rw [Tryz.params3] at hA hval
    obtain ⟨v0, v1, d0, d1, p0, p1, rfl, rfl, rfl, h0, h1⟩ := trodAll_two hA
    obtain ⟨l0, A0, c0, rfl, hc0, hB0, h640⟩ := open_blocks (hval 0 _ v0 rfl rfl) h0
    obtain ⟨k1, rfl, rfl, rfl, wk1⟩ := open_int Tryz.underlying3 (hval 1 _ v1 rfl rfl) h1
    exact dayPages_any l0 A0 c0 k1 W hB0 h640 hc0 (maxTold_shaped hsh) (powTab_dayPages hL) (in64_wf wk1)

set_option maxHeartbeats 6400000 in
set_option maxRecDepth 100000 in
theorem dayPages_holds : Rows.DayPagesSaid :=
  OpenClaim.holds_of_wide 3 Tryz.f3 rfl rfl rfl rfl rfl rfl rfl ⟨rfl, rfl, rfl, rfl, rfl⟩ rfl rfl rfl rfl rfl (by as_aux_lemma => kernel_rfl) Tryz.func3 (by as_aux_lemma => kernel_rfl)
    (of_decide_eq_true (by as_aux_lemma => kernel_rfl)) (by unfold Func.isWrapper; first | (rw [if_pos (by decide +kernel)]; kernel_rfl) | (rw [if_neg (by decide +kernel)]; exact ⟨rfl, rfl⟩))
    (fun os started H enc _ => dayPages_lifted os started H enc)

set_option maxHeartbeats 6400000 in
theorem dayPages_card : Rows.DayPagesCardSaid :=
  Claim7.holds_tied_plain_at .later [] [.data, .data, .data, .data, .sentinel, .sentinel, .pinned] true Rows.dayPagesCard.stood.harness true
    dayPages_holds (fun _ h => by cases h) (by as_aux_lemma => kernel_rfl) (fun _ h => by cases h) dayPages_row_tie rfl ⟨rfl, rfl⟩ (by as_aux_lemma => kernel_rfl) rfl
    (fun f fn hf hfn => by
      obtain rfl : f = 3 := Option.some.inj ((show Tryz.prog.funcNamed Rows.dayPagesRow.func = some 3 by as_aux_lemma => kernel_rfl).symm.trans hf) |>.symm
      obtain rfl : fn = Tryz.f3 := (Option.some.inj (Tryz.func3.symm.trans hfn)).symm
      exact ⟨by as_aux_lemma => kernel_rfl, fun j t ht => by
        rw [Tryz.params3] at ht
        have hm : t ∈ [22, 3] := by simpa using Array.mem_of_getElem? ht
        have hall : ([22, 3].all fun u => !Tryz.prog.wantsStandIn u) = true := by as_aux_lemma => kernel_rfl
        exact (show Tryz.prog.wantsStandIn t = false by simpa using List.all_eq_true.1 hall t hm)⟩)
    (by as_aux_lemma => kernel_rfl)

#print axioms dayPages_card
end Go.Proofs.YtioppoaijehicaaGreatDoor
