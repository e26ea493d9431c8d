/-
  PROVED: the tied card of DayCounts: for every year, month, date, day and number DayCounts returns true and turns nothing: DayOf, DateOf, Week, Months and DateText compute what the reference's do. Condition: the listed tables of Go's library read as the card ties them to the program's text.
-/
import Derived.Test.YtfklaahakibljaaDoorRows
import Derived.Test.YtfklaahakibljaaDoorCards
import Derived.Test.YtfklaahakibljaaDoorTie
import Derived.Test.YtfklaahakibljaaDoorDayL
import Derived.Test.YtfklaahakibljaaDoorRowL
import Derived.SevenTiedAt
namespace Go.Proofs.YtfklaahakibljaaDoor
open Go.ChangeShapes Go.WideShapes Go.ChangeAt Go.RowKit

/-- The door's own heap meets the condition. -/
theorem dayCounts_met (os : Os) (args : Array Value) : laidMetH Tryd.prog Rows.dayCountsRow.laid ((World.doorLaid Tryd.prog 44 os).forCall (fun _ _ => 0) ⟨#[], args, []⟩).memory :=
  laidMetH_of_parts3 (fuel := 8) (laidMet_of_run' 8 (by kernel_rfl) (by kernel_rfl)) (by kernel_rfl) (by kernel_rfl)
theorem tPow : (Tryd.prog.globals[3]?).map (·.type) = some 227 := by kernel_rfl
/-- What the condition gives the walks. -/
theorem powTab_of_laid {W : World} (h : laidMetH Tryd.prog Rows.dayCountsRow.laid W) : PowTab W := by
  rw [MakeChecks.laidMetH_plain _ _ _ (by kernel_rfl)] at h
  exact Lib.tabIs_of_head (rest := []) gPow tPow Tryd.underlying227 Tryd.underlying211 (by kernel_rfl) (by kernel_rfl) h.tail.tail

set_option maxRecDepth 100000 in
theorem dayCounts_lifted (os : Os) (started : os.Started) (H : Type) (enc : TypeId × Value → H) :
    ReturnsInHanded {} Tryd.checked os 3 .any (fun w args => (Rows.dayCountsSpec.pre enc Tryd.prog Tryd.f3 [] false w args ∧ laidMetH Tryd.prog Rows.dayCountsRow.laid w) ∧ sizedMet enc Tryd.prog Tryd.f3 (OpenSpec.ofChange Rows.dayCountsSpec) false w args) (Rows.dayCountsSpec.post enc Tryd.prog Tryd.f3 false true false false) := by
  refine law_lifted_laid Rows.dayCountsRow.laid started (by kernel_rfl) Tryd.func3 rfl (by kernel_rfl) Tryd.underlying4 (fun t ht => ?_) (fun ds hds => ?_)
    (ChangeSpec.witness_shaped (enc := enc) (C := Tryd.checked) (os := os) (X := fun w _ => laidMetH Tryd.prog Rows.dayCountsRow.laid w) false (World.doorLaid Tryd.prog 44 os) #[.int .i64 0, .int .i64 0, .int .i64 0, .int .i64 0, .int .i64 0] 8 rfl (World.shaped_of_RefB (by kernel_rfl) (by kernel_rfl)) (by kernel_rfl) (by kernel_rfl) (by kernel_rfl) (dayCounts_met os _)) ?_
  · rw [Tryd.params3] at ht
    simp only [List.mem_cons, List.not_mem_nil, or_false] at ht
    rcases ht with rfl | rfl | rfl | rfl | rfl <;> exact ⟨by kernel_rfl, of_decide_eq_true (by kernel_rfl)⟩
  · rw [Tryd.params3] at hds
    match ds, hds with
    | [d1, d2, d3, d4, d5], _ => rfl
  · intro W b0 args ds p hval hA hlt hsz hL
    rw [Tryd.params3] at hA hval
    obtain ⟨v0, v1, v2, v3, v4, d0, d1, d2, d3, d4, p0, p1, p2, p3, p4, rfl, rfl, rfl, h0, h1, h2, h3, h4⟩ := trodAll_five hA
    obtain ⟨y, rfl, rfl, rfl, wy⟩ := open_int Tryd.underlying3 (hval 0 _ v0 rfl rfl) h0
    obtain ⟨m, rfl, rfl, rfl, wm⟩ := open_int Tryd.underlying3 (hval 1 _ v1 rfl rfl) h1
    obtain ⟨dd, rfl, rfl, rfl, wd⟩ := open_int Tryd.underlying3 (hval 2 _ v2 rfl rfl) h2
    obtain ⟨d, rfl, rfl, rfl, wd2⟩ := open_int Tryd.underlying3 (hval 3 _ v3 rfl rfl) h3
    obtain ⟨n, rfl, rfl, rfl, wn⟩ := open_int Tryd.underlying3 (hval 4 _ v4 rfl rfl) h4
    exact dayCounts_any y m dd d n W (powTab_of_laid hL)

set_option maxRecDepth 100000 in
theorem dayCounts_holds : Rows.DayCountsSaid :=
  OpenClaim.holds_of_wide 3 Tryd.f3 rfl rfl rfl rfl rfl rfl rfl ⟨rfl, rfl, rfl, rfl, rfl⟩ rfl rfl rfl rfl rfl (by kernel_rfl) Tryd.func3 (by kernel_rfl)
    (of_decide_eq_true (by kernel_rfl)) (by unfold Func.isWrapper; first | (rw [if_pos (by decide +kernel)]; kernel_rfl) | (rw [if_neg (by decide +kernel)]; exact ⟨rfl, rfl⟩))
    (fun os started H enc _ => dayCounts_lifted os started H enc)

theorem dayCounts_card : Rows.DayCountsCardSaid :=
  Claim7.holds_tied_plain_at .later [] [.data, .data, .data] true Rows.dayCountsCard.stood.harness true
    dayCounts_holds (fun _ h => by cases h) (by kernel_rfl) (fun _ h => by cases h) dayCounts_row_tie rfl ⟨rfl, rfl⟩ (by kernel_rfl) rfl
    (fun f fn hf hfn => by
      obtain rfl : f = 3 := Option.some.inj ((show Tryd.prog.funcNamed Rows.dayCountsRow.func = some 3 by kernel_rfl).symm.trans hf) |>.symm
      obtain rfl : fn = Tryd.f3 := (Option.some.inj (Tryd.func3.symm.trans hfn)).symm
      exact ⟨by kernel_rfl, fun j t ht => by
        rw [Tryd.params3] at ht
        have hm : t ∈ [3, 3, 3, 3, 3] := by simpa using Array.mem_of_getElem? ht
        have hall : ([3, 3, 3, 3, 3].all fun u => !Tryd.prog.wantsStandIn u) = true := by kernel_rfl
        exact (show Tryd.prog.wantsStandIn t = false by simpa using List.all_eq_true.1 hall t hm)⟩)
    (by kernel_rfl)

#print axioms dayCounts_card
end Go.Proofs.YtfklaahakibljaaDoor
