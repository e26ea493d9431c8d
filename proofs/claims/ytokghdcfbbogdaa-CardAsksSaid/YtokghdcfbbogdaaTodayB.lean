/-
  WALKS: checkBounds and the reference's; Today.
-/
import Derived.Test.YtokghdcfbbogdaaTodayA
namespace Go.Proofs.Ytokghdcfbbogdaa
open Go.RowKit

def bndOk (bn ba : Int) : Prop := (0 ≤ bn ∧ bn ≤ 5000) ∧ (0 ≤ ba ∧ ba ≤ 5000)
instance (bn ba : Int) : Decidable (bndOk bn ba) := by unfold bndOk; infer_instance

set_option maxHeartbeats 1600000 in
set_option maxRecDepth 100000 in
theorem checkBounds_any (bn ba : Int) (w : World) :
    Calls Try.prog 68 #[.agg #[.int .i64 bn, .int .i64 ba]] w fun e w' => e = .returned (.int .i64 (if bndOk bn ba then 0 else 2)) ∧ Below w.heap.size w w' := by
  have hc : ((bn < 0 ∨ 5000 < bn) ∧ ¬ bndOk bn ba) ∨ ((0 ≤ bn ∧ bn ≤ 5000) ∧ (ba < 0 ∨ 5000 < ba) ∧ ¬ bndOk bn ba) ∨ ((0 ≤ bn ∧ bn ≤ 5000) ∧ (0 ≤ ba ∧ ba ≤ 5000) ∧ bndOk bn ba) := by unfold bndOk; omega
  rcases hc with ⟨h1, h⟩ | ⟨h1, h2, h⟩ | ⟨h1, h2, h⟩
  · rw [if_neg h]
    have H1 := hide (fun w => outside_yes bn 0 5000 w h1)
    clear h h1
    go_enter Try.func68, Try.ntmps68
    go_wp2_with (go_at_call 61; refine (H1.out _).mono ?_; rintro e w' ⟨rfl, rfl⟩)
    go_ret
    exact ⟨rfl, by repeat (first | exact Below.refl _ _ | refine bl_plus ?_ | refine bl_alloc ?_ _ | refine bl_drew ?_)⟩
  · rw [if_neg h]
    have H1 := hide (fun w => outside_no bn 0 5000 w h1.1 h1.2)
    have H2 := hide (fun w => outside_yes ba 0 5000 w h2)
    clear h h1 h2
    go_enter Try.func68, Try.ntmps68
    go_wp2_with (first | (go_at_call_of 61 (bn); refine (H1.out _).mono ?_; rintro e w' ⟨rfl, rfl⟩) | (go_at_call_of 61 (ba); refine (H2.out _).mono ?_; rintro e w' ⟨rfl, rfl⟩))
    go_ret
    exact ⟨rfl, by repeat (first | exact Below.refl _ _ | refine bl_plus ?_ | refine bl_alloc ?_ _ | refine bl_drew ?_)⟩
  · rw [if_pos h]
    have H1 := hide (fun w => outside_no bn 0 5000 w h1.1 h1.2)
    have H2 := hide (fun w => outside_no ba 0 5000 w h2.1 h2.2)
    clear h h1 h2
    go_enter Try.func68, Try.ntmps68
    go_wp2_with (first | (go_at_call_of 61 (bn); refine (H1.out _).mono ?_; rintro e w' ⟨rfl, rfl⟩) | (go_at_call_of 61 (ba); refine (H2.out _).mono ?_; rintro e w' ⟨rfl, rfl⟩))
    go_ret
    exact ⟨rfl, by repeat (first | exact Below.refl _ _ | refine bl_plus ?_ | refine bl_alloc ?_ _ | refine bl_drew ?_)⟩

set_option maxHeartbeats 1600000 in
set_option maxRecDepth 100000 in
theorem boundsFault_any (bn ba : Int) (w : World) :
    Calls Try.prog 70 #[.agg #[.int .i64 bn, .int .i64 ba]] w fun e w' => e = .returned (.bool (!decide (bndOk bn ba))) ∧ Below w.heap.size w w' := by
  have hc : (decide (bn < 0) = true ∧ bndOk bn ba = False) ∨ (decide (bn < 0) = false ∧ decide (5000 < bn) = true ∧ bndOk bn ba = False) ∨ (decide (bn < 0) = false ∧ decide (5000 < bn) = false ∧ decide (ba < 0) = true ∧ bndOk bn ba = False) ∨
      (decide (bn < 0) = false ∧ decide (5000 < bn) = false ∧ decide (ba < 0) = false ∧ decide (5000 < ba) = true ∧ bndOk bn ba = False) ∨ (decide (bn < 0) = false ∧ decide (5000 < bn) = false ∧ decide (ba < 0) = false ∧ decide (5000 < ba) = false ∧ bndOk bn ba = True) := by
    unfold bndOk
    simp only [eq_iff_iff, iff_false, iff_true, decide_eq_true_eq, decide_eq_false_iff_not]
    omega
  rcases hc with ⟨h1, h⟩ | ⟨h1, h2, h⟩ | ⟨h1, h2, h3, h⟩ | ⟨h1, h2, h3, h4, h⟩ | ⟨h1, h2, h3, h4, h⟩
  all_goals
    simp only [h, decide_false, decide_true, Bool.not_false, Bool.not_true]
    clear h
    go_enter Try.func70, Try.ntmps70
    go_wp2
    go_ret
    exact ⟨rfl, by repeat (first | exact Below.refl _ _ | refine bl_plus ?_ | refine bl_alloc ?_ _ | refine bl_drew ?_)⟩

end Go.Proofs.Ytokghdcfbbogdaa
