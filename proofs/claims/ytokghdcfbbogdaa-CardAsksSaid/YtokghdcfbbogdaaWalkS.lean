/-
  WALKS: checkOn, and the reference's tests of a day.
-/
import Derived.Test.YtokghdcfbbogdaaWalkM
import Derived.Test.YtokghdcfbbogdaaWalkN
import Derived.Test.YtokghdcfbbogdaaWalkK
import Derived.Test.YtokghdcfbbogdaaSet
namespace Go.Proofs.Ytokghdcfbbogdaa
open Go.RowKit

/-- What checkOn answers. -/
def onErr (xs : List St) (d : Int) : Int := if statesErr xs = 0 then (if d < 0 ∨ 100000 < d then 2 else 0) else statesErr xs

set_option maxHeartbeats 1600000 in
set_option maxRecDepth 100000 in
theorem checkOn_any (A : Option Addr) (c : Nat) (xs : List St) (d : Int) (w : World) (hA : StsAt w A xs) :
    Calls Try.prog 65 #[.slice A xs.length c, .int .i64 d] w fun e w' => e = .returned (.int .i64 (onErr xs d)) ∧ Below w.heap.size w w' := by
  have hck := checkStates_any A c xs w hA
  by_cases h : statesErr xs = 0
  · have hR : onErr xs d = if d < 0 ∨ 100000 < d then 2 else 0 := by unfold onErr; rw [if_pos h]
    rw [hR]
    rw [h] at hck
    clear hR h
    by_cases hd : d < 0 ∨ 100000 < d
    · rw [if_pos hd]
      have hcd := fun w => checkDay_no d w hd
      have H1 := hide hck
      have H2 := hide hcd
      clear hck hcd hd hA
      go_enter Try.func65, Try.ntmps65
      go_wp2_with (first | (go_at_call 48; refine H1.out.mono ?_; rintro e w' ⟨rfl, hb⟩; obtain ⟨os1, n1, rfl⟩ := below_plus hb; clear hb) | (go_at_call 64; refine (H2.out _).mono ?_; rintro e w' ⟨rfl, rfl⟩))
      go_ret
      exact ⟨rfl, by repeat (first | exact Below.refl _ _ | refine bl_plus ?_ | refine bl_alloc ?_ _ | refine bl_drew ?_)⟩
    · rw [if_neg hd]
      have hcd := fun w => checkDay_yes d w (by omega) (by omega)
      have H1 := hide hck
      have H2 := hide hcd
      clear hck hcd hd hA
      go_enter Try.func65, Try.ntmps65
      go_wp2_with (first | (go_at_call 48; refine H1.out.mono ?_; rintro e w' ⟨rfl, hb⟩; obtain ⟨os1, n1, rfl⟩ := below_plus hb; clear hb) | (go_at_call 64; refine (H2.out _).mono ?_; rintro e w' ⟨rfl, rfl⟩))
      go_ret
      exact ⟨rfl, by repeat (first | exact Below.refl _ _ | refine bl_plus ?_ | refine bl_alloc ?_ _ | refine bl_drew ?_)⟩
  · have hR : onErr xs d = statesErr xs := by unfold onErr; rw [if_neg h]
    rw [hR]
    clear hR
    generalize statesErr xs = r at hck h ⊢
    have hr : (r == 0) = false := by simp [h]
    have H1 := hide hck
    clear hck h hA
    go_enter Try.func65, Try.ntmps65
    go_wp2_with ((go_at_call 48; refine H1.out.mono ?_; rintro e w' ⟨rfl, hb⟩; obtain ⟨os1, n1, rfl⟩ := below_plus hb; clear hb))
    go_ret
    exact ⟨rfl, by repeat (first | exact Below.refl _ _ | refine bl_plus ?_ | refine bl_alloc ?_ _ | refine bl_drew ?_)⟩

end Go.Proofs.Ytokghdcfbbogdaa
