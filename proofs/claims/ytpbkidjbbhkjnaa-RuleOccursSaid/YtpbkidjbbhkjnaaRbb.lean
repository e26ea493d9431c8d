/-
  WALKS: the error of a first and a last day.
-/
import Derived.Test.YtpbkidjbbhkjnaaRld
namespace Go.Proofs.Ytpbkidjbbhkjnaa
open Go.RowKit

/-- The error of a first and a last day. -/
def spanErr (f t : Int) : Int := if ¬ (0 ≤ f ∧ f ≤ 100000) ∨ ¬ (0 ≤ t ∧ t ≤ 100000) ∨ 4000 < t - f then 2 else if t < f then 5 else 0

set_option maxHeartbeats 1600000 in
set_option maxRecDepth 100000 in
theorem checkFromTo_any (f t : Int) (w : World) (hf : -9223372036854775808 ≤ f ∧ f ≤ 9223372036854775807) (ht : -9223372036854775808 ≤ t ∧ t ≤ 9223372036854775807) :
    Calls Try.prog 29 #[.int .i64 f, .int .i64 t] w fun e w' => e = .returned (.int .i64 (spanErr f t)) ∧ Below w.heap.size w w' := by
  unfold spanErr
  by_cases a : 0 ≤ f ∧ f ≤ 100000
  · by_cases b : 0 ≤ t ∧ t ≤ 100000
    · have H1 := hide (fun w => checkDayE_no f w a.1 a.2)
      have H2 := hide (fun w => checkDayE_no t w b.1 b.2)
      by_cases c : 4000 < t - f
      · rw [if_pos (.inr (.inr c))]
        go_enter Try.func29, Try.ntmps29
        go_wp2_with (first | (go_at_call_of 51 (Value.int IntKind.i64 f); refine (H1.out _).mono ?_; rintro e w' ⟨rfl, rfl⟩) | (go_at_call_of 51 (Value.int IntKind.i64 t); refine (H2.out _).mono ?_; rintro e w' ⟨rfl, rfl⟩))
        go_ret
        exact ⟨rfl, (by repeat (first | exact Below.refl _ _ | refine bl_plus ?_ | refine bl_alloc ?_ _ | refine bl_drew ?_ | refine bl_drewN ?_ _))⟩
      · rw [if_neg (by omega)]
        by_cases d : t < f
        · rw [if_pos d]
          go_enter Try.func29, Try.ntmps29
          go_wp2_with (first | (go_at_call_of 51 (Value.int IntKind.i64 f); refine (H1.out _).mono ?_; rintro e w' ⟨rfl, rfl⟩) | (go_at_call_of 51 (Value.int IntKind.i64 t); refine (H2.out _).mono ?_; rintro e w' ⟨rfl, rfl⟩))
          go_ret
          exact ⟨rfl, (by repeat (first | exact Below.refl _ _ | refine bl_plus ?_ | refine bl_alloc ?_ _ | refine bl_drew ?_ | refine bl_drewN ?_ _))⟩
        · rw [if_neg d]
          go_enter Try.func29, Try.ntmps29
          go_wp2_with (first | (go_at_call_of 51 (Value.int IntKind.i64 f); refine (H1.out _).mono ?_; rintro e w' ⟨rfl, rfl⟩) | (go_at_call_of 51 (Value.int IntKind.i64 t); refine (H2.out _).mono ?_; rintro e w' ⟨rfl, rfl⟩))
          go_ret
          exact ⟨rfl, (by repeat (first | exact Below.refl _ _ | refine bl_plus ?_ | refine bl_alloc ?_ _ | refine bl_drew ?_ | refine bl_drewN ?_ _))⟩
    · rw [if_pos (.inr (.inl b))]
      have H1 := hide (fun w => checkDayE_no f w a.1 a.2)
      have H2 := hide (fun w => checkDayE_yes t w (by omega))
      go_enter Try.func29, Try.ntmps29
      go_wp2_with (first | (go_at_call_of 51 (Value.int IntKind.i64 f); refine (H1.out _).mono ?_; rintro e w' ⟨rfl, rfl⟩) | (go_at_call_of 51 (Value.int IntKind.i64 t); refine (H2.out _).mono ?_; rintro e w' ⟨rfl, rfl⟩))
      go_ret
      exact ⟨rfl, (by repeat (first | exact Below.refl _ _ | refine bl_plus ?_ | refine bl_alloc ?_ _ | refine bl_drew ?_ | refine bl_drewN ?_ _))⟩
  · rw [if_pos (.inl a)]
    have H1 := hide (fun w => checkDayE_yes f w (by omega))
    go_enter Try.func29, Try.ntmps29
    go_wp2_with (first | (go_at_call_of 51 (Value.int IntKind.i64 f); refine (H1.out _).mono ?_; rintro e w' ⟨rfl, rfl⟩))
    go_ret
    exact ⟨rfl, (by repeat (first | exact Below.refl _ _ | refine bl_plus ?_ | refine bl_alloc ?_ _ | refine bl_drew ?_ | refine bl_drewN ?_ _))⟩

set_option maxHeartbeats 1600000 in
set_option maxRecDepth 100000 in
theorem spanFault_any (f t : Int) (w : World) (hf : -9223372036854775808 ≤ f ∧ f ≤ 9223372036854775807) (ht : -9223372036854775808 ≤ t ∧ t ≤ 9223372036854775807) :
    Calls Try.prog 32 #[.int .i64 f, .int .i64 t] w fun e w' => e = .returned (.int .i64 (spanErr f t)) ∧ Below w.heap.size w w' := by
  unfold spanErr
  by_cases a : 0 ≤ f ∧ f ≤ 100000
  · by_cases b : 0 ≤ t ∧ t ≤ 100000
    · have H1 := hide (fun w => isDay_yes f w a.1 a.2)
      have H2 := hide (fun w => isDay_yes t w b.1 b.2)
      by_cases c : 4000 < t - f
      · rw [if_pos (.inr (.inr c))]
        go_enter Try.func32, Try.ntmps32
        go_wp2_with (first | (go_at_call_of 56 (Value.int IntKind.i64 f); refine (H1.out _).mono ?_; rintro e w' ⟨rfl, rfl⟩) | (go_at_call_of 56 (Value.int IntKind.i64 t); refine (H2.out _).mono ?_; rintro e w' ⟨rfl, rfl⟩))
        go_ret
        exact ⟨rfl, (by repeat (first | exact Below.refl _ _ | refine bl_plus ?_ | refine bl_alloc ?_ _ | refine bl_drew ?_ | refine bl_drewN ?_ _))⟩
      · rw [if_neg (by omega)]
        by_cases d : t < f
        · rw [if_pos d]
          go_enter Try.func32, Try.ntmps32
          go_wp2_with (first | (go_at_call_of 56 (Value.int IntKind.i64 f); refine (H1.out _).mono ?_; rintro e w' ⟨rfl, rfl⟩) | (go_at_call_of 56 (Value.int IntKind.i64 t); refine (H2.out _).mono ?_; rintro e w' ⟨rfl, rfl⟩))
          go_ret
          exact ⟨rfl, (by repeat (first | exact Below.refl _ _ | refine bl_plus ?_ | refine bl_alloc ?_ _ | refine bl_drew ?_ | refine bl_drewN ?_ _))⟩
        · rw [if_neg d]
          go_enter Try.func32, Try.ntmps32
          go_wp2_with (first | (go_at_call_of 56 (Value.int IntKind.i64 f); refine (H1.out _).mono ?_; rintro e w' ⟨rfl, rfl⟩) | (go_at_call_of 56 (Value.int IntKind.i64 t); refine (H2.out _).mono ?_; rintro e w' ⟨rfl, rfl⟩))
          go_ret
          exact ⟨rfl, (by repeat (first | exact Below.refl _ _ | refine bl_plus ?_ | refine bl_alloc ?_ _ | refine bl_drew ?_ | refine bl_drewN ?_ _))⟩
    · rw [if_pos (.inr (.inl b))]
      have H1 := hide (fun w => isDay_yes f w a.1 a.2)
      have H2 := hide (fun w => isDay_no t w (by omega))
      go_enter Try.func32, Try.ntmps32
      go_wp2_with (first | (go_at_call_of 56 (Value.int IntKind.i64 f); refine (H1.out _).mono ?_; rintro e w' ⟨rfl, rfl⟩) | (go_at_call_of 56 (Value.int IntKind.i64 t); refine (H2.out _).mono ?_; rintro e w' ⟨rfl, rfl⟩))
      go_ret
      exact ⟨rfl, (by repeat (first | exact Below.refl _ _ | refine bl_plus ?_ | refine bl_alloc ?_ _ | refine bl_drew ?_ | refine bl_drewN ?_ _))⟩
  · rw [if_pos (.inl a)]
    have H1 := hide (fun w => isDay_no f w (by omega))
    go_enter Try.func32, Try.ntmps32
    go_wp2_with (first | (go_at_call_of 56 (Value.int IntKind.i64 f); refine (H1.out _).mono ?_; rintro e w' ⟨rfl, rfl⟩))
    go_ret
    exact ⟨rfl, (by repeat (first | exact Below.refl _ _ | refine bl_plus ?_ | refine bl_alloc ?_ _ | refine bl_drew ?_ | refine bl_drewN ?_ _))⟩

end Go.Proofs.Ytpbkidjbbhkjnaa
