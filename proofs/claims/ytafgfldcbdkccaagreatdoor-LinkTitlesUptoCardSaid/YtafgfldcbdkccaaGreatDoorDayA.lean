/-
  WALKS: the program's calendar: the lengths of months, the day of a date.
-/
import Derived.Test.YtafgfldcbdkccaaGreatDoorRows
import Derived.Test.YtafgfldcbdkccaaGreatDoorCal
import Derived.Test.YtafgfldcbdkccaaGreatDoorBlk
import Derived.WalkKit
import Derived.WalkSpells
import Derived.WalkLawsBesides
import Derived.Handy
set_option linter.all false
namespace Go.Proofs.YtafgfldcbdkccaaGreatDoor
open Go.RowKit Cal

def outB (n lo hi : Int) : Bool := decide (n < lo ∨ hi < n)

set_option maxHeartbeats 400000 in
theorem outsideP_any (n lo hi : Int) (w : World) :
    Calls Tryz.prog 96 #[.int .i64 n, .int .i64 lo, .int .i64 hi] w fun e w' => e = .returned (.bool (outB n lo hi)) ∧ w = w' := by
  by_cases h1 : n < lo
  · go_enter Tryz.func96, Tryz.ntmps96
    go_wp2
    go_ret
    exact ⟨by simp [outB, h1], rfl⟩
  · by_cases h2 : hi < n
    · go_enter Tryz.func96, Tryz.ntmps96
      go_wp2
      go_ret
      exact ⟨by simp [outB, h2], rfl⟩
    · go_enter Tryz.func96, Tryz.ntmps96
      go_wp2
      go_ret
      exact ⟨by simp [outB]; omega, rfl⟩

theorem outsideP_yes (n lo hi : Int) (w : World) (h : n < lo ∨ hi < n) :
    Calls Tryz.prog 96 #[.int .i64 n, .int .i64 lo, .int .i64 hi] w fun e w' => e = .returned (.bool true) ∧ w = w' :=
  (outsideP_any n lo hi w).mono fun _ _ ⟨he, hw⟩ => ⟨by rw [he]; simp [outB, h], hw⟩

theorem outsideP_no (n lo hi : Int) (w : World) (h1 : lo ≤ n) (h2 : n ≤ hi) :
    Calls Tryz.prog 96 #[.int .i64 n, .int .i64 lo, .int .i64 hi] w fun e w' => e = .returned (.bool false) ∧ w = w' :=
  (outsideP_any n lo hi w).mono fun _ _ ⟨he, hw⟩ => ⟨by rw [he]; simp [outB]; omega, hw⟩

def lens (y : Int) : Array Value := #[.int .i64 31, .int .i64 (28 + lp y), .int .i64 31, .int .i64 30, .int .i64 31, .int .i64 30, .int .i64 31, .int .i64 31, .int .i64 30, .int .i64 31, .int .i64 30, .int .i64 31]

theorem lens_at (y : Int) : ∀ i : Nat, i < 12 → (lens y)[i]? = some (.int .i64 (mlen y (i + 1)))
  | 0, _ | 1, _ | 2, _ | 3, _ | 4, _ | 5, _ | 6, _ | 7, _ | 8, _ | 9, _ | 10, _ | 11, _ => rfl
  | _ + 12, h => by omega

end Go.Proofs.YtafgfldcbdkccaaGreatDoor
