/-
  WALK: a value's error, in the reference: a kind that there is not.
-/
import Derived.Test.YtdncmjlakmkfiaaGreatDoorPvi
set_option linter.all false
namespace Go.Proofs.YtdncmjlakmkfiaaGreatDoor
open Go.RowKit Go.Lib

set_option maxHeartbeats 1600000 in
set_option maxRecDepth 100000 in
theorem valueFault_far (v : V) (A : Option Addr) (c : Nat) (w : World) (h : v.k < 0 ∨ 7 < v.k) :
    Calls Tryz.prog 18 #[v.arg A c] w fun e w' => e = .returned (.int .i64 v.selfErr) ∧ Below w.heap.size w w' := by
  have hE : v.selfErr = 10 := if_pos h
  rw [hE]
  clear hE
  obtain ⟨k, i, t, s, l⟩ := v
  simp only [V.arg, V.k, V.i, V.t, V.s, V.l] at *
  rcases h with h | h
  all_goals
    go_enter Tryz.func18, Tryz.ntmps18
    go_wp2
    go_ret
    exact ⟨rfl, (by repeat (first | exact Below.refl _ _ | refine bl_plus ?_ | refine bl_alloc ?_ _ | refine bl_drew ?_))⟩

end Go.Proofs.YtdncmjlakmkfiaaGreatDoor
