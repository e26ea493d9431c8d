/-
  WALKS: New and NewOf.
-/
import Derived.Test.YtplmcpecffjheaaDoorWalkA
import Derived.Test.YtplmcpecffjheaaDoorWalkC
import Derived.Test.YtplmcpecffjheaaDoorPlain
import Derived.Test.YtplmcpecffjheaaDoorBlk
namespace Go.Proofs.YtplmcpecffjheaaDoor
open Go.RowKit

set_option maxHeartbeats 800000 in
theorem new_any (bl no : Int) (w : World) :
    Calls Tryd.prog 7 #[.int .i64 bl, .int .i64 no] w fun e w' => e = .returned (.tuple #[(St.new bl no).1.val, .int .i64 (St.new bl no).2]) ∧ Below w.heap.size w w' := by
  have hck := fun w => checkState_any (St.fresh bl no) w
  have hfr := fun w => fresh_any bl no w
  unfold St.new
  generalize (St.fresh bl no).err = r at hck ⊢
  simp only [St.fresh, St.val] at hck hfr ⊢
  have H := hide hck
  have HF := hide hfr
  clear hck hfr
  by_cases h : r = 0
  all_goals
    have hb : (r == 0) = decide (r = 0) := by simp [h]
    simp only [h, if_true, if_false, decide_true, decide_false] at hb ⊢
    try subst h
    go_enter Tryd.func7, Tryd.ntmps7
    go_wp2_with (first | (go_at_call 16; refine (HF.out _).mono ?_; rintro e w' ⟨rfl, hb⟩; obtain ⟨os, n, rfl⟩ := below_plus hb; clear hb) | (go_at_call 9; refine (H.out _).mono ?_; rintro e w' ⟨rfl, hb⟩; obtain ⟨os, n, rfl⟩ := below_plus hb; clear hb))
    go_returns
    exact ⟨rfl, by repeat (first | exact Below.refl _ _ | refine bl_plus ?_ | refine bl_alloc ?_ _ | refine bl_drew ?_)⟩

set_option maxHeartbeats 800000 in
theorem newOf_any (bl no : Int) (w : World) :
    Calls Tryd.prog 8 #[.int .i64 bl, .int .i64 no] w fun e w' => e = .returned (.tuple #[(St.new bl no).1.val, .int .i64 (St.new bl no).2]) ∧ Below w.heap.size w w' := by
  have hck := fun w => stateFault_any (St.fresh bl no) w
  unfold St.new
  generalize (St.fresh bl no).err = r at hck ⊢
  simp only [St.fresh, St.val] at hck ⊢
  have H := hide hck
  clear hck
  by_cases h : r = 0
  all_goals
    have hb : (r == 0) = decide (r = 0) := by simp [h]
    simp only [h, if_true, if_false, decide_true, decide_false] at hb ⊢
    try subst h
    go_enter Tryd.func8, Tryd.ntmps8
    go_wp2_with (go_at_call 10; refine (H.out _).mono ?_; rintro e w' ⟨rfl, hb⟩; obtain ⟨os, n, rfl⟩ := below_plus hb; clear hb)
    go_returns
    exact ⟨rfl, by repeat (first | exact Below.refl _ _ | refine bl_plus ?_ | refine bl_alloc ?_ _ | refine bl_drew ?_)⟩

end Go.Proofs.YtplmcpecffjheaaDoor
