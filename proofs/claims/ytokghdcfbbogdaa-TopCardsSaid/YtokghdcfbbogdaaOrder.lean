/-
  WALKS: the order of cards by block and number.
-/
import Derived.Test.YtokghdcfbbogdaaCmp
import Derived.Test.YtokghdcfbbogdaaWalkA
import Derived.Deep.RegionHeld3
namespace Go.Proofs.Ytokghdcfbbogdaa
open Go.RowKit

/-- The order of two names. -/
def nameCmp (a b c d : Int) : Int := or2 (cmp3 a c) (cmp3 b d)

set_option maxHeartbeats 1600000 in
set_option maxRecDepth 100000 in
theorem nameCompare_any (a b c d : Int) (w : World) :
    Calls Try.prog 80 #[.agg #[.int .i64 a, .int .i64 b], .agg #[.int .i64 c, .int .i64 d]] w fun e w' => e = .returned (.int .i64 (nameCmp a b c d)) ∧ Below w.heap.size w w' := by
  unfold nameCmp
  go_enter Try.func80, Try.ntmps80
  go_wp2_with fail
  go_region_held3 (fun w' => w'.cell? ⟨w.heap.size, 0, none⟩ = some (.int .i64 a) ∧ w'.cell? ⟨w.heap.size, 1, none⟩ = some (.int .i64 b) ∧ w'.cell? ⟨w.heap.size + 1, 0, none⟩ = some (.int .i64 c) ∧ w'.cell? ⟨w.heap.size + 1, 1, none⟩ = some (.int .i64 d)) (go_keep)
    (first | (go_at_call 77; refine (compare_any _ _ _).mono ?_; rintro e w' ⟨rfl, rfl⟩) | (go_at_call 76; refine (or2_any _ (cmp3 a c) (cmp3 b d) _ ?_ ?_).mono ?_; go_simp; go_simp; rintro e w' ⟨rfl, rfl⟩))
  go_wp2
  go_ret
  exact ⟨rfl, by repeat (first | exact Below.refl _ _ | refine bl_plus ?_ | refine bl_alloc ?_ _ | refine bl_drew ?_)⟩

set_option maxHeartbeats 1600000 in
set_option maxRecDepth 100000 in
theorem order_any (x y : St) (w : World) :
    Calls Try.prog 83 #[x.val, y.val] w fun e w' => e = .returned (.int .i64 (nameCmp x.bl x.no y.bl y.no)) ∧ Below w.heap.size w w' := by
  unfold nameCmp St.val
  go_enter Try.func83, Try.ntmps83
  go_wp2_with fail
  go_region_held3 (fun w' => w'.cell? ⟨w.heap.size, 0, none⟩ = some (.int .i64 x.bl) ∧ w'.cell? ⟨w.heap.size, 1, none⟩ = some (.int .i64 x.no) ∧ w'.cell? ⟨w.heap.size + 1, 0, none⟩ = some (.int .i64 y.bl) ∧ w'.cell? ⟨w.heap.size + 1, 1, none⟩ = some (.int .i64 y.no)) (go_keep)
    (first | (go_at_call 77; refine (compare_any _ _ _).mono ?_; rintro e w' ⟨rfl, rfl⟩) | (go_at_call 76; refine (or2_any _ (cmp3 x.bl y.bl) (cmp3 x.no y.no) _ ?_ ?_).mono ?_; go_simp; go_simp; rintro e w' ⟨rfl, rfl⟩))
  go_wp2
  go_ret
  exact ⟨rfl, by repeat (first | exact Below.refl _ _ | refine bl_plus ?_ | refine bl_alloc ?_ _ | refine bl_drew ?_)⟩

end Go.Proofs.Ytokghdcfbbogdaa
