/-
  WALK: ValueReads.
-/
import Derived.Test.YtdncmjlakmkfiaaGreatDoorVxj
import Derived.Test.YtdncmjlakmkfiaaGreatDoorAlv
set_option linter.all false
namespace Go.Proofs.YtdncmjlakmkfiaaGreatDoor
open Go.RowKit

set_option maxHeartbeats 3200000 in
set_option maxRecDepth 100000 in
theorem valueReads_any (s : ByteArray) (w : World) (hp : PowTab w) (hm : MaxTold w) :
    Calls Tryz.prog 3 #[.string s] w fun e w' => e = .returned (.bool true) ∧ Below w.heap.size w w' := by
  have H1 := hide (fun W (hb : Below w.heap.size w W) => read_any s W (powTab_below hp hb) (maxTold_below hm hb))
  have H2 := hide (fun W (hb : Below w.heap.size w W) => readOf_any s W (maxTold_below hm hb))
  have H3 := hide (fun k i t s l A B c d w hA hB => alike_value (.mk k i t s l) A B c d w hA hB)
  clear hp hm
  unfold ReadOut at H1 H2
  generalize readV s = q at *
  obtain ⟨⟨k, i, t, x, l⟩, code⟩ := q
  simp only [V.arg, V.k, V.i, V.t, V.s, V.l] at *
  go_enter Tryz.func3, Tryz.ntmps3
  go_wp2_with (first
    | (go_at_call 6; (refine (H1.out _ (by repeat (first | exact Below.refl _ _ | with_reducible refine bl_plus ?_ | with_reducible refine bl_alloc ?_ _ | with_reducible refine bl_drew ?_ | with_reducible refine bl_drewN ?_ _))).mono ?_); rintro e w' ⟨A1, c1, rfl, hl, hbl⟩; have HA1 := hide hl; clear hl; obtain ⟨os1, n1, rfl⟩ := below_plus hbl; clear hbl)
    | (go_at_call 7; (refine (H2.out _ (by repeat (first | exact Below.refl _ _ | with_reducible refine bl_plus ?_ | with_reducible refine bl_alloc ?_ _ | with_reducible refine bl_drew ?_ | with_reducible refine bl_drewN ?_ _))).mono ?_); rintro e w' ⟨A2, c2, rfl, hl, hbl⟩; have HA2 := hide hl; clear hl; obtain ⟨os2, n2, rfl⟩ := below_plus hbl; clear hbl)
    | (go_at_call 8; (refine (H3.out k i t x l _ _ _ _ _ (HA1.out.below (by repeat (first | exact Below.refl _ _ | with_reducible refine bl_plus ?_ | with_reducible refine bl_alloc ?_ _ | with_reducible refine bl_drew ?_ | with_reducible refine bl_drewN ?_ _))) (HA2.out.below (by repeat (first | exact Below.refl _ _ | with_reducible refine bl_plus ?_ | with_reducible refine bl_alloc ?_ _ | with_reducible refine bl_drew ?_ | with_reducible refine bl_drewN ?_ _)))).mono ?_); rintro e w' ⟨rfl, hbl⟩; obtain ⟨os3, n3, rfl⟩ := below_plus hbl; clear hbl))
  go_ret
  exact ⟨by simp, (by repeat (first | exact Below.refl _ _ | with_reducible refine bl_plus ?_ | with_reducible refine bl_alloc ?_ _ | with_reducible refine bl_drew ?_ | with_reducible refine bl_drewN ?_ _))⟩

end Go.Proofs.YtdncmjlakmkfiaaGreatDoor
