/-
  WALK: PropMerges.
-/
import Derived.Test.YtdncmjlakmkfiaaGreatDoorMgr
import Derived.Test.YtdncmjlakmkfiaaGreatDoorMgs
import Derived.Test.YtdncmjlakmkfiaaGreatDoorAlv
set_option linter.all false
namespace Go.Proofs.YtdncmjlakmkfiaaGreatDoor
open Go.RowKit

set_option maxHeartbeats 3200000 in
set_option maxRecDepth 100000 in
theorem propMerges_any (B A C : List PR) (A0 A1 A2 : Option Addr) (c0 c1 c2 : Nat) (w : World) (h0 : PsAt w A0 B) (h1 : PsAt w A1 A) (h2 : PsAt w A2 C) :
    Calls Tryz.prog 4 #[.slice A0 B.length c0, .slice A1 A.length c1, .slice A2 C.length c2] w fun e w' => e = .returned (.bool true) ∧ Below w.heap.size w w' := by
  have H1 := hide (fun W (hb : Below w.heap.size w W) => merge_any B A C A0 A1 A2 c0 c1 c2 W (h0.below hb) (h1.below hb) (h2.below hb))
  have H2 := hide (fun W (hb : Below w.heap.size w W) => mergeOf_any B A C A0 A1 A2 c0 c1 c2 W (h0.below hb) (h1.below hb) (h2.below hb))
  have H3 := hide (fun l A B c d w hA hB => alike_props A B c d l w hA hB)
  have H4 := hide (fun w c d A B l h1 h2 => equalS_sat w c d A B l h1 h2)
  clear h0 h1 h2
  unfold MgFin at H1 H2
  generalize mgRes B A C = q at *
  obtain ⟨l, nms, code⟩ := q
  simp only at H1 H2
  go_enter Tryz.func4, Tryz.ntmps4
  go_wp2_with (first
    | (go_at_call 9; (refine (H1.out _ (by repeat (first | exact Below.refl _ _ | with_reducible refine bl_plus ?_ | with_reducible refine bl_alloc ?_ _ | with_reducible refine bl_drew ?_ | with_reducible refine bl_drewN ?_ _))).mono ?_); rintro e w' ⟨A3, A4, c3, c4, rfl, hl, hs, hbl⟩; have HA1 := hide hl; have HS1 := hide hs; clear hl hs; obtain ⟨os1, n1, rfl⟩ := below_plus hbl; clear hbl)
    | (go_at_call 10; (refine (H2.out _ (by repeat (first | exact Below.refl _ _ | with_reducible refine bl_plus ?_ | with_reducible refine bl_alloc ?_ _ | with_reducible refine bl_drew ?_ | with_reducible refine bl_drewN ?_ _))).mono ?_); rintro e w' ⟨A5, A6, c5, c6, rfl, hl, hs, hbl⟩; have HA2 := hide hl; have HS2 := hide hs; clear hl hs; obtain ⟨os2, n2, rfl⟩ := below_plus hbl; clear hbl)
    | (go_at_call 8; (refine (H3.out l _ _ _ _ _ (HA1.out.below (by repeat (first | exact Below.refl _ _ | with_reducible refine bl_plus ?_ | with_reducible refine bl_alloc ?_ _ | with_reducible refine bl_drew ?_ | with_reducible refine bl_drewN ?_ _))) (HA2.out.below (by repeat (first | exact Below.refl _ _ | with_reducible refine bl_plus ?_ | with_reducible refine bl_alloc ?_ _ | with_reducible refine bl_drew ?_ | with_reducible refine bl_drewN ?_ _)))).mono ?_); rintro e w' ⟨rfl, hbl⟩; obtain ⟨os3, n3, rfl⟩ := below_plus hbl; clear hbl)
    | (go_at_call 11; (refine (H4.out _ _ _ _ _ nms (HS1.out.below (by repeat (first | exact Below.refl _ _ | with_reducible refine bl_plus ?_ | with_reducible refine bl_alloc ?_ _ | with_reducible refine bl_drew ?_ | with_reducible refine bl_drewN ?_ _))) (HS2.out.below (by repeat (first | exact Below.refl _ _ | with_reducible refine bl_plus ?_ | with_reducible refine bl_alloc ?_ _ | with_reducible refine bl_drew ?_ | with_reducible refine bl_drewN ?_ _)))).mono ?_); rintro e w' ⟨rfl, hbl⟩; obtain ⟨os4, n4, rfl⟩ := below_plus hbl; clear hbl))
  go_ret
  exact ⟨by simp, (by repeat (first | exact Below.refl _ _ | with_reducible refine bl_plus ?_ | with_reducible refine bl_alloc ?_ _ | with_reducible refine bl_drew ?_ | with_reducible refine bl_drewN ?_ _))⟩

end Go.Proofs.YtdncmjlakmkfiaaGreatDoor
