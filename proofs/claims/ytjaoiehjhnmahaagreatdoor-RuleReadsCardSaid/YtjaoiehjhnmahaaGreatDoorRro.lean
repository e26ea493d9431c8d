/-
  WALK: RuleReads.
-/
import Derived.Test.YtjaoiehjhnmahaaGreatDoorRrk
import Derived.Test.YtjaoiehjhnmahaaGreatDoorRrl
import Derived.Test.YtjaoiehjhnmahaaGreatDoorRrn
set_option linter.all false
namespace Go.Proofs.YtjaoiehjhnmahaaGreatDoor
open Go.RowKit

set_option maxHeartbeats 3200000 in
set_option maxRecDepth 100000 in
theorem ruleReads_any (s : ByteArray) (w : World) (hp : PowTab w) (hm : MaxTold w) (bu ou cu bs os' cs : Nat) (hU : StrsTab w 0 bu ou cu unitsL) (hS : StrsTab w 1 bs os' cs wdaysL) :
    Calls Tryz.prog 4 #[.string s] w fun e w' => e = .returned (.bool true) ∧ Below w.heap.size w w' := by
  have H1 := hide (fun W (hb : Below w.heap.size w W) PO hPO => readRule_any s W (powTab_below hp hb) (maxTold_below hm hb) PO hPO)
  have H2 := hide (fun W (hb : Below w.heap.size w W) PO hPO => readRuleOf_any s W (maxTold_below hm hb) bu ou cu bs os' cs (hU.below hb) (hS.below hb) PO hPO)
  have H3 := hide (fun r v v' W h h' => alikeR_any r v v' W h h')
  clear hp hm hU hS
  generalize readR s = q at *
  obtain ⟨r, code⟩ := q
  simp only at H1 H2
  go_enter Tryz.func4, Tryz.ntmps4
  go_wp2_with (first
    | (go_at_call 12; refine H1.out _ (by repeat (first | exact Below.refl _ _ | with_reducible refine bl_plus ?_ | with_reducible refine bl_alloc ?_ _ | with_reducible refine bl_drew ?_ | with_reducible refine bl_drewN ?_ _)) _ ?_; intro w' v hra hbl; obtain ⟨os1, n1, rfl⟩ := below_plus hbl; have HA1 := hide hra; obtain ⟨A, B, C, a, b, c, rfl, -⟩ := hra.ex; clear hra hbl)
    | (go_at_call 13; refine H2.out _ (by repeat (first | exact Below.refl _ _ | with_reducible refine bl_plus ?_ | with_reducible refine bl_alloc ?_ _ | with_reducible refine bl_drew ?_ | with_reducible refine bl_drewN ?_ _)) _ ?_; intro w' v hra hbl; obtain ⟨os2, n2, rfl⟩ := below_plus hbl; have HA2 := hide hra; obtain ⟨A', B', C', a', b', c', rfl, -⟩ := hra.ex; clear hra hbl)
    | (go_at_call 14; refine (H3.out r _ _ _ (HA1.out.below (by repeat (first | exact Below.refl _ _ | with_reducible refine bl_plus ?_ | with_reducible refine bl_alloc ?_ _ | with_reducible refine bl_drew ?_ | with_reducible refine bl_drewN ?_ _))) (HA2.out.below (by repeat (first | exact Below.refl _ _ | with_reducible refine bl_plus ?_ | with_reducible refine bl_alloc ?_ _ | with_reducible refine bl_drew ?_ | with_reducible refine bl_drewN ?_ _)))).mono ?_; rintro e w' ⟨rfl, hbl⟩; obtain ⟨os3, n3, rfl⟩ := below_plus hbl; clear hbl))
  go_ret
  exact ⟨by simp, (by repeat (first | exact Below.refl _ _ | with_reducible refine bl_plus ?_ | with_reducible refine bl_alloc ?_ _ | with_reducible refine bl_drew ?_ | with_reducible refine bl_drewN ?_ _))⟩

end Go.Proofs.YtjaoiehjhnmahaaGreatDoor
