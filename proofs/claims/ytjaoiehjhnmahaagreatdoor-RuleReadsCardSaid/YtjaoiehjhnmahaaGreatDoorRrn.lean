/-
  WALKS: Alike of two rules that read alike.
-/
import Derived.Test.YtjaoiehjhnmahaaGreatDoorInts
import Derived.Test.YtjaoiehjhnmahaaGreatDoorRlb
set_option linter.all false
namespace Go.Proofs.YtjaoiehjhnmahaaGreatDoor
open Go.RowKit

set_option maxHeartbeats 3200000 in
set_option maxRecDepth 100000 in
theorem alikeRule_any (r : Rul) (v v' : Value) (w : World) (h : RulAt w r v) (h' : RulAt w r v') :
    Calls Tryz.prog 46 #[v, v'] w fun e w' => e = .returned (.bool true) ∧ Below w.heap.size w w' := by
  obtain ⟨A, B, C, a, b, c, rfl, h1, h2, h3, h4, h5, h6⟩ := h.ex
  obtain ⟨A', B', C', a', b', c', rfl, g1, g2, g3, -, -, -⟩ := h'.ex
  have H1 := hide (fun W (hb : Below w.heap.size w W) => equalInts_same A A' a a' r.wd W (h1.below hb) (g1.below hb) h4)
  have H2 := hide (fun W (hb : Below w.heap.size w W) => equalInts_same B B' b b' r.da W (h2.below hb) (g2.below hb) h5)
  have H3 := hide (fun W (hb : Below w.heap.size w W) => equalInts_same C C' c c' r.sk W (h3.below hb) (g3.below hb) h6)
  clear h h' h1 h2 h3 h4 h5 h6 g1 g2 g3
  generalize r.wd.length = l1 at *
  generalize r.da.length = l2 at *
  generalize r.sk.length = l3 at *
  generalize r.u = u at *
  generalize r.e = e at *
  generalize r.f = f at *
  generalize r.t = t at *
  generalize r.c = cc at *
  generalize r.n = n at *
  go_enter Tryz.func46, Tryz.ntmps46
  go_wp2_with (go_at_call 50; first
    | (with_reducible refine (H1.out _ ?hb).mono ?_; (case hb => exact (by repeat (first | exact Below.refl _ _ | with_reducible refine bl_plus ?_ | with_reducible refine bl_alloc ?_ _ | with_reducible refine bl_drew ?_ | with_reducible refine bl_drewN ?_ _))); rintro e w' ⟨rfl, hbl⟩; obtain ⟨os1, n1, rfl⟩ := below_plus hbl; clear hbl)
    | (with_reducible refine (H2.out _ ?hb).mono ?_; (case hb => exact (by repeat (first | exact Below.refl _ _ | with_reducible refine bl_plus ?_ | with_reducible refine bl_alloc ?_ _ | with_reducible refine bl_drew ?_ | with_reducible refine bl_drewN ?_ _))); rintro e w' ⟨rfl, hbl⟩; obtain ⟨os2, n2, rfl⟩ := below_plus hbl; clear hbl)
    | (with_reducible refine (H3.out _ ?hb).mono ?_; (case hb => exact (by repeat (first | exact Below.refl _ _ | with_reducible refine bl_plus ?_ | with_reducible refine bl_alloc ?_ _ | with_reducible refine bl_drew ?_ | with_reducible refine bl_drewN ?_ _))); rintro e w' ⟨rfl, hbl⟩; obtain ⟨os3, n3, rfl⟩ := below_plus hbl; clear hbl))
  go_ret
  exact ⟨rfl, (by repeat (first | exact Below.refl _ _ | with_reducible refine bl_plus ?_ | with_reducible refine bl_alloc ?_ _ | with_reducible refine bl_drew ?_ | with_reducible refine bl_drewN ?_ _))⟩

theorem assertNo0 (v : Value) (w : World) : (Instr.typeAssert (.iface 32 v) 20 49 true).run Tryz.prog w = .ok (.tuple #[((Tryz.prog.info? 49).bind (·.zero)).getD undef, .bool false]) w := by kernel_rfl
theorem assertNo1 (v : Value) (w : World) : (Instr.typeAssert (.iface 32 v) 20 22 true).run Tryz.prog w = .ok (.tuple #[((Tryz.prog.info? 22).bind (·.zero)).getD undef, .bool false]) w := by kernel_rfl
theorem assertNo2 (v : Value) (w : World) : (Instr.typeAssert (.iface 32 v) 20 79 true).run Tryz.prog w = .ok (.tuple #[((Tryz.prog.info? 79).bind (·.zero)).getD undef, .bool false]) w := by kernel_rfl
theorem assertNo3 (v : Value) (w : World) : (Instr.typeAssert (.iface 32 v) 20 82 true).run Tryz.prog w = .ok (.tuple #[((Tryz.prog.info? 82).bind (·.zero)).getD undef, .bool false]) w := by kernel_rfl
theorem assertNo4 (v : Value) (w : World) : (Instr.typeAssert (.iface 32 v) 20 88 true).run Tryz.prog w = .ok (.tuple #[((Tryz.prog.info? 88).bind (·.zero)).getD undef, .bool false]) w := by kernel_rfl
theorem assertNo5 (v : Value) (w : World) : (Instr.typeAssert (.iface 32 v) 20 38 true).run Tryz.prog w = .ok (.tuple #[((Tryz.prog.info? 38).bind (·.zero)).getD undef, .bool false]) w := by kernel_rfl
theorem assertNo6 (v : Value) (w : World) : (Instr.typeAssert (.iface 32 v) 20 106 true).run Tryz.prog w = .ok (.tuple #[((Tryz.prog.info? 106).bind (·.zero)).getD undef, .bool false]) w := by kernel_rfl
theorem assertYes (v : Value) (w : World) : (Instr.typeAssert (.iface 32 v) 20 32 true).run Tryz.prog w = .ok (.tuple #[v, .bool true]) w := by kernel_rfl
set_option maxHeartbeats 3200000 in
set_option maxRecDepth 100000 in
theorem alikeR_any (r : Rul) (v v' : Value) (w : World) (h : RulAt w r v) (h' : RulAt w r v') :
    Calls Tryz.prog 14 #[.iface 32 v, .iface 32 v'] w fun e w' => e = .returned (.bool true) ∧ Below w.heap.size w w' := by
  have H := hide (fun W (hb : Below w.heap.size w W) => alikeRule_any r v v' W (h.below hb) (h'.below hb))
  obtain ⟨A, B, C, a, b, c, rfl, -⟩ := h.ex
  obtain ⟨A', B', C', a', b', c', rfl, -⟩ := h'.ex
  clear h h'
  have n0 := assertNo0
  have n1 := assertNo1
  have n2 := assertNo2
  have n3 := assertNo3
  have n4 := assertNo4
  have n5 := assertNo5
  have n6 := assertNo6
  have ny := assertYes
  go_enter Tryz.func14, Tryz.ntmps14
  go_wp2_with (go_at_call 46; go_loud (refine (H.out _ ?hb).mono ?_; (case hb => exact (by repeat (first | exact Below.refl _ _ | with_reducible refine bl_plus ?_ | with_reducible refine bl_alloc ?_ _ | with_reducible refine bl_drew ?_ | with_reducible refine bl_drewN ?_ _))); rintro e w' ⟨rfl, hbl⟩; obtain ⟨os1, n1, rfl⟩ := below_plus hbl; clear hbl))
  go_ret
  exact ⟨rfl, (by repeat (first | exact Below.refl _ _ | with_reducible refine bl_plus ?_ | with_reducible refine bl_alloc ?_ _ | with_reducible refine bl_drew ?_ | with_reducible refine bl_drewN ?_ _))⟩

end Go.Proofs.YtjaoiehjhnmahaaGreatDoor
