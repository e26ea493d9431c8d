/-
  WALK: PropChecks.
-/
import Derived.Test.YtjaoiehjhnmahaaGreatDoorPcb
import Derived.Test.YtjaoiehjhnmahaaGreatDoorPcc
set_option linter.all false
namespace Go.Proofs.YtjaoiehjhnmahaaGreatDoor
open Go.RowKit Go.Lib Cal

set_option maxHeartbeats 3200000 in
set_option maxRecDepth 100000 in
theorem propChecks_any (l : List PR) (A : Option Addr) (c : Nat) (nm : ByteArray) (w : World) (hp : PowTab w) (hA : PsAt w A l) (hs : nm.size ≤ 9223372036854775807) :
    Calls Tryz.prog 3 #[.slice A l.length c, .string nm] w fun e w' => e = .returned (.bool true) ∧ Below w.heap.size w w' := by
  have H1 := hide (fun W (hb : Below w.heap.size w W) => propsText_any l A c W (powTab_below hp hb) (hA.below hb))
  have H2 := hide (fun W (hb : Below w.heap.size w W) => propsString_any l A c W (powTab_below hp hb) (hA.below hb))
  have H3 := hide (fun W (_ : Below w.heap.size w W) => isName_any nm W hs)
  have H4 := hide (fun W (hb : Below w.heap.size w W) => checkProps_any l A c W (hA.below hb))
  have H5 := hide (fun W (hb : Below w.heap.size w W) => propsFault_any l A c W (hA.below hb))
  have H6 := hide (fun W (_ : Below w.heap.size w W) => checkName_any nm W)
  have hne : nameErr nm = if isName nm.data.toList = true then 0 else 3 := rfl
  rw [hne] at H6
  clear hp hA hs hne
  generalize propsOut l = T at *
  generalize propsErr l = E at *
  cases hn : isName nm.data.toList with
  | true =>
    rw [hn] at H3 H6
    rw [if_pos rfl] at H6
    clear hn
    go_enter Tryz.func3, Tryz.ntmps3
    go_wp2_with (first
      | (go_at_call 6; with_reducible refine (H1.out _ ?hb).mono ?_; (case hb => exact (by repeat (first | exact Below.refl _ _ | with_reducible refine bl_plus ?_ | with_reducible refine bl_alloc ?_ _ | with_reducible refine bl_drew ?_ | with_reducible refine bl_drewN ?_ _))); rintro e w' ⟨rfl, hbl⟩; obtain ⟨os1, n1, rfl⟩ := below_plus hbl; clear hbl)
      | (go_at_call 7; with_reducible refine (H2.out _ ?hb).mono ?_; (case hb => exact (by repeat (first | exact Below.refl _ _ | with_reducible refine bl_plus ?_ | with_reducible refine bl_alloc ?_ _ | with_reducible refine bl_drew ?_ | with_reducible refine bl_drewN ?_ _))); rintro e w' ⟨rfl, hbl⟩; obtain ⟨os2, n2, rfl⟩ := below_plus hbl; clear hbl)
      | (go_at_call 8; with_reducible refine (H3.out _ ?hb).mono ?_; (case hb => exact (by repeat (first | exact Below.refl _ _ | with_reducible refine bl_plus ?_ | with_reducible refine bl_alloc ?_ _ | with_reducible refine bl_drew ?_ | with_reducible refine bl_drewN ?_ _))); rintro e w' ⟨rfl, hbl⟩; obtain ⟨os3, n3, rfl⟩ := below_plus hbl; clear hbl)
      | (go_at_call 9; with_reducible refine (H4.out _ ?hb).mono ?_; (case hb => exact (by repeat (first | exact Below.refl _ _ | with_reducible refine bl_plus ?_ | with_reducible refine bl_alloc ?_ _ | with_reducible refine bl_drew ?_ | with_reducible refine bl_drewN ?_ _))); rintro e w' ⟨rfl, hbl⟩; obtain ⟨os4, n4, rfl⟩ := below_plus hbl; clear hbl)
      | (go_at_call 10; with_reducible refine (H5.out _ ?hb).mono ?_; (case hb => exact (by repeat (first | exact Below.refl _ _ | with_reducible refine bl_plus ?_ | with_reducible refine bl_alloc ?_ _ | with_reducible refine bl_drew ?_ | with_reducible refine bl_drewN ?_ _))); rintro e w' ⟨rfl, hbl⟩; obtain ⟨os5, n5, rfl⟩ := below_plus hbl; clear hbl)
      | (go_at_call 11; with_reducible refine (H6.out _ ?hb).mono ?_; (case hb => exact (by repeat (first | exact Below.refl _ _ | with_reducible refine bl_plus ?_ | with_reducible refine bl_alloc ?_ _ | with_reducible refine bl_drew ?_ | with_reducible refine bl_drewN ?_ _))); rintro e w' ⟨rfl, hbl⟩; obtain ⟨os6, n6, rfl⟩ := below_plus hbl; clear hbl))
    go_ret
    exact ⟨by simp, (by repeat (first | exact Below.refl _ _ | with_reducible refine bl_plus ?_ | with_reducible refine bl_alloc ?_ _ | with_reducible refine bl_drew ?_ | with_reducible refine bl_drewN ?_ _))⟩
  | false =>
    rw [hn] at H3 H6
    rw [if_neg (by decide)] at H6
    clear hn
    go_enter Tryz.func3, Tryz.ntmps3
    go_wp2_with (first
      | (go_at_call 6; with_reducible refine (H1.out _ ?hb).mono ?_; (case hb => exact (by repeat (first | exact Below.refl _ _ | with_reducible refine bl_plus ?_ | with_reducible refine bl_alloc ?_ _ | with_reducible refine bl_drew ?_ | with_reducible refine bl_drewN ?_ _))); rintro e w' ⟨rfl, hbl⟩; obtain ⟨os1, n1, rfl⟩ := below_plus hbl; clear hbl)
      | (go_at_call 7; with_reducible refine (H2.out _ ?hb).mono ?_; (case hb => exact (by repeat (first | exact Below.refl _ _ | with_reducible refine bl_plus ?_ | with_reducible refine bl_alloc ?_ _ | with_reducible refine bl_drew ?_ | with_reducible refine bl_drewN ?_ _))); rintro e w' ⟨rfl, hbl⟩; obtain ⟨os2, n2, rfl⟩ := below_plus hbl; clear hbl)
      | (go_at_call 8; with_reducible refine (H3.out _ ?hb).mono ?_; (case hb => exact (by repeat (first | exact Below.refl _ _ | with_reducible refine bl_plus ?_ | with_reducible refine bl_alloc ?_ _ | with_reducible refine bl_drew ?_ | with_reducible refine bl_drewN ?_ _))); rintro e w' ⟨rfl, hbl⟩; obtain ⟨os3, n3, rfl⟩ := below_plus hbl; clear hbl)
      | (go_at_call 9; with_reducible refine (H4.out _ ?hb).mono ?_; (case hb => exact (by repeat (first | exact Below.refl _ _ | with_reducible refine bl_plus ?_ | with_reducible refine bl_alloc ?_ _ | with_reducible refine bl_drew ?_ | with_reducible refine bl_drewN ?_ _))); rintro e w' ⟨rfl, hbl⟩; obtain ⟨os4, n4, rfl⟩ := below_plus hbl; clear hbl)
      | (go_at_call 10; with_reducible refine (H5.out _ ?hb).mono ?_; (case hb => exact (by repeat (first | exact Below.refl _ _ | with_reducible refine bl_plus ?_ | with_reducible refine bl_alloc ?_ _ | with_reducible refine bl_drew ?_ | with_reducible refine bl_drewN ?_ _))); rintro e w' ⟨rfl, hbl⟩; obtain ⟨os5, n5, rfl⟩ := below_plus hbl; clear hbl)
      | (go_at_call 11; with_reducible refine (H6.out _ ?hb).mono ?_; (case hb => exact (by repeat (first | exact Below.refl _ _ | with_reducible refine bl_plus ?_ | with_reducible refine bl_alloc ?_ _ | with_reducible refine bl_drew ?_ | with_reducible refine bl_drewN ?_ _))); rintro e w' ⟨rfl, hbl⟩; obtain ⟨os6, n6, rfl⟩ := below_plus hbl; clear hbl))
    go_ret
    exact ⟨by simp, (by repeat (first | exact Below.refl _ _ | with_reducible refine bl_plus ?_ | with_reducible refine bl_alloc ?_ _ | with_reducible refine bl_drew ?_ | with_reducible refine bl_drewN ?_ _))⟩

end Go.Proofs.YtjaoiehjhnmahaaGreatDoor
