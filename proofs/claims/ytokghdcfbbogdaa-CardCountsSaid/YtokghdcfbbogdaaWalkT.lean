/-
  WALKS: Kept and the reference's.
-/
import Derived.Test.YtokghdcfbbogdaaKept
namespace Go.Proofs.Ytokghdcfbbogdaa
open Go.RowKit

set_option maxHeartbeats 1600000 in
set_option maxRecDepth 100000 in
theorem kept_run (A : Option Addr) (c : Nat) (rs : List Rv) (a b : Int) (w : World) (hA : RvsAt w A rs) (hlen : rs.length ≤ 20000) (hab : a ≤ b) :
    Calls Try.prog 35 #[.slice A rs.length c, .int .i64 a, .int .i64 b] w fun e w' => e = .returned (.tuple #[.int .i64 (kept a b rs).1, .int .i64 (kept a b rs).2.1, .int .i64 (kept a b rs).2.2]) ∧ Below w.heap.size w w' := by
  have hR : kept a b rs = ((keptGood a b rs : Int), (keptAll a b rs : Int), (0 : Int)) := by unfold kept; rw [if_neg (by omega), if_neg (by omega)]
  rw [hR]
  have HA := hide hA
  clear hR hA
  have hlen' : ¬ (20000 : Int) < (rs.length : Int) := by omega
  have hab' : ¬ b < a := by omega
  go_enter Try.func35, Try.ntmps35
  go_wp2
  go_loopw [6, 7, 21] (fun g al i wr => ∃ (k : Nat) (os : Array Obj) (n : Nat), k ≤ rs.length ∧ i = .int .i64 k ∧ g = .int .i64 (keptGood a b (rs.take k)) ∧ al = .int .i64 (keptAll a b (rs.take k)) ∧ wr = plus w os n)
    (fun _ _ i _ => rs.length - (intOf i).toNat)
  case atStart => exact ⟨0, #[], _, Nat.zero_le _, rfl, rfl, rfl, plus_nil.symm⟩
  case round =>
    obtain ⟨k, os, n, hk, rfl, rfl, rfl, rfl⟩ := hrel
    have hg := keptGood_le a b (rs.take k)
    have ha := keptAll_le a b (rs.take k)
    rw [List.length_take] at hg ha
    by_cases hlt : k < rs.length
    · obtain ⟨b0, off, rfl, hb, hcell⟩ := HA.out (by omega)
      obtain ⟨c0, c1, c2, c3⟩ := hcell k hlt
      clear hcell
      generalize hx : rs[k] = x at c0 c1 c2 c3
      have Hx := hide hx
      clear hx
      by_cases ho : x.da < a ∨ b < x.da
      · have Ho := hide ho
        go_wp2_with (go_at_call 61; refine (outside_yes _ _ _ _ Ho.out).mono ?_; rintro e w' ⟨rfl, rfl⟩)
        go_roundw
        case rel => exact ⟨k + 1, _, _, hlt, by go_num, by rw [keptGood_take a b rs k hlt, Hx.out, if_pos Ho.out]; go_num, by rw [keptAll_take a b rs k hlt, Hx.out, if_pos Ho.out]; go_num, by rw [plus_alloc]⟩
        case measure => simp [intOf]; omega
      · have Ho := hide ho
        by_cases hgr : 1 < x.gr
        · go_wp2_with (go_at_call 61; refine (outside_no _ _ _ _ (by have := Ho.out; omega) (by have := Ho.out; omega)).mono ?_; rintro e w' ⟨rfl, rfl⟩)
          go_roundw
          case rel => exact ⟨k + 1, _, _, hlt, by go_num, by rw [keptGood_take a b rs k hlt, Hx.out, if_neg Ho.out, if_pos hgr]; go_num, by rw [keptAll_take a b rs k hlt, Hx.out, if_neg Ho.out]; go_num, by rw [plus_alloc]⟩
          case measure => simp [intOf]; omega
        · go_wp2_with (go_at_call 61; refine (outside_no _ _ _ _ (by have := Ho.out; omega) (by have := Ho.out; omega)).mono ?_; rintro e w' ⟨rfl, rfl⟩)
          go_roundw
          case rel => exact ⟨k + 1, _, _, hlt, by go_num, by rw [keptGood_take a b rs k hlt, Hx.out, if_neg Ho.out, if_neg (by omega)]; go_num, by rw [keptAll_take a b rs k hlt, Hx.out, if_neg Ho.out]; go_num, by rw [plus_alloc]⟩
          case measure => simp [intOf]; omega
    · have hkl : k = rs.length := by omega
      go_wp2
      go_returns
      exact ⟨by rw [hkl, List.take_length]; rfl, by repeat (first | exact Below.refl _ _ | refine bl_plus ?_ | refine bl_alloc ?_ _ | refine bl_drew ?_)⟩

set_option maxHeartbeats 400000 in
set_option maxRecDepth 100000 in
theorem kept_any (A : Option Addr) (c : Nat) (rs : List Rv) (a b : Int) (w : World) (hA : RvsAt w A rs) :
    Calls Try.prog 35 #[.slice A rs.length c, .int .i64 a, .int .i64 b] w fun e w' => e = .returned (.tuple #[.int .i64 (kept a b rs).1, .int .i64 (kept a b rs).2.1, .int .i64 (kept a b rs).2.2]) ∧ Below w.heap.size w w' := by
  by_cases hl : 20000 < rs.length
  · have hR : kept a b rs = ((0 : Int), (0 : Int), (4 : Int)) := by unfold kept; rw [if_pos hl]
    rw [hR]
    have hl' : (20000 : Int) < (rs.length : Int) := by omega
    clear hR hA
    go_enter Try.func35, Try.ntmps35
    go_wp2
    go_returns
    exact ⟨rfl, Below.refl _ _⟩
  · by_cases hab : b < a
    · have hR : kept a b rs = ((0 : Int), (0 : Int), (5 : Int)) := by unfold kept; rw [if_neg hl, if_pos hab]
      rw [hR]
      have hl' : ¬ (20000 : Int) < (rs.length : Int) := by omega
      clear hR hA
      go_enter Try.func35, Try.ntmps35
      go_wp2
      go_returns
      exact ⟨rfl, Below.refl _ _⟩
    · exact kept_run A c rs a b w hA (by omega) (by omega)

end Go.Proofs.Ytokghdcfbbogdaa
