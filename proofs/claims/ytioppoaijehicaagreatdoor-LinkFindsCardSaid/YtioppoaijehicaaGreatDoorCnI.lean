/-
  WALKS: slices.Index and Contains at []int.
-/
import Derived.Test.YtioppoaijehicaaGreatDoorInts
import Derived.IntWalk
set_option linter.all false
namespace Go.Proofs.YtioppoaijehicaaGreatDoor
open Go.RowKit

def IdxOut (P : Prop) (w : World) (e : Ending) (w' : World) : Prop := ∃ r : Int, e = .returned (.int .i64 r) ∧ (0 ≤ r ↔ P) ∧ w = w'

theorem idxOut_some {P : Prop} {w : World} {k : Nat} (h : P) : IdxOut P w (.returned (.int .i64 k)) w := ⟨k, rfl, ⟨fun _ => h, fun _ => by omega⟩, rfl⟩

theorem idxOut_none {P : Prop} {w : World} (h : ¬ P) : IdxOut P w (.returned (.int .i64 (-1))) w := ⟨-1, rfl, ⟨fun hh => absurd hh (by omega), fun hh => absurd hh h⟩, rfl⟩

theorem idxOut_cases {P : Prop} [Decidable P] {w : World} {e : Ending} {w' : World} (h : IdxOut P w e w') : ∃ r : Int, e = .returned (.int .i64 r) ∧ w = w' ∧ decide (0 ≤ r) = decide P := by
  obtain ⟨r, h1, h2, h3⟩ := h
  exact ⟨r, h1, h3, by rw [decide_eq_decide]; exact h2⟩

set_option maxHeartbeats 1600000 in
set_option maxRecDepth 100000 in
theorem indexI_any (A : Option Addr) (c : Nat) (l : List Int) (y : Int) (w : World) (hA : IntsAt w A l) (hm : l.length ≤ 1000000) :
    Calls Tryz.prog 81 #[.slice A l.length c, .int .i64 y] w (IdxOut (y ∈ l) w) := by
  have HA := hide hA
  clear hA
  go_enter Tryz.func81, Tryz.ntmps81
  go_wp2
  go_loop [8] (fun i => ∃ k : Nat, k ≤ l.length ∧ i = .int .i64 k ∧ Hid (y ∉ l.take k)) (fun i => l.length - (intOf i).toNat)
  case atStart => exact ⟨0, Nat.zero_le _, rfl, hide (by simp)⟩
  case round =>
    obtain ⟨k, hk, rfl, HN⟩ := hrel
    by_cases hlt : k < l.length
    · obtain ⟨b, off, rfl, hb, hcell⟩ := HA.out (by omega)
      have c1 := hcell k hlt
      clear hcell
      have hi : (k : Int) < (l.length : Int) := by omega
      by_cases he : y = l[k]
      · have HM := hide (he ▸ List.getElem_mem hlt : y ∈ l)
        rw [← he] at c1
        clear he
        go_wp2
        go_ret
        exact idxOut_some HM.out
      · have HM := hide (show y ∉ l.take (k + 1) by
          rw [List.take_succ_eq_append_getElem hlt, List.mem_append]
          intro h
          rcases h with h | h
          · exact HN.out h
          · exact he (by simpa using h))
        have hb2 : (y == l[k]) = false := by simp [he]
        generalize l[k] = x at *
        clear he
        go_wp2
        go_round
        case rel => exact ⟨k + 1, by omega, by go_num, HM⟩
        case measure => simp [intOf]; omega
    · have HM := hide (show y ∉ l by have := HN.out; rwa [List.take_of_length_le (by omega)] at this)
      have hi : ¬ (k : Int) < (l.length : Int) := by omega
      go_wp2
      go_ret
      exact idxOut_none HM.out

set_option maxHeartbeats 1600000 in
theorem containsI_any (A : Option Addr) (c : Nat) (l : List Int) (y : Int) (w : World) (hA : IntsAt w A l) (hm : l.length ≤ 1000000) :
    Calls Tryz.prog 44 #[.slice A l.length c, .int .i64 y] w fun e w' => e = .returned (.bool (decide (y ∈ l))) ∧ w = w' := by
  have HI := hide (indexI_any A c l y w hA hm)
  generalize hq : decide (y ∈ l) = q
  have HQ := hide hq
  clear hA hq
  go_enter Tryz.func44, Tryz.ntmps44
  go_wp2_with (go_at_call 81; refine HI.out.mono ?_; intro e w' hq; obtain ⟨r, rfl, rfl, hr⟩ := idxOut_cases hq; have HR := hide hr; clear hr hq)
  go_ret
  exact ⟨ret_bool (by rw [HR.out, HQ.out]), rfl⟩

end Go.Proofs.YtioppoaijehicaaGreatDoor
