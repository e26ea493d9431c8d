/-
  WALKS: Replay and the reference's, every input; the law StateReplays.
-/
import Derived.Test.YtokghdcfbbogdaaWalkI
namespace Go.Proofs.Ytokghdcfbbogdaa
open Go.RowKit

set_option maxHeartbeats 800000 in
set_option maxRecDepth 100000 in
theorem replay_new (bl no : Int) (A : Option Addr) (c : Nat) (rs : List Rv) (w : World) (hn : (St.new bl no).2 ≠ 0) :
    Calls Try.prog 13 #[.int .i64 bl, .int .i64 no, .slice A rs.length c] w fun e w' => e = .returned (.tuple #[(replay bl no rs).1.val, .int .i64 (replay bl no rs).2.1, .int .i64 (replay bl no rs).2.2]) ∧ Below w.heap.size w w' := by
  have hR : replay bl no rs = (St.zero, 0, (St.new bl no).2) := by unfold replay; rw [if_neg hn]
  rw [hR]
  have hnew := fun w => new_any bl no w
  rw [St.new_bad hn] at hnew
  generalize (St.new bl no).2 = r at hnew hn ⊢
  simp only [St.zero, St.val] at hnew ⊢
  have H := hide hnew
  clear hnew hR
  have hr0 : (r == 0) = false := by simp [hn]
  clear hn
  go_enter Try.func13, Try.ntmps13
  go_wp2_with (go_at_call 44; refine (H.out _).mono ?_; rintro e w' ⟨rfl, hb⟩; obtain ⟨os, n, rfl⟩ := below_plus hb; clear hb)
  go_returns
  exact ⟨rfl, by repeat (first | exact Below.refl _ _ | refine bl_plus ?_ | refine bl_alloc ?_ _ | refine bl_drew ?_)⟩

set_option maxHeartbeats 800000 in
set_option maxRecDepth 100000 in
theorem replay_long (bl no : Int) (A : Option Addr) (c : Nat) (rs : List Rv) (w : World) (hlen : 20000 < rs.length) (hn : (St.new bl no).2 = 0) :
    Calls Try.prog 13 #[.int .i64 bl, .int .i64 no, .slice A rs.length c] w fun e w' => e = .returned (.tuple #[(replay bl no rs).1.val, .int .i64 (replay bl no rs).2.1, .int .i64 (replay bl no rs).2.2]) ∧ Below w.heap.size w w' := by
  have hR : replay bl no rs = (St.zero, 0, 4) := by unfold replay; rw [if_pos hn, if_pos (by omega)]
  rw [hR]
  have hnew := fun w => new_any bl no w
  rw [(St.new_ok hn).1, hn] at hnew
  simp only [St.fresh, St.zero, St.val] at hnew ⊢
  have H := hide hnew
  clear hnew hR hn
  have hlen' : (20000 : Int) < (rs.length : Int) := by omega
  go_enter Try.func13, Try.ntmps13
  go_wp2_with (go_at_call 44; refine (H.out _).mono ?_; rintro e w' ⟨rfl, hb⟩; obtain ⟨os, n, rfl⟩ := below_plus hb; clear hb)
  go_returns
  exact ⟨rfl, by repeat (first | exact Below.refl _ _ | refine bl_plus ?_ | refine bl_alloc ?_ _ | refine bl_drew ?_)⟩

theorem replay_any (bl no : Int) (A : Option Addr) (c : Nat) (rs : List Rv) (w : World) (hA : RvsAt w A rs) :
    Calls Try.prog 13 #[.int .i64 bl, .int .i64 no, .slice A rs.length c] w fun e w' => e = .returned (.tuple #[(replay bl no rs).1.val, .int .i64 (replay bl no rs).2.1, .int .i64 (replay bl no rs).2.2]) ∧ Below w.heap.size w w' := by
  by_cases hn : (St.new bl no).2 = 0
  · by_cases hl : rs.length ≤ 20000
    · exact replay_run bl no A c rs w hA hl hn
    · exact replay_long bl no A c rs w (by omega) hn
  · exact replay_new bl no A c rs w hn

set_option maxHeartbeats 800000 in
set_option maxRecDepth 100000 in
theorem replayOf_new (bl no : Int) (A : Option Addr) (c : Nat) (rs : List Rv) (w : World) (hn : (St.new bl no).2 ≠ 0) :
    Calls Try.prog 14 #[.int .i64 bl, .int .i64 no, .slice A rs.length c] w fun e w' => e = .returned (.tuple #[(replay bl no rs).1.val, .int .i64 (replay bl no rs).2.1, .int .i64 (replay bl no rs).2.2]) ∧ Below w.heap.size w w' := by
  have hR : replay bl no rs = (St.zero, 0, (St.new bl no).2) := by unfold replay; rw [if_neg hn]
  rw [hR]
  have hnew := fun w => newOf_any bl no w
  rw [St.new_bad hn] at hnew
  generalize (St.new bl no).2 = r at hnew hn ⊢
  simp only [St.zero, St.val] at hnew ⊢
  have H := hide hnew
  clear hnew hR
  have hr0 : (r == 0) = false := by simp [hn]
  clear hn
  go_enter Try.func14, Try.ntmps14
  go_wp2_with (go_at_call 57; refine (H.out _).mono ?_; rintro e w' ⟨rfl, hb⟩; obtain ⟨os, n, rfl⟩ := below_plus hb; clear hb)
  go_returns
  exact ⟨rfl, by repeat (first | exact Below.refl _ _ | refine bl_plus ?_ | refine bl_alloc ?_ _ | refine bl_drew ?_)⟩

set_option maxHeartbeats 800000 in
set_option maxRecDepth 100000 in
theorem replayOf_long (bl no : Int) (A : Option Addr) (c : Nat) (rs : List Rv) (w : World) (hlen : 20000 < rs.length) (hn : (St.new bl no).2 = 0) :
    Calls Try.prog 14 #[.int .i64 bl, .int .i64 no, .slice A rs.length c] w fun e w' => e = .returned (.tuple #[(replay bl no rs).1.val, .int .i64 (replay bl no rs).2.1, .int .i64 (replay bl no rs).2.2]) ∧ Below w.heap.size w w' := by
  have hR : replay bl no rs = (St.zero, 0, 4) := by unfold replay; rw [if_pos hn, if_pos (by omega)]
  rw [hR]
  have hnew := fun w => newOf_any bl no w
  rw [(St.new_ok hn).1, hn] at hnew
  simp only [St.fresh, St.zero, St.val] at hnew ⊢
  have H := hide hnew
  clear hnew hR hn
  have hlen' : (20000 : Int) < (rs.length : Int) := by omega
  go_enter Try.func14, Try.ntmps14
  go_wp2_with (go_at_call 57; refine (H.out _).mono ?_; rintro e w' ⟨rfl, hb⟩; obtain ⟨os, n, rfl⟩ := below_plus hb; clear hb)
  go_returns
  exact ⟨rfl, by repeat (first | exact Below.refl _ _ | refine bl_plus ?_ | refine bl_alloc ?_ _ | refine bl_drew ?_)⟩

theorem replayOf_any (bl no : Int) (A : Option Addr) (c : Nat) (rs : List Rv) (w : World) (hA : RvsAt w A rs) :
    Calls Try.prog 14 #[.int .i64 bl, .int .i64 no, .slice A rs.length c] w fun e w' => e = .returned (.tuple #[(replay bl no rs).1.val, .int .i64 (replay bl no rs).2.1, .int .i64 (replay bl no rs).2.2]) ∧ Below w.heap.size w w' := by
  by_cases hn : (St.new bl no).2 = 0
  · by_cases hl : rs.length ≤ 20000
    · exact replayOf_run bl no A c rs w hA hl hn
    · exact replayOf_long bl no A c rs w (by omega) hn
  · exact replayOf_new bl no A c rs w hn

theorem RvsAt.plus {w : World} {A : Option Addr} {rs : List Rv} (h : RvsAt w A rs) (os : Array Obj) (n : Nat) : RvsAt (plus w os n) A rs := by
  intro hl
  obtain ⟨b, off, hA, hb, hc⟩ := h hl
  refine ⟨b, off, hA, by rw [plus_size]; omega, fun j hj => ?_⟩
  rw [plus_cell hb, plus_cell hb, plus_cell hb, plus_cell hb]
  exact hc j hj
theorem RvsAt.alloc {w : World} {A : Option Addr} {rs : List Rv} (h : RvsAt w A rs) (o : Obj) : RvsAt (w.alloc o) A rs := by
  intro hl
  obtain ⟨b, off, hA, hb, hc⟩ := h hl
  refine ⟨b, off, hA, by rw [World.size_alloc]; omega, fun j hj => ?_⟩
  rw [World.cell?_alloc_past _ _ _ hb, World.cell?_alloc_past _ _ _ hb, World.cell?_alloc_past _ _ _ hb, World.cell?_alloc_past _ _ _ hb]
  exact hc j hj

theorem run_eql_st (x : St) (w : World) : (binOp .eql 24 x.val x.val).run Try.prog w = .ok (.bool true) w := by
  obtain ⟨bl, no, st, ea, du, la, ti, lp, bu⟩ := x
  unfold St.val
  simp [go_sem]

set_option maxHeartbeats 800000 in
set_option maxRecDepth 100000 in
theorem stateReplays_any (bl no : Int) (A : Option Addr) (c : Nat) (rs : List Rv) (w : World) (hA : RvsAt w A rs) :
    Calls Try.prog 3 #[.int .i64 bl, .int .i64 no, .slice A rs.length c] w fun e w' => e = .returned (.bool true) ∧ Below w.heap.size w w' := by
  have h1 := fun w h => replay_any bl no A c rs w h
  have h2 := fun w h => replayOf_any bl no A c rs w h
  generalize replay bl no rs = p at h1 h2
  obtain ⟨x, i, r⟩ := p
  simp only [St.val] at h1 h2
  have H1 := hide h1
  have H2 := hide h2
  have HA := hide hA
  clear h1 h2 hA
  go_enter Try.func3, Try.ntmps3
  go_wp2_with (first | (go_at_call 13; refine (H1.out _ HA.out).mono ?_; rintro e w' ⟨rfl, hb⟩; obtain ⟨os, n, rfl⟩ := below_plus hb; clear hb) | (go_at_call 14; refine (H2.out _ ((HA.out.plus _ _).alloc _)).mono ?_; rintro e w' ⟨rfl, hb⟩; obtain ⟨os, n, rfl⟩ := below_plus hb; clear hb))
  go_ret
  exact ⟨rfl, by repeat (first | exact Below.refl _ _ | refine bl_plus ?_ | refine bl_alloc ?_ _ | refine bl_drew ?_)⟩

end Go.Proofs.Ytokghdcfbbogdaa
