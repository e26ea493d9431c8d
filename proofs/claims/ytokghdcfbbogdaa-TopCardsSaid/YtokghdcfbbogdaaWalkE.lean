/-
  WALKS: graded.
-/
import Derived.Test.YtokghdcfbbogdaaWalkD
import Derived.Deep.DeepCutAuto
namespace Go.Proofs.Ytokghdcfbbogdaa
open Go.RowKit
attribute [local go_sem high] run_max_i run_min_i

theorem idx5_0 (a0 a1 a2 a3 a4 : Int) (w : World) : (Instr.index 114 (.agg #[.int .i64 a0, .int .i64 a1, .int .i64 a2, .int .i64 a3, .int .i64 a4]) (.int .i64 0)).run Try.prog w = .ok (.int .i64 a0) w := by kernel_rfl
theorem idx5_1 (a0 a1 a2 a3 a4 : Int) (w : World) : (Instr.index 114 (.agg #[.int .i64 a0, .int .i64 a1, .int .i64 a2, .int .i64 a3, .int .i64 a4]) (.int .i64 1)).run Try.prog w = .ok (.int .i64 a1) w := by kernel_rfl
theorem idx5_2 (a0 a1 a2 a3 a4 : Int) (w : World) : (Instr.index 114 (.agg #[.int .i64 a0, .int .i64 a1, .int .i64 a2, .int .i64 a3, .int .i64 a4]) (.int .i64 2)).run Try.prog w = .ok (.int .i64 a2) w := by kernel_rfl
theorem idx5_3 (a0 a1 a2 a3 a4 : Int) (w : World) : (Instr.index 114 (.agg #[.int .i64 a0, .int .i64 a1, .int .i64 a2, .int .i64 a3, .int .i64 a4]) (.int .i64 3)).run Try.prog w = .ok (.int .i64 a3) w := by kernel_rfl
theorem idx5_4 (a0 a1 a2 a3 a4 : Int) (w : World) : (Instr.index 114 (.agg #[.int .i64 a0, .int .i64 a1, .int .i64 a2, .int .i64 a3, .int .i64 a4]) (.int .i64 4)).run Try.prog w = .ok (.int .i64 a4) w := by kernel_rfl
theorem idx3_0 (a0 a1 a2 : Int) (w : World) : (Instr.index 81 (.agg #[.int .i64 a0, .int .i64 a1, .int .i64 a2]) (.int .i64 0)).run Try.prog w = .ok (.int .i64 a0) w := by kernel_rfl
theorem idx3_1 (a0 a1 a2 : Int) (w : World) : (Instr.index 81 (.agg #[.int .i64 a0, .int .i64 a1, .int .i64 a2]) (.int .i64 1)).run Try.prog w = .ok (.int .i64 a1) w := by kernel_rfl
theorem idx3_2 (a0 a1 a2 : Int) (w : World) : (Instr.index 81 (.agg #[.int .i64 a0, .int .i64 a1, .int .i64 a2]) (.int .i64 2)).run Try.prog w = .ok (.int .i64 a2) w := by kernel_rfl
attribute [local go_sem] idx5_0 idx5_1 idx5_2 idx5_3 idx5_4 idx3_0 idx3_1 idx3_2

set_option maxHeartbeats 2000000 in
set_option maxRecDepth 100000 in
theorem graded_any (x : St) (g d : Int) (w : World) (hx : x.Good) (hg : g = 1 ∨ g = 2 ∨ g = 3 ∨ g = 4) (h7 : 0 ≤ d) (h8 : d ≤ 100000) :
    Calls Try.prog 56 #[x.val, .int .i64 g, .int .i64 d] w fun e w' => e = .returned (x.graded g d).val ∧ Below w.heap.size w w' := by
  have hst := fun w => steps_any x d w hx h7 h8
  obtain ⟨S, E, L, hcase, hV⟩ := x.graded_cases g d hg
  rw [hV]
  generalize x.sh d = sh at hst hcase
  generalize x.sg d = sg at hst hcase
  generalize x.se d = se at hst hcase
  clear hV hg
  obtain ⟨bl, no, st, ea, du, la, ti, lp, bu⟩ := x
  obtain ⟨-, -, -, ⟨e1, e2⟩, -, -, -, ⟨t1, t2⟩, ⟨l1, l2⟩⟩ := hx
  simp only [St.val] at hst ⊢
  simp only at e1 e2 t1 t2 l1 l2 hcase
  have H := hide hst
  clear hst
  rcases hcase with ⟨rfl, hs, hS, hE, hL⟩ | ⟨rfl, hs, hS, hE, hL⟩ | ⟨rfl, hS, hE, hL⟩ | ⟨rfl, hS, hE, hL⟩ | ⟨rfl, hS, hE, hL⟩
  all_goals
    have HS := hide hS
    have HE := hide hE
    have HL := hide hL
    clear hS hE hL
    go_enter Try.func56, Try.ntmps56
    go_upto_region 6 with (go_at_call 90; refine (H.out _).mono ?_; rintro e w' ⟨rfl, hb⟩; obtain ⟨os, n, rfl⟩ := below_plus hb; clear hb)
    go_big_region
    go_wp2
    go_returns
    exact ⟨by rw [HS.out, HE.out, HL.out], plus_below ((((Below.refl _ _).alloc (Nat.le_refl _) _).alloc (by simp) _).alloc (by simp; omega) _) (by simp; omega)⟩

end Go.Proofs.Ytokghdcfbbogdaa
