/-
  WALKS: GradeOf, the reference's Grade; Grade itself.
-/
import Derived.Test.YtokghdcfbbogdaaWalkE
import Derived.Test.YtokghdcfbbogdaaWalkF
namespace Go.Proofs.Ytokghdcfbbogdaa
open Go.RowKit
attribute [local go_sem high] run_max_i run_min_i
attribute [local go_sem] idx5_0 idx5_1 idx5_2 idx5_3 idx5_4 idx3_0 idx3_1 idx3_2

theorem tup_st {a0 a1 a2 a3 a4 a5 a6 a7 a8 b0 b1 b2 b3 b4 b5 b6 b7 b8 r s : Int} (h0 : a0 = b0) (h1 : a1 = b1) (h2 : a2 = b2) (h3 : a3 = b3) (h4 : a4 = b4) (h5 : a5 = b5) (h6 : a6 = b6) (h7 : a7 = b7) (h8 : a8 = b8) (h : r = s) :
    Ending.returned (.tuple #[.agg #[.int .i64 a0, .int .i64 a1, .int .i64 a2, .int .i64 a3, .int .i64 a4, .int .i64 a5, .int .i64 a6, .int .i64 a7, .int .i64 a8], .int .i64 r]) =
      Ending.returned (.tuple #[.agg #[.int .i64 b0, .int .i64 b1, .int .i64 b2, .int .i64 b3, .int .i64 b4, .int .i64 b5, .int .i64 b6, .int .i64 b7, .int .i64 b8], .int .i64 s]) := by
  subst h0 h1 h2 h3 h4 h5 h6 h7 h8 h; rfl

theorem St.s_pos (x : St) (d : Int) (hx : x.Good) : 1 ≤ x.sh d ∧ 1 ≤ x.sg d ∧ 1 ≤ x.se d := by
  have := hx.st
  have h1 : 1 ≤ x.hard d := by unfold St.hard; omega
  have h2 : 1 ≤ x.good d := by unfold St.good; omega
  have h3 : 1 ≤ x.easy d := by unfold St.easy; omega
  unfold St.sh St.sg St.se
  refine ⟨?_, ?_, ?_⟩ <;> split <;> omega

set_option maxHeartbeats 800000 in
set_option maxRecDepth 100000 in
theorem gradeOf_bad (x : St) (g d : Int) (w : World) (h : x.err ≠ 0) :
    Calls Try.prog 16 #[x.val, .int .i64 g, .int .i64 d] w fun e w' => e = .returned (.tuple #[St.zero.val, .int .i64 x.err]) ∧ Below w.heap.size w w' := by
  have hck := fun w => stateFault_any x w
  generalize x.err = r at hck h ⊢
  obtain ⟨bl, no, st, ea, du, la, ti, lp, bu⟩ := x
  simp only [St.zero, St.val] at hck ⊢
  have H := hide hck
  clear hck
  have hr : (r == 0) = false := by simp [h]
  clear h
  go_enter Try.func16, Try.ntmps16
  go_wp2_with (go_at_call 58; refine (H.out _).mono ?_; rintro e w' ⟨rfl, hb⟩; obtain ⟨os, n, rfl⟩ := below_plus hb; clear hb)
  go_returns
  exact ⟨rfl, by repeat (first | exact Below.refl _ _ | refine bl_plus ?_ | refine bl_alloc ?_ _ | refine bl_drew ?_)⟩

set_option maxHeartbeats 2000000 in
set_option maxRecDepth 100000 in
theorem gradeOf_err (x : St) (g d : Int) (w : World) (h : x.err = 0) (hg : gradeErr x g d ≠ 0) :
    Calls Try.prog 16 #[x.val, .int .i64 g, .int .i64 d] w fun e w' => e = .returned (.tuple #[St.zero.val, .int .i64 (gradeErr x g d)]) ∧ Below w.heap.size w w' := by
  have hck := fun w => stateFault_any x w
  rw [h] at hck
  have hc := gradeErr_cases x g d
  generalize gradeErr x g d = r at hc hg ⊢
  clear h
  obtain ⟨bl, no, st, ea, du, la, ti, lp, bu⟩ := x
  simp only [St.zero, St.val] at hck hc ⊢
  have H := hide hck
  clear hck
  have hc : (g < 1 ∧ r = 10) ∨ (1 ≤ g ∧ 4 < g ∧ r = 10) ∨ ((1 ≤ g ∧ g ≤ 4) ∧ (d < 0 ∨ 100000 < d) ∧ r = 2) ∨ ((1 ≤ g ∧ g ≤ 4) ∧ (0 ≤ d ∧ d ≤ 100000) ∧ d < la ∧ r = 5) := by omega
  clear hg
  rcases hc with ⟨k1, rfl⟩ | ⟨k1, k2, rfl⟩ | ⟨⟨k1, k2⟩, k3, rfl⟩ | ⟨⟨k1, k2⟩, ⟨k3, k4⟩, k5, rfl⟩
  all_goals
    go_enter Try.func16, Try.ntmps16
    go_wp2_with (first | (go_at_call 58; refine (H.out _).mono ?_; rintro e w' ⟨rfl, hb⟩; obtain ⟨os, n, rfl⟩ := below_plus hb; clear hb) | (go_at_call 59; first | (refine (isDay_yes _ _ (by omega) (by omega)).mono ?_; rintro e w' ⟨rfl, rfl⟩) | (refine (isDay_no _ _ (by omega)).mono ?_; rintro e w' ⟨rfl, rfl⟩)))
    go_returns
    exact ⟨rfl, by repeat (first | exact Below.refl _ _ | refine bl_plus ?_ | refine bl_alloc ?_ _ | refine bl_drew ?_)⟩

set_option maxHeartbeats 4000000 in
set_option maxRecDepth 100000 in
theorem gradeOf_ok (x : St) (g d : Int) (w : World) (h : x.err = 0) (hg0 : gradeErr x g d = 0) :
    Calls Try.prog 16 #[x.val, .int .i64 g, .int .i64 d] w fun e w' => e = .returned (.tuple #[(x.graded g d).val, .int .i64 0]) ∧ Below w.heap.size w w' := by
  have hck := fun w => stateFault_any x w
  rw [h] at hck
  have hx := St.good_of_err h
  obtain ⟨hg, h7, h8, hla⟩ := gradeErr_zero hg0
  have hst := fun w => rsteps_any x d w hx h7 h8
  obtain ⟨S, E, L, hcase, hV⟩ := x.graded_cases g d hg
  have hpos := x.s_pos d hx
  rw [hV]
  generalize x.sh d = sh at hst hcase hpos
  generalize x.sg d = sg at hst hcase hpos
  generalize x.se d = se at hst hcase hpos
  clear hV hg h hg0
  obtain ⟨bl, no, st, ea, du, la, ti, lp, bu⟩ := x
  obtain ⟨-, -, ⟨st1, st2⟩, ⟨e1, e2⟩, -, ⟨la1, la2⟩, -, ⟨t1, t2⟩, ⟨l1, l2⟩⟩ := hx
  obtain ⟨p1, p2, p3⟩ := hpos
  simp only [St.val] at hst hck ⊢
  simp only at e1 e2 t1 t2 l1 l2 la1 la2 st1 st2 hcase hla
  have H := hide hst
  have HC := hide hck
  clear hst hck
  rcases hcase with ⟨rfl, hs, hS, hE, hL⟩ | ⟨rfl, hs, hS, hE, hL⟩ | ⟨rfl, hS, hE, hL⟩ | ⟨rfl, hS, hE, hL⟩ | ⟨rfl, hS, hE, hL⟩
  all_goals
    have HS := hide hS
    have HE := hide hE
    have HL := hide hL
    clear hS hE hL
    go_enter Try.func16, Try.ntmps16
    go_wp2_with (first | (go_at_call 60; refine (H.out _).mono ?_; rintro e w' ⟨rfl, hb⟩; obtain ⟨os, n, rfl⟩ := below_plus hb; clear hb) | (go_at_call 58; refine (HC.out _).mono ?_; rintro e w' ⟨rfl, hb⟩; obtain ⟨os, n, rfl⟩ := below_plus hb; clear hb) | (go_at_call 59; refine (isDay_yes _ _ (by omega) (by omega)).mono ?_; rintro e w' ⟨rfl, rfl⟩))
    first | (go_big_region; go_wp2) | skip
    go_returns
    exact ⟨by rw [HS.out, HE.out, HL.out]; exact tup_st rfl rfl (by omega) (by omega) (by omega) rfl rfl (by omega) rfl rfl, by repeat (first | exact Below.refl _ _ | refine bl_plus ?_ | refine bl_alloc ?_ _ | refine bl_drew ?_)⟩

theorem gradeOf_any (x : St) (g d : Int) (w : World) :
    Calls Try.prog 16 #[x.val, .int .i64 g, .int .i64 d] w fun e w' => e = .returned (.tuple #[(x.grade g d).1.val, .int .i64 (x.grade g d).2]) ∧ Below w.heap.size w w' := by
  unfold St.grade
  by_cases h : x.err = 0
  · by_cases hg : gradeErr x g d = 0
    · simp only [h, hg, if_true]; exact gradeOf_ok x g d w h hg
    · simp only [h, hg, if_true, if_false]; exact gradeOf_err x g d w h hg
  · simp only [h, if_false]; exact gradeOf_bad x g d w h

end Go.Proofs.Ytokghdcfbbogdaa
