/-
  WALKS: fresh, checkDay, checkGrade, steps.
-/
import Derived.Test.YtokghdcfbbogdaaWalkB
namespace Go.Proofs.Ytokghdcfbbogdaa
open Go.RowKit

set_option maxHeartbeats 400000 in
theorem fresh_any (bl no : Int) (w : World) :
    Calls Try.prog 85 #[.int .i64 bl, .int .i64 no] w fun e w' => e = .returned (St.fresh bl no).val ∧ Below w.heap.size w w' := by
  unfold St.fresh St.val
  go_enter Try.func85, Try.ntmps85
  go_wp2
  go_returns
  exact ⟨rfl, (Below.refl _ _).alloc (Nat.le_refl _) _⟩

def dayErr (d : Int) : Int := if d < 0 ∨ 100000 < d then 2 else 0

set_option maxHeartbeats 400000 in
theorem checkDay_yes (d : Int) (w : World) (h1 : 0 ≤ d) (h2 : d ≤ 100000) :
    Calls Try.prog 64 #[.int .i64 d] w fun e w' => e = .returned (.int .i64 0) ∧ w = w' := by
  go_enter Try.func64, Try.ntmps64
  go_wp2_with (go_at_call 61; refine (outside_no _ _ _ _ (by omega) (by omega)).mono ?_; rintro e w' ⟨rfl, rfl⟩)
  go_returns
  exact ⟨rfl, rfl⟩
set_option maxHeartbeats 400000 in
theorem checkDay_no (d : Int) (w : World) (h : d < 0 ∨ 100000 < d) :
    Calls Try.prog 64 #[.int .i64 d] w fun e w' => e = .returned (.int .i64 2) ∧ w = w' := by
  go_enter Try.func64, Try.ntmps64
  go_wp2_with (go_at_call 61; refine (outside_yes _ _ _ _ (by omega)).mono ?_; rintro e w' ⟨rfl, rfl⟩)
  go_returns
  exact ⟨rfl, rfl⟩

set_option maxHeartbeats 400000 in
theorem checkGrade_any (x : St) (g d : Int) (w : World) :
    Calls Try.prog 55 #[x.val, .int .i64 g, .int .i64 d] w fun e w' => e = .returned (.int .i64 (gradeErr x g d)) ∧ Below w.heap.size w w' := by
  have hc : (g < 1 ∨ 4 < g) ∧ gradeErr x g d = 10 ∨ (1 ≤ g ∧ g ≤ 4) ∧ (d < 0 ∨ 100000 < d) ∧ gradeErr x g d = 2 ∨ (1 ≤ g ∧ g ≤ 4) ∧ (0 ≤ d ∧ d ≤ 100000) ∧ d < x.la ∧ gradeErr x g d = 5 ∨ (1 ≤ g ∧ g ≤ 4) ∧ (0 ≤ d ∧ d ≤ 100000) ∧ x.la ≤ d ∧ gradeErr x g d = 0 := by
    unfold gradeErr; split <;> rename_i h1 <;> (try split) <;> (try split) <;> omega
  generalize gradeErr x g d = r at hc ⊢
  obtain ⟨bl, no, st, ea, du, la, ti, lp, bu⟩ := x
  unfold St.val
  rcases hc with ⟨h, rfl⟩ | ⟨h, h2, rfl⟩ | ⟨h, h2, h3, rfl⟩ | ⟨h, h2, h3, rfl⟩
  all_goals
    go_enter Try.func55, Try.ntmps55
    go_wp2_with (first | (go_at_call 61; first | (refine (outside_no _ _ _ _ (by omega) (by omega)).mono ?_; rintro e w' ⟨rfl, rfl⟩) | (refine (outside_yes _ _ _ _ (by omega)).mono ?_; rintro e w' ⟨rfl, rfl⟩)) | (go_at_call 64; first | (refine (checkDay_yes _ _ (by omega) (by omega)).mono ?_; rintro e w' ⟨rfl, rfl⟩) | (refine (checkDay_no _ _ (by omega)).mono ?_; rintro e w' ⟨rfl, rfl⟩)))
    go_returns
    exact ⟨rfl, (Below.refl _ _).alloc (Nat.le_refl _) _⟩

set_option maxHeartbeats 400000 in
theorem steps_new (x : St) (d : Int) (w : World) (h : x.st = 0) :
    Calls Try.prog 90 #[x.val, .int .i64 d] w fun e w' => e = .returned (.agg #[.int .i64 0, .int .i64 0, .int .i64 1, .int .i64 2, .int .i64 4]) ∧ Below w.heap.size w w' := by
  obtain ⟨bl, no, st, ea, du, la, ti, lp, bu⟩ := x
  unfold St.val
  simp only at h
  subst h
  go_enter Try.func90, Try.ntmps90
  go_wp2
  go_returns
  exact ⟨rfl, ((Below.refl _ _).alloc (Nat.le_refl _) _).alloc (by simp) _⟩

attribute [local go_sem high] run_max_i run_min_i

set_option maxHeartbeats 400000 in
theorem steps_old (x : St) (d : Int) (w : World) (h1 : 1 ≤ x.st) (h2 : x.st ≤ 3650) (h3 : 130 ≤ x.ea) (h4 : x.ea ≤ 400) (h5 : -1 ≤ x.la) (h6 : x.la ≤ 100000) (h7 : 0 ≤ d) (h8 : d ≤ 100000) :
    Calls Try.prog 90 #[x.val, .int .i64 d] w fun e w' => e = .returned (.agg #[.int .i64 0, .int .i64 0, .int .i64 (x.hard d), .int .i64 (x.good d), .int .i64 (x.easy d)]) ∧ Below w.heap.size w w' := by
  obtain ⟨bl, no, st, ea, du, la, ti, lp, bu⟩ := x
  unfold St.val
  simp only at h1 h2 h3 h4 h5 h6
  have hs : (st == 0) = false := by simp; omega
  have p1 := mul_bd (a := ea) (b := min (max (d - la) st) (st + 30)) (m := 400) (n := 3680) (by omega) h4 (by omega) (by omega)
  have p2 := mul_bd (a := 13 * ea) (b := min (max (d - la) st) (st + 30)) (m := 5200) (n := 3680) (by omega) (by omega) (by omega) (by omega)
  obtain ⟨p1, p3⟩ := p1
  obtain ⟨p2, p4⟩ := p2
  go_enter Try.func90, Try.ntmps90
  go_wp2
  go_returns
  exact ⟨rfl, ((Below.refl _ _).alloc (Nat.le_refl _) _).alloc (by simp) _⟩


theorem steps_any (x : St) (d : Int) (w : World) (hx : x.Good) (h7 : 0 ≤ d) (h8 : d ≤ 100000) :
    Calls Try.prog 90 #[x.val, .int .i64 d] w fun e w' => e = .returned (.agg #[.int .i64 0, .int .i64 0, .int .i64 (x.sh d), .int .i64 (x.sg d), .int .i64 (x.se d)]) ∧ Below w.heap.size w w' := by
  by_cases h : x.st = 0
  · exact (steps_new x d w h).mono fun _ _ ⟨he, hw⟩ => ⟨by rw [he]; simp [St.sh, St.sg, St.se, h], hw⟩
  · have := hx.st
    exact (steps_old x d w (by omega) this.2 hx.ea.1 hx.ea.2 hx.la.1 hx.la.2 h7 h8).mono fun _ _ ⟨he, hw⟩ => ⟨by rw [he]; simp [St.sh, St.sg, St.se, h], hw⟩

end Go.Proofs.Ytokghdcfbbogdaa
