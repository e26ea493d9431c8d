/-
  WALKS: the small functions of package card on one state.
-/
import Derived.Test.YtokghdcfbbogdaaRows
import Derived.Test.YtokghdcfbbogdaaPlain
import Derived.Test.YtokghdcfbbogdaaBlk
import Derived.WalkKit
import Derived.WalkSpells
import Derived.WalkLawsBesides
import Derived.Handy
namespace Go.Proofs.Ytokghdcfbbogdaa
open Go.RowKit

def St.val (x : St) : Value := .agg #[.int .i64 x.bl, .int .i64 x.no, .int .i64 x.st, .int .i64 x.ea, .int .i64 x.du, .int .i64 x.la, .int .i64 x.ti, .int .i64 x.lp, .int .i64 x.bu]

set_option maxHeartbeats 400000 in
theorem outside_any (n lo hi : Int) (w : World) :
    Calls Try.prog 61 #[.int .i64 n, .int .i64 lo, .int .i64 hi] w fun e w' => e = .returned (.bool (outB n lo hi)) ∧ w = w' := by
  by_cases h1 : n < lo
  · go_enter Try.func61, Try.ntmps61
    go_wp2
    go_ret
    exact ⟨by simp [outB, h1], rfl⟩
  · by_cases h2 : hi < n
    · go_enter Try.func61, Try.ntmps61
      go_wp2
      go_ret
      exact ⟨by simp [outB, h2], rfl⟩
    · go_enter Try.func61, Try.ntmps61
      go_wp2
      go_ret
      exact ⟨by simp [outB]; omega, rfl⟩

end Go.Proofs.Ytokghdcfbbogdaa
/-
  WALKS: CheckState.
-/
namespace Go.Proofs.Ytokghdcfbbogdaa
open Go.RowKit


theorem outside_yes (n lo hi : Int) (w : World) (h : n < lo ∨ hi < n) :
    Calls Try.prog 61 #[.int .i64 n, .int .i64 lo, .int .i64 hi] w fun e w' => e = .returned (.bool true) ∧ w = w' :=
  (outside_any n lo hi w).mono fun _ _ ⟨he, hw⟩ => ⟨by rw [he]; simp [outB, h], hw⟩
theorem outside_no (n lo hi : Int) (w : World) (h1 : lo ≤ n) (h2 : n ≤ hi) :
    Calls Try.prog 61 #[.int .i64 n, .int .i64 lo, .int .i64 hi] w fun e w' => e = .returned (.bool false) ∧ w = w' :=
  (outside_any n lo hi w).mono fun _ _ ⟨he, hw⟩ => ⟨by rw [he]; simp [outB]; omega, hw⟩

set_option maxHeartbeats 1000000 in
theorem checkState_far (x : St) (w : World) (hx : x.far = true) :
    Calls Try.prog 43 #[x.val] w fun e w' => e = .returned (.int .i64 2) ∧ Below w.heap.size w w' := by
  have hc := x.cases14
  obtain ⟨bl, no, st, ea, du, la, ti, lp, bu⟩ := x
  simp only [St.far, decide_eq_true_eq] at hx hc
  unfold St.val
  rcases hc with h | h | ⟨k1, h | h | ⟨k2, h | h | ⟨k3, h | h | ⟨k4, h | ⟨k5, h | ⟨k6, h | ⟨k7, h | ⟨k8, h | h⟩⟩⟩⟩⟩⟩⟩⟩
  all_goals first | (exfalso; omega) | skip
  all_goals
    go_enter Try.func43, Try.ntmps43
    go_wp2_with (go_at_call 61; first | (refine (outside_no _ _ _ _ (by omega) (by omega)).mono ?_; rintro e w' ⟨rfl, rfl⟩) | (refine (outside_yes _ _ _ _ (by omega)).mono ?_; rintro e w' ⟨rfl, rfl⟩))
    go_ret
    exact ⟨rfl, (Below.refl _ _).alloc (Nat.le_refl _) _⟩

set_option maxHeartbeats 1000000 in
theorem checkState_in (x : St) (w : World) (hx : x.far = false) :
    Calls Try.prog 43 #[x.val] w fun e w' => e = .returned (.int .i64 (if x.ill then 1 else 0)) ∧ Below w.heap.size w w' := by
  have hc := x.forms
  obtain ⟨bl, no, st, ea, du, la, ti, lp, bu⟩ := x
  simp only [St.far, decide_eq_false_iff_not] at hx hc
  unfold St.val
  generalize St.ill _ = il at hc ⊢
  rcases hc with ⟨h1, h2, rfl⟩ | ⟨h1, h2, rfl⟩ | ⟨h1, h2, h3, rfl⟩ | ⟨h1, h2, h3, rfl⟩ | ⟨h1, h2, h3, h4, rfl⟩ | ⟨h1, h2, h3, h4, rfl⟩ | ⟨h1, h2, h3, h4, h5, h6, rfl⟩ | ⟨h1, h2, h3, h4, h5, rfl⟩ | ⟨h1, h2, h3, h4, h5, h6, rfl⟩ | ⟨h1, h2, h3, h4, h5, rfl⟩
  all_goals
    go_enter Try.func43, Try.ntmps43
    go_wp2_with (go_at_call 61; refine (outside_no _ _ _ _ (by omega) (by omega)).mono ?_; rintro e w' ⟨rfl, rfl⟩)
    go_ret
    exact ⟨rfl, (Below.refl _ _).alloc (Nat.le_refl _) _⟩

theorem checkState_any (x : St) (w : World) :
    Calls Try.prog 43 #[x.val] w fun e w' => e = .returned (.int .i64 x.err) ∧ Below w.heap.size w w' := by
  by_cases h : x.far = true
  · exact (checkState_far x w h).mono fun _ _ ⟨he, hw⟩ => ⟨by rw [he, St.err, if_pos h], hw⟩
  · have h' : x.far = false := by simpa using h
    exact (checkState_in x w h').mono fun _ _ ⟨he, hw⟩ => ⟨by rw [he, St.err, if_neg h], hw⟩

end Go.Proofs.Ytokghdcfbbogdaa
/-
  WALKS: fresh, checkDay, checkGrade, steps.
-/
namespace Go.Proofs.Ytokghdcfbbogdaa
open Go.RowKit

set_option maxHeartbeats 400000 in
theorem fresh_any (bl no : Int) (w : World) :
    Calls Try.prog 85 #[.int .i64 bl, .int .i64 no] w fun e w' => e = .returned (St.fresh bl no).val ∧ Below w.heap.size w w' := by
  unfold St.fresh St.val
  go_enter Try.func85, Try.ntmps85
  go_wp2
  go_returns
  exact ⟨rfl, (Below.refl _ _).alloc (Nat.le_refl _) _⟩

def dayErr (d : Int) : Int := if d < 0 ∨ 100000 < d then 2 else 0

set_option maxHeartbeats 400000 in
theorem checkDay_yes (d : Int) (w : World) (h1 : 0 ≤ d) (h2 : d ≤ 100000) :
    Calls Try.prog 64 #[.int .i64 d] w fun e w' => e = .returned (.int .i64 0) ∧ w = w' := by
  go_enter Try.func64, Try.ntmps64
  go_wp2_with (go_at_call 61; refine (outside_no _ _ _ _ (by omega) (by omega)).mono ?_; rintro e w' ⟨rfl, rfl⟩)
  go_returns
  exact ⟨rfl, rfl⟩
set_option maxHeartbeats 400000 in
theorem checkDay_no (d : Int) (w : World) (h : d < 0 ∨ 100000 < d) :
    Calls Try.prog 64 #[.int .i64 d] w fun e w' => e = .returned (.int .i64 2) ∧ w = w' := by
  go_enter Try.func64, Try.ntmps64
  go_wp2_with (go_at_call 61; refine (outside_yes _ _ _ _ (by omega)).mono ?_; rintro e w' ⟨rfl, rfl⟩)
  go_returns
  exact ⟨rfl, rfl⟩

set_option maxHeartbeats 400000 in
theorem checkGrade_any (x : St) (g d : Int) (w : World) :
    Calls Try.prog 55 #[x.val, .int .i64 g, .int .i64 d] w fun e w' => e = .returned (.int .i64 (gradeErr x g d)) ∧ Below w.heap.size w w' := by
  have hc : (g < 1 ∨ 4 < g) ∧ gradeErr x g d = 10 ∨ (1 ≤ g ∧ g ≤ 4) ∧ (d < 0 ∨ 100000 < d) ∧ gradeErr x g d = 2 ∨ (1 ≤ g ∧ g ≤ 4) ∧ (0 ≤ d ∧ d ≤ 100000) ∧ d < x.la ∧ gradeErr x g d = 5 ∨ (1 ≤ g ∧ g ≤ 4) ∧ (0 ≤ d ∧ d ≤ 100000) ∧ x.la ≤ d ∧ gradeErr x g d = 0 := by
    unfold gradeErr; split <;> rename_i h1 <;> (try split) <;> (try split) <;> omega
  generalize gradeErr x g d = r at hc ⊢
  obtain ⟨bl, no, st, ea, du, la, ti, lp, bu⟩ := x
  unfold St.val
  rcases hc with ⟨h, rfl⟩ | ⟨h, h2, rfl⟩ | ⟨h, h2, h3, rfl⟩ | ⟨h, h2, h3, rfl⟩
  all_goals
    go_enter Try.func55, Try.ntmps55
    go_wp2_with (first | (go_at_call 61; first | (refine (outside_no _ _ _ _ (by omega) (by omega)).mono ?_; rintro e w' ⟨rfl, rfl⟩) | (refine (outside_yes _ _ _ _ (by omega)).mono ?_; rintro e w' ⟨rfl, rfl⟩)) | (go_at_call 64; first | (refine (checkDay_yes _ _ (by omega) (by omega)).mono ?_; rintro e w' ⟨rfl, rfl⟩) | (refine (checkDay_no _ _ (by omega)).mono ?_; rintro e w' ⟨rfl, rfl⟩)))
    go_returns
    exact ⟨rfl, (Below.refl _ _).alloc (Nat.le_refl _) _⟩

set_option maxHeartbeats 400000 in
theorem steps_new (x : St) (d : Int) (w : World) (h : x.st = 0) :
    Calls Try.prog 90 #[x.val, .int .i64 d] w fun e w' => e = .returned (.agg #[.int .i64 0, .int .i64 0, .int .i64 1, .int .i64 2, .int .i64 4]) ∧ Below w.heap.size w w' := by
  obtain ⟨bl, no, st, ea, du, la, ti, lp, bu⟩ := x
  unfold St.val
  simp only at h
  subst h
  go_enter Try.func90, Try.ntmps90
  go_wp2
  go_returns
  exact ⟨rfl, ((Below.refl _ _).alloc (Nat.le_refl _) _).alloc (by simp) _⟩

attribute [local go_sem high] run_max_i run_min_i

set_option maxHeartbeats 400000 in
theorem steps_old (x : St) (d : Int) (w : World) (h1 : 1 ≤ x.st) (h2 : x.st ≤ 3650) (h3 : 130 ≤ x.ea) (h4 : x.ea ≤ 400) (h5 : -1 ≤ x.la) (h6 : x.la ≤ 100000) (h7 : 0 ≤ d) (h8 : d ≤ 100000) :
    Calls Try.prog 90 #[x.val, .int .i64 d] w fun e w' => e = .returned (.agg #[.int .i64 0, .int .i64 0, .int .i64 (x.hard d), .int .i64 (x.good d), .int .i64 (x.easy d)]) ∧ Below w.heap.size w w' := by
  obtain ⟨bl, no, st, ea, du, la, ti, lp, bu⟩ := x
  unfold St.val
  simp only at h1 h2 h3 h4 h5 h6
  have hs : (st == 0) = false := by simp; omega
  have p1 := mul_bd (a := ea) (b := min (max (d - la) st) (st + 30)) (m := 400) (n := 3680) (by omega) h4 (by omega) (by omega)
  have p2 := mul_bd (a := 13 * ea) (b := min (max (d - la) st) (st + 30)) (m := 5200) (n := 3680) (by omega) (by omega) (by omega) (by omega)
  obtain ⟨p1, p3⟩ := p1
  obtain ⟨p2, p4⟩ := p2
  go_enter Try.func90, Try.ntmps90
  go_wp2
  go_returns
  exact ⟨rfl, ((Below.refl _ _).alloc (Nat.le_refl _) _).alloc (by simp) _⟩


theorem steps_any (x : St) (d : Int) (w : World) (hx : x.Good) (h7 : 0 ≤ d) (h8 : d ≤ 100000) :
    Calls Try.prog 90 #[x.val, .int .i64 d] w fun e w' => e = .returned (.agg #[.int .i64 0, .int .i64 0, .int .i64 (x.sh d), .int .i64 (x.sg d), .int .i64 (x.se d)]) ∧ Below w.heap.size w w' := by
  by_cases h : x.st = 0
  · exact (steps_new x d w h).mono fun _ _ ⟨he, hw⟩ => ⟨by rw [he]; simp [St.sh, St.sg, St.se, h], hw⟩
  · have := hx.st
    exact (steps_old x d w (by omega) this.2 hx.ea.1 hx.ea.2 hx.la.1 hx.la.2 h7 h8).mono fun _ _ ⟨he, hw⟩ => ⟨by rw [he]; simp [St.sh, St.sg, St.se, h], hw⟩

end Go.Proofs.Ytokghdcfbbogdaa
