/-
  WALKS: CheckState.
-/
import Derived.Test.YtokghdcfbbogdaaWalkA
namespace Go.Proofs.Ytokghdcfbbogdaa
open Go.RowKit


theorem outside_yes (n lo hi : Int) (w : World) (h : n < lo ∨ hi < n) :
    Calls Try.prog 61 #[.int .i64 n, .int .i64 lo, .int .i64 hi] w fun e w' => e = .returned (.bool true) ∧ w = w' :=
  (outside_any n lo hi w).mono fun _ _ ⟨he, hw⟩ => ⟨by rw [he]; simp [outB, h], hw⟩
theorem outside_no (n lo hi : Int) (w : World) (h1 : lo ≤ n) (h2 : n ≤ hi) :
    Calls Try.prog 61 #[.int .i64 n, .int .i64 lo, .int .i64 hi] w fun e w' => e = .returned (.bool false) ∧ w = w' :=
  (outside_any n lo hi w).mono fun _ _ ⟨he, hw⟩ => ⟨by rw [he]; simp [outB]; omega, hw⟩

set_option maxHeartbeats 1000000 in
theorem checkState_far (x : St) (w : World) (hx : x.far = true) :
    Calls Try.prog 43 #[x.val] w fun e w' => e = .returned (.int .i64 2) ∧ Below w.heap.size w w' := by
  have hc := x.cases14
  obtain ⟨bl, no, st, ea, du, la, ti, lp, bu⟩ := x
  simp only [St.far, decide_eq_true_eq] at hx hc
  unfold St.val
  rcases hc with h | h | ⟨k1, h | h | ⟨k2, h | h | ⟨k3, h | h | ⟨k4, h | ⟨k5, h | ⟨k6, h | ⟨k7, h | ⟨k8, h | h⟩⟩⟩⟩⟩⟩⟩⟩
  all_goals first | (exfalso; omega) | skip
  all_goals
    go_enter Try.func43, Try.ntmps43
    go_wp2_with (go_at_call 61; first | (refine (outside_no _ _ _ _ (by omega) (by omega)).mono ?_; rintro e w' ⟨rfl, rfl⟩) | (refine (outside_yes _ _ _ _ (by omega)).mono ?_; rintro e w' ⟨rfl, rfl⟩))
    go_ret
    exact ⟨rfl, (Below.refl _ _).alloc (Nat.le_refl _) _⟩

set_option maxHeartbeats 1000000 in
theorem checkState_in (x : St) (w : World) (hx : x.far = false) :
    Calls Try.prog 43 #[x.val] w fun e w' => e = .returned (.int .i64 (if x.ill then 1 else 0)) ∧ Below w.heap.size w w' := by
  have hc := x.forms
  obtain ⟨bl, no, st, ea, du, la, ti, lp, bu⟩ := x
  simp only [St.far, decide_eq_false_iff_not] at hx hc
  unfold St.val
  generalize St.ill _ = il at hc ⊢
  rcases hc with ⟨h1, h2, rfl⟩ | ⟨h1, h2, rfl⟩ | ⟨h1, h2, h3, rfl⟩ | ⟨h1, h2, h3, rfl⟩ | ⟨h1, h2, h3, h4, rfl⟩ | ⟨h1, h2, h3, h4, rfl⟩ | ⟨h1, h2, h3, h4, h5, h6, rfl⟩ | ⟨h1, h2, h3, h4, h5, rfl⟩ | ⟨h1, h2, h3, h4, h5, h6, rfl⟩ | ⟨h1, h2, h3, h4, h5, rfl⟩
  all_goals
    go_enter Try.func43, Try.ntmps43
    go_wp2_with (go_at_call 61; refine (outside_no _ _ _ _ (by omega) (by omega)).mono ?_; rintro e w' ⟨rfl, rfl⟩)
    go_ret
    exact ⟨rfl, (Below.refl _ _).alloc (Nat.le_refl _) _⟩

theorem checkState_any (x : St) (w : World) :
    Calls Try.prog 43 #[x.val] w fun e w' => e = .returned (.int .i64 x.err) ∧ Below w.heap.size w w' := by
  by_cases h : x.far = true
  · exact (checkState_far x w h).mono fun _ _ ⟨he, hw⟩ => ⟨by rw [he, St.err, if_pos h], hw⟩
  · have h' : x.far = false := by simpa using h
    exact (checkState_in x w h').mono fun _ _ ⟨he, hw⟩ => ⟨by rw [he, St.err, if_neg h], hw⟩

end Go.Proofs.Ytokghdcfbbogdaa
