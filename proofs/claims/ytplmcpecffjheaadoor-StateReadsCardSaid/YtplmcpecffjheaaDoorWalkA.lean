/-
  WALKS: the small functions of package card on one state.
-/
import Derived.Test.YtplmcpecffjheaaDoorRows
import Derived.Test.YtplmcpecffjheaaDoorPlain
import Derived.Test.YtplmcpecffjheaaDoorBlk
import Derived.WalkKit
import Derived.WalkSpells
import Derived.WalkLawsBesides
import Derived.Handy
namespace Go.Proofs.YtplmcpecffjheaaDoor
open Go.RowKit

def St.val (x : St) : Value := .agg #[.int .i64 x.bl, .int .i64 x.no, .int .i64 x.st, .int .i64 x.ea, .int .i64 x.du, .int .i64 x.la, .int .i64 x.ti, .int .i64 x.lp, .int .i64 x.bu]

set_option maxHeartbeats 400000 in
theorem outside_any (n lo hi : Int) (w : World) :
    Calls Tryd.prog 17 #[.int .i64 n, .int .i64 lo, .int .i64 hi] w fun e w' => e = .returned (.bool (outB n lo hi)) ∧ w = w' := by
  by_cases h1 : n < lo
  · go_enter Tryd.func17, Tryd.ntmps17
    go_wp2
    go_ret
    exact ⟨by simp [outB, h1], rfl⟩
  · by_cases h2 : hi < n
    · go_enter Tryd.func17, Tryd.ntmps17
      go_wp2
      go_ret
      exact ⟨by simp [outB, h2], rfl⟩
    · go_enter Tryd.func17, Tryd.ntmps17
      go_wp2
      go_ret
      exact ⟨by simp [outB]; omega, rfl⟩

end Go.Proofs.YtplmcpecffjheaaDoor
/-
  WALKS: CheckState.
-/
namespace Go.Proofs.YtplmcpecffjheaaDoor
open Go.RowKit


theorem outside_yes (n lo hi : Int) (w : World) (h : n < lo ∨ hi < n) :
    Calls Tryd.prog 17 #[.int .i64 n, .int .i64 lo, .int .i64 hi] w fun e w' => e = .returned (.bool true) ∧ w = w' :=
  (outside_any n lo hi w).mono fun _ _ ⟨he, hw⟩ => ⟨by rw [he]; simp [outB, h], hw⟩
theorem outside_no (n lo hi : Int) (w : World) (h1 : lo ≤ n) (h2 : n ≤ hi) :
    Calls Tryd.prog 17 #[.int .i64 n, .int .i64 lo, .int .i64 hi] w fun e w' => e = .returned (.bool false) ∧ w = w' :=
  (outside_any n lo hi w).mono fun _ _ ⟨he, hw⟩ => ⟨by rw [he]; simp [outB]; omega, hw⟩

set_option maxHeartbeats 1000000 in
theorem checkState_far (x : St) (w : World) (hx : x.far = true) :
    Calls Tryd.prog 9 #[x.val] w fun e w' => e = .returned (.int .i64 2) ∧ Below w.heap.size w w' := by
  have hc := x.cases14
  obtain ⟨bl, no, st, ea, du, la, ti, lp, bu⟩ := x
  simp only [St.far, decide_eq_true_eq] at hx hc
  unfold St.val
  rcases hc with h | h | ⟨k1, h | h | ⟨k2, h | h | ⟨k3, h | h | ⟨k4, h | ⟨k5, h | ⟨k6, h | ⟨k7, h | ⟨k8, h | h⟩⟩⟩⟩⟩⟩⟩⟩
  all_goals first | (exfalso; omega) | skip
  all_goals
    go_enter Tryd.func9, Tryd.ntmps9
    go_wp2_with (go_at_call 17; first | (refine (outside_no _ _ _ _ (by omega) (by omega)).mono ?_; rintro e w' ⟨rfl, rfl⟩) | (refine (outside_yes _ _ _ _ (by omega)).mono ?_; rintro e w' ⟨rfl, rfl⟩))
    go_ret
    exact ⟨rfl, (Below.refl _ _).alloc (Nat.le_refl _) _⟩

set_option maxHeartbeats 1000000 in
theorem checkState_in (x : St) (w : World) (hx : x.far = false) :
    Calls Tryd.prog 9 #[x.val] w fun e w' => e = .returned (.int .i64 (if x.ill then 1 else 0)) ∧ Below w.heap.size w w' := by
  have hc := x.forms
  obtain ⟨bl, no, st, ea, du, la, ti, lp, bu⟩ := x
  simp only [St.far, decide_eq_false_iff_not] at hx hc
  unfold St.val
  generalize St.ill _ = il at hc ⊢
  rcases hc with ⟨h1, h2, rfl⟩ | ⟨h1, h2, rfl⟩ | ⟨h1, h2, h3, rfl⟩ | ⟨h1, h2, h3, rfl⟩ | ⟨h1, h2, h3, h4, rfl⟩ | ⟨h1, h2, h3, h4, rfl⟩ | ⟨h1, h2, h3, h4, h5, h6, rfl⟩ | ⟨h1, h2, h3, h4, h5, rfl⟩ | ⟨h1, h2, h3, h4, h5, h6, rfl⟩ | ⟨h1, h2, h3, h4, h5, rfl⟩
  all_goals
    go_enter Tryd.func9, Tryd.ntmps9
    go_wp2_with (go_at_call 17; refine (outside_no _ _ _ _ (by omega) (by omega)).mono ?_; rintro e w' ⟨rfl, rfl⟩)
    go_ret
    exact ⟨rfl, (Below.refl _ _).alloc (Nat.le_refl _) _⟩

theorem checkState_any (x : St) (w : World) :
    Calls Tryd.prog 9 #[x.val] w fun e w' => e = .returned (.int .i64 x.err) ∧ Below w.heap.size w w' := by
  by_cases h : x.far = true
  · exact (checkState_far x w h).mono fun _ _ ⟨he, hw⟩ => ⟨by rw [he, St.err, if_pos h], hw⟩
  · have h' : x.far = false := by simpa using h
    exact (checkState_in x w h').mono fun _ _ ⟨he, hw⟩ => ⟨by rw [he, St.err, if_neg h], hw⟩

end Go.Proofs.YtplmcpecffjheaaDoor
/-
  WALKS: fresh, checkDay, checkGrade, steps.
-/
namespace Go.Proofs.YtplmcpecffjheaaDoor
open Go.RowKit

set_option maxHeartbeats 400000 in
theorem fresh_any (bl no : Int) (w : World) :
    Calls Tryd.prog 16 #[.int .i64 bl, .int .i64 no] w fun e w' => e = .returned (St.fresh bl no).val ∧ Below w.heap.size w w' := by
  unfold St.fresh St.val
  go_enter Tryd.func16, Tryd.ntmps16
  go_wp2
  go_returns
  exact ⟨rfl, (Below.refl _ _).alloc (Nat.le_refl _) _⟩

def dayErr (d : Int) : Int := if d < 0 ∨ 100000 < d then 2 else 0

attribute [local go_sem high] run_max_i run_min_i

end Go.Proofs.YtplmcpecffjheaaDoor
