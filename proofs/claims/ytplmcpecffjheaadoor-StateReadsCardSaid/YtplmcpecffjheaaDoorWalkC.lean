/-
  WALKS: StateFault, the reference's CheckState.
-/
import Derived.Test.YtplmcpecffjheaaDoorWalkA
import Derived.Deep.DeepCutAuto
namespace Go.Proofs.YtplmcpecffjheaaDoor
open Go.RowKit

theorem faultDay_yes (n : Int) (w : World) (h1 : (-1) ≤ n) (h2 : n ≤ 100000) :
    Calls Tryd.prog 18 #[.int .i64 n] w fun e w' => e = .returned (.bool true) ∧ w = w' := by
  go_enter Tryd.func18, Tryd.ntmps18
  go_wp2
  go_ret
  exact ⟨rfl, rfl⟩
theorem faultDay_no (n : Int) (w : World) (h : n < (-1) ∨ 100000 < n) :
    Calls Tryd.prog 18 #[.int .i64 n] w fun e w' => e = .returned (.bool false) ∧ w = w' := by
  by_cases h1 : n < (-1)
  · go_enter Tryd.func18, Tryd.ntmps18
    go_wp2
    go_ret
    exact ⟨rfl, rfl⟩
  · have h2 : 100000 < n := by omega
    have h3 : (-1) ≤ n := by omega
    clear h h1
    go_enter Tryd.func18, Tryd.ntmps18
    go_wp2
    go_ret
    exact ⟨ret_bool (decide_eq_false (by omega)), rfl⟩

theorem faultCount_yes (n : Int) (w : World) (h1 : 0 ≤ n) (h2 : n ≤ 20000) :
    Calls Tryd.prog 19 #[.int .i64 n] w fun e w' => e = .returned (.bool true) ∧ w = w' := by
  go_enter Tryd.func19, Tryd.ntmps19
  go_wp2
  go_ret
  exact ⟨rfl, rfl⟩
theorem faultCount_no (n : Int) (w : World) (h : n < 0 ∨ 20000 < n) :
    Calls Tryd.prog 19 #[.int .i64 n] w fun e w' => e = .returned (.bool false) ∧ w = w' := by
  by_cases h1 : n < 0
  · go_enter Tryd.func19, Tryd.ntmps19
    go_wp2
    go_ret
    exact ⟨rfl, rfl⟩
  · have h2 : 20000 < n := by omega
    have h3 : 0 ≤ n := by omega
    clear h h1
    go_enter Tryd.func19, Tryd.ntmps19
    go_wp2
    go_ret
    exact ⟨ret_bool (decide_eq_false (by omega)), rfl⟩

set_option maxHeartbeats 4000000 in
set_option maxRecDepth 100000 in
theorem stateFault_far (x : St) (w : World) (hx : x.far = true) :
    Calls Tryd.prog 10 #[x.val] w fun e w' => e = .returned (.int .i64 2) ∧ Below w.heap.size w w' := by
  have hc := x.cases14
  obtain ⟨bl, no, st, ea, du, la, ti, lp, bu⟩ := x
  simp only [St.far, decide_eq_true_eq] at hx hc
  unfold St.val
  rcases hc with h | h | ⟨k1, h | h | ⟨k2, h | h | ⟨k3, h | h | ⟨k4, h | ⟨k5, h | ⟨k6, h | ⟨k7, h | ⟨k8, h | h⟩⟩⟩⟩⟩⟩⟩⟩
  all_goals first | (exfalso; omega) | skip
  all_goals
    go_enter Tryd.func10, Tryd.ntmps10
    go_wp2_with (first | (go_at_call 18; first | (refine (faultDay_yes _ _ (by omega) (by omega)).mono ?_; rintro e w' ⟨rfl, rfl⟩) | (refine (faultDay_no _ _ (by omega)).mono ?_; rintro e w' ⟨rfl, rfl⟩)) | (go_at_call 19; first | (refine (faultCount_yes _ _ (by omega) (by omega)).mono ?_; rintro e w' ⟨rfl, rfl⟩) | (refine (faultCount_no _ _ (by omega)).mono ?_; rintro e w' ⟨rfl, rfl⟩)))
    go_ret
    exact ⟨rfl, (Below.refl _ _).alloc (Nat.le_refl _) _⟩

set_option maxHeartbeats 4000000 in
set_option maxRecDepth 100000 in
theorem stateFault_in (x : St) (w : World) (hx : x.far = false) :
    Calls Tryd.prog 10 #[x.val] w fun e w' => e = .returned (.int .i64 (if x.ill then 1 else 0)) ∧ Below w.heap.size w w' := by
  have hc := x.forms
  obtain ⟨bl, no, st, ea, du, la, ti, lp, bu⟩ := x
  simp only [St.far, decide_eq_false_iff_not] at hx hc
  have g1 : 1 ≤ bl ∧ bl ≤ 1000000 ∧ 1 ≤ no ∧ no ≤ 20 ∧ 0 ≤ st ∧ st ≤ 3650 ∧ 130 ≤ ea ∧ ea ≤ 400 := by omega
  have g2 : -1 ≤ du ∧ du ≤ 100000 ∧ -1 ≤ la ∧ la ≤ 100000 ∧ -1 ≤ bu ∧ bu ≤ 100000 ∧ 0 ≤ ti ∧ ti ≤ 20000 ∧ 0 ≤ lp ∧ lp ≤ 20000 := by omega
  obtain ⟨a1, a2, a3, a4, a5, a6, a7, a8⟩ := g1
  obtain ⟨b1, b2, b3, b4, b5, b6, b7, b8, b9, b10⟩ := g2
  clear hx
  unfold St.val
  generalize St.ill _ = il at hc ⊢
  have HC := hide hc
  clear hc
  go_enter Tryd.func10, Tryd.ntmps10
  go_upto_region 3 with (fail)
  go_cut [5] (fun v wx => v = .bool false ∧ w.alloc (.cells #[.int .i64 bl, .int .i64 no, .int .i64 st, .int .i64 ea, .int .i64 du, .int .i64 la, .int .i64 ti, .int .i64 lp, .int .i64 bu] 23) = wx)
  case first =>
    go_wp2_with (first | (go_at_call 18; refine (faultDay_yes _ _ (by omega) (by omega)).mono ?_; rintro e w' ⟨rfl, rfl⟩) | (go_at_call 19; refine (faultCount_yes _ _ (by omega) (by omega)).mono ?_; rintro e w' ⟨rfl, rfl⟩))
    go_meet
    exact ⟨by simp; omega, rfl⟩
  case rest =>
    obtain ⟨rfl, rfl⟩ := hcut
    rcases HC.out with ⟨h1, h2, rfl⟩ | ⟨h1, h2, rfl⟩ | ⟨h1, h2, h3, rfl⟩ | ⟨h1, h2, h3, rfl⟩ | ⟨h1, h2, h3, h4, rfl⟩ | ⟨h1, h2, h3, h4, rfl⟩ | ⟨h1, h2, h3, h4, h5, h6, rfl⟩ | ⟨h1, h2, h3, h4, h5, rfl⟩ | ⟨h1, h2, h3, h4, h5, h6, rfl⟩ | ⟨h1, h2, h3, h4, h5, rfl⟩
    all_goals
      clear HC
      go_wp2
      go_ret
      exact ⟨rfl, (Below.refl _ _).alloc (Nat.le_refl _) _⟩

theorem stateFault_any (x : St) (w : World) :
    Calls Tryd.prog 10 #[x.val] w fun e w' => e = .returned (.int .i64 x.err) ∧ Below w.heap.size w w' := by
  by_cases h : x.far = true
  · exact (stateFault_far x w h).mono fun _ _ ⟨he, hw⟩ => ⟨by rw [he, St.err, if_pos h], hw⟩
  · have h' : x.far = false := by simpa using h
    exact (stateFault_in x w h').mono fun _ _ ⟨he, hw⟩ => ⟨by rw [he, St.err, if_neg h], hw⟩

end Go.Proofs.YtplmcpecffjheaaDoor
