/-
  WALKS: Grid and the reference's at every year and month.
-/
import Derived.Test.YtfklaahakibljaaGridB
namespace Go.Proofs.Ytfklaahakibljaa
open Go.RowKit Cal

theorem num_big {y m : Int} (h : 2300 < y) : 100000 < num y m (mlen y m) := by
  have h2 := yd_mono (a := 2301) (b := y) (by omega)
  have h3 : yd 2301 = 109572 := by decide
  have h4 := mlen_bd y m
  have h5 := lp_01 y
  have h6 := cumC_bd m
  unfold num cum
  split <;> omega

set_option maxHeartbeats 3200000 in
set_option maxRecDepth 100000 in
theorem grid_late (y m : Int) (w : World) (hy : 2001 ≤ y) (hy2 : y ≤ 9999) (h1 : 1 ≤ m) (h2 : m ≤ 12) (hn1 : num y m 1 ≤ 100000) (hn : 100000 < num y m (mlen y m)) :
    Calls Try.prog 27 #[.int .i64 y, .int .i64 m] w (GridOut ([], 2) w) := by
  have hb := mlen_bd y m
  have hl := num_last y m
  have hge := num_ge hy h1 h2 (d := 1) (by omega)
  have hr : dayOfR y m 1 = (num y m 1, 0) := if_pos ⟨hy, hy2, h1, h2, by omega, by omega, by omega⟩
  have hd := fun w => dayOf_any y m 1 w
  rw [hr] at hd
  have hh := fun L w h29 h31 => has_any y m L w (by omega) (by omega) h29 h31
  have hck := fun w => checkDay_any (num y m 1 + mlen y m - 1) w
  have hz : dayErr (num y m 1 + mlen y m - 1) = 2 := if_pos (by omega)
  rw [hz] at hck
  generalize hA : num y m 1 = a at *
  generalize hL : mlen y m = ln at *
  have HD := hide hd
  have HH := hide hh
  have HCK := hide hck
  obtain ⟨b0, b1⟩ := hb
  clear hr hd hh hck hz hA hL hl hn
  go_enter Try.func27, Try.ntmps27
  go_wp2_with (first | (go_at_call 85; refine (HD.out _).mono ?_; rintro e w' ⟨rfl, hbl⟩; obtain ⟨os1, n1, rfl⟩ := below_plus hbl; clear hbl))
  go_loop [8] (fun l => ∃ L : Int, 28 ≤ L ∧ L ≤ ln ∧ l = .int .i64 L) (fun l => (31 - intOf l).toNat)
  case atStart => exact ⟨28, by omega, by omega, rfl⟩
  case round =>
  obtain ⟨L, L0, L1, rfl⟩ := hrel
  have hcs : (L < 31 ∧ L + 1 ≤ ln) ∨ (L = ln ∧ L < 31) ∨ (L = ln ∧ ¬ L < 31) := by omega
  rcases hcs with ⟨c1, c2⟩ | hcs
  · have hx := fun w => HH.out (L + 1) w (by omega) (by omega)
    rw [decide_eq_true c2] at hx
    have HX := hide hx
    clear hx
    go_wp2_with (first | (go_at_call 86; refine (HX.out _).mono ?_; rintro e w' ⟨rfl, rfl⟩))
    go_round
    case rel => exact ⟨L + 1, by omega, by omega, rfl⟩
    case measure => simp [intOf]; omega
  have hx : L < 31 → ∀ w, Calls Try.prog 86 #[.int .i64 y, .int .i64 m, .int .i64 (L + 1)] w fun e w' => e = .returned (.bool false) ∧ w = w' := fun hlt w => by
    have := HH.out (L + 1) w (by omega) (by omega)
    rwa [decide_eq_false (by omega)] at this
  have HX := hide hx
  clear hx
  obtain ⟨hLl, hcq⟩ : L = ln ∧ (L < 31 ∨ ¬ L < 31) := by omega
  clear hcs
  subst hLl
  rcases hcq with c1 | c1
  all_goals
    go_wp2_with (first | (go_at_call 86; refine (HX.out c1 _).mono ?_; rintro e w' ⟨rfl, rfl⟩) | (go_at_call 87; refine (HCK.out _).mono ?_; rintro e w' ⟨rfl, rfl⟩))
    go_returns
    exact gridOut_err (by repeat (first | exact Below.refl _ _ | refine bl_plus ?_ | refine bl_alloc ?_ _ | refine bl_drew ?_))

set_option maxHeartbeats 1600000 in
set_option maxRecDepth 100000 in
theorem grid_any (y m : Int) (w : World) : Calls Try.prog 27 #[.int .i64 y, .int .i64 m] w (GridOut (gridR y m) w) := by
  by_cases h : 2001 ≤ y ∧ y ≤ 9999 ∧ 1 ≤ m ∧ m ≤ 12 ∧ num y m (mlen y m) ≤ 100000
  · have hr : gridR y m = _ := if_pos h
    rw [hr]
    exact grid_ok y m w h.1 h.2.1 h.2.2.1 h.2.2.2.1 h.2.2.2.2
  · have hr : gridR y m = _ := if_neg h
    rw [hr]
    have hl := num_last y m
    have hb := mlen_bd y m
    by_cases h2 : 2001 ≤ y ∧ y ≤ 9999 ∧ 1 ≤ m ∧ m ≤ 12 ∧ num y m 1 ≤ 100000
    · exact grid_late y m w h2.1 h2.2.1 h2.2.2.1 h2.2.2.2.1 h2.2.2.2.2 (by omega)
    · have hd := fun w => dayOf_any y m 1 w
      have hr2 : dayOfR y m 1 = (0, 2) := if_neg (by omega)
      rw [hr2] at hd
      have HD := hide hd
      clear hd hr hr2 h h2 hl hb
      go_enter Try.func27, Try.ntmps27
      go_wp2_with (first | (go_at_call 85; refine (HD.out _).mono ?_; rintro e w' ⟨rfl, hbl⟩; obtain ⟨os1, n1, rfl⟩ := below_plus hbl; clear hbl))
      go_returns
      exact gridOut_err (by repeat (first | exact Below.refl _ _ | refine bl_plus ?_ | refine bl_alloc ?_ _ | refine bl_drew ?_))

set_option maxHeartbeats 3200000 in
set_option maxRecDepth 100000 in
theorem gridOf_any (y m : Int) (w : World) : Calls Try.prog 28 #[.int .i64 y, .int .i64 m] w (GridOut (gridR y m) w) := by
  by_cases h : 2001 ≤ y ∧ y ≤ 9999 ∧ 1 ≤ m ∧ m ≤ 12 ∧ num y m (mlen y m) ≤ 100000
  · have hr : gridR y m = _ := if_pos h
    rw [hr]
    have : y ≤ 2300 := by
      by_cases hy : y ≤ 2300
      · exact hy
      · have := num_big (y := y) (m := m) (by omega); omega
    exact gridOf_ok y m w h.1 this h.2.2.1 h.2.2.2.1 h.2.2.2.2
  · have hr : gridR y m = _ := if_neg h
    rw [hr]
    by_cases h2 : 2001 ≤ y ∧ y ≤ 2300 ∧ 1 ≤ m ∧ m ≤ 12
    · have hsp := fun w => monthSpan_any y m w h2.1 h2.2.1 h2.2.2.1 h2.2.2.2
      have hso := fun w => spanOf_any (num y m 1) (num y m (mlen y m)) w
      have hr2 : spanR (num y m 1) (num y m (mlen y m)) = (0, 0, 2) := if_neg (by omega)
      rw [hr2] at hso
      generalize num y m (mlen y m) = la at *
      generalize num y m 1 = a at *
      have HSP := hide hsp
      have HSO := hide hso
      obtain ⟨g1, g2, g3, g4⟩ := h2
      clear hsp hso hr hr2 h
      go_enter Try.func28, Try.ntmps28
      go_wp2_with (first | (go_at_call 89; refine (HSP.out _).mono ?_; rintro e w' ⟨rfl, hbl⟩; obtain ⟨os1, n1, rfl⟩ := below_plus hbl; clear hbl) | (go_at_call 90; refine (HSO.out _).mono ?_; rintro e w' ⟨rfl, rfl⟩))
      go_returns
      exact gridOut_err (by repeat (first | exact Below.refl _ _ | refine bl_plus ?_ | refine bl_alloc ?_ _ | refine bl_drew ?_))
    · have hc : m < 1 ∨ (1 ≤ m ∧ 12 < m) ∨ (1 ≤ m ∧ m ≤ 12 ∧ y < 2001) ∨ (1 ≤ m ∧ m ≤ 12 ∧ 2001 ≤ y ∧ 2300 < y) := by omega
      clear hr h h2
      rcases hc with g1 | ⟨g1, g2⟩ | ⟨g1, g2, g3⟩ | ⟨g1, g2, g3, g4⟩
      all_goals
        go_enter Try.func28, Try.ntmps28
        go_wp2
        go_returns
        exact gridOut_err (Below.refl _ _)

end Go.Proofs.Ytfklaahakibljaa
