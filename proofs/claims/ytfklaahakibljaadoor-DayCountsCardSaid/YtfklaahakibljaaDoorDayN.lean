/-
  WALKS: so many months later, in the reference.
-/
import Derived.Test.YtfklaahakibljaaDoorDayM
namespace Go.Proofs.YtfklaahakibljaaDoor
open Go.RowKit Cal
attribute [local go_sem high] run_min_i

theorem first_is (y m n : Int) : dateOfR y (m + n) 1 = num ((12 * y + m - 1 + n) / 12) ((12 * y + m - 1 + n) % 12 + 1) 1 := by
  unfold dateOfR
  rw [show y + (m + n - 1) / 12 = (12 * y + m - 1 + n) / 12 by omega, show (m + n - 1) % 12 + 1 = (12 * y + m - 1 + n) % 12 + 1 by omega]
theorem next_is (y m n : Int) : dateOfR y (m + n + 1) 1 = dateOfR y (m + n) 1 + mlen ((12 * y + m - 1 + n) / 12) ((12 * y + m - 1 + n) % 12 + 1) := by
  rw [first_is y m n]
  unfold dateOfR
  obtain ⟨M, hM⟩ : ∃ M, M = 12 * y + m - 1 + n := ⟨_, rfl⟩
  rw [← hM, show y + (m + n + 1 - 1) / 12 = (M + 1) / 12 by omega, show (m + n + 1 - 1) % 12 + 1 = (M + 1) % 12 + 1 by omega]
  have hn := num_next (y := M / 12) (m := M % 12 + 1) (by omega) (by omega) (1 + mlen (M / 12) (M % 12 + 1))
  rw [show 1 + mlen (M / 12) (M % 12 + 1) - mlen (M / 12) (M % 12 + 1) = 1 by omega] at hn
  have e : num (M / 12) (M % 12 + 1) (1 + mlen (M / 12) (M % 12 + 1)) = num (M / 12) (M % 12 + 1) 1 + mlen (M / 12) (M % 12 + 1) := by unfold num; omega
  rw [← e, hn]
  split
  · rw [show (M + 1) / 12 = M / 12 + 1 by omega, show (M + 1) % 12 + 1 = 1 by omega]
  · rw [show (M + 1) / 12 = M / 12 by omega, show (M + 1) % 12 + 1 = M % 12 + 1 + 1 by omega]

set_option maxHeartbeats 3200000 in
set_option maxRecDepth 100000 in
theorem monthsFrom_any (d n : Int) (w : World) :
    Calls Tryd.prog 10 #[.int .i64 d, .int .i64 n] w (DayOfOut (monthsR d n) w) := by
  by_cases hd : 0 ≤ d ∧ d ≤ 100000
  · have HI := hide (fun w => isDay_yes d w hd.1 hd.2)
    obtain ⟨d0, d1⟩ := hd
    by_cases hn : -5000 ≤ n ∧ n ≤ 5000
    · obtain ⟨n0, n1⟩ := hn
      have HP := hide (fun w => parts_any d w (by omega) (by omega))
      have hy := year_top d0 d1
      obtain ⟨p1, p2, p3, p4⟩ := (parts_ok d).1
      have hp31 : (parts d).d ≤ 31 := by have := mlen_bd (parts d).y (parts d).m; omega
      have hR : monthsR d n = if 0 ≤ monD d n ∧ monD d n ≤ 100000 then (monD d n, 0) else (0, 2) := by
        unfold monthsR
        by_cases h : 0 ≤ monD d n ∧ monD d n ≤ 100000
        · rw [if_pos h, if_pos ⟨⟨d0, d1⟩, ⟨n0, n1⟩, h⟩]
        · rw [if_neg h, if_neg (fun hh => h hh.2.2)]
      have hD : monD d n = dateOfR (parts d).y ((parts d).m + n) 1 + (min (parts d).d (dateOfR (parts d).y ((parts d).m + n + 1) 1 - dateOfR (parts d).y ((parts d).m + n) 1) - 1) := by
        rw [next_is, first_is]
        unfold monD monM num
        generalize mlen ((12 * (parts d).y + (parts d).m - 1 + n) / 12) ((12 * (parts d).y + (parts d).m - 1 + n) % 12 + 1) = L
        omega
      rw [hR]
      clear hR
      generalize monD d n = X at *
      have hnx := next_is (parts d).y (parts d).m n
      have hfi := first_is (parts d).y (parts d).m n
      have hml := mlen_bd ((12 * (parts d).y + (parts d).m - 1 + n) / 12) ((12 * (parts d).y + (parts d).m - 1 + n) % 12 + 1)
      have hfb : -400000 ≤ dateOfR (parts d).y ((parts d).m + n) 1 ∧ dateOfR (parts d).y ((parts d).m + n) 1 ≤ 400000 := by
        rw [hfi]
        have hc0 := cum_mono (y := (12 * (parts d).y + (parts d).m - 1 + n) / 12) (m := 1) (n := (12 * (parts d).y + (parts d).m - 1 + n) % 12 + 1) (by omega) (by omega) (by omega)
        have hc1 := cum_mono (y := (12 * (parts d).y + (parts d).m - 1 + n) / 12) (m := (12 * (parts d).y + (parts d).m - 1 + n) % 12 + 1) (n := 13) (by omega) (by omega) (by omega)
        rw [cum_1] at hc0
        rw [cum_13] at hc1
        have hl := lp_01 ((12 * (parts d).y + (parts d).m - 1 + n) / 12)
        have hydb : -400000 + 10 ≤ yd ((12 * (parts d).y + (parts d).m - 1 + n) / 12) ∧ yd ((12 * (parts d).y + (parts d).m - 1 + n) / 12) ≤ 390000 := by
          generalize hYY : (12 * (parts d).y + (parts d).m - 1 + n) / 12 = Y
          have : 1500 ≤ Y ∧ Y ≤ 2800 := by omega
          unfold yd
          omega
        unfold num
        omega
      have H1 := hide (fun w => dateOf_gen (parts d).y ((parts d).m + n) 1 w (by omega) (by omega) (by omega) (by omega) (by omega) (by omega) (by omega))
      have H2 := hide (fun w => dateOf_gen (parts d).y ((parts d).m + n + 1) 1 w (by omega) (by omega) (by omega) (by omega) (by omega) (by omega) (by omega))
      generalize dateOfR (parts d).y ((parts d).m + n) 1 = F at *
      generalize dateOfR (parts d).y ((parts d).m + n + 1) 1 = G at *
      generalize mlen ((12 * (parts d).y + (parts d).m - 1 + n) / 12) ((12 * (parts d).y + (parts d).m - 1 + n) % 12 + 1) = L at *
      generalize parts d = P at *
      obtain ⟨py, pm, pd⟩ := P
      simp only at *
      obtain ⟨f0, f1⟩ := hfb
      obtain ⟨l0, l1⟩ := hml
      obtain ⟨y0, y1⟩ := hy
      have HR := hide (fun w => dayOfRef_any X w)
      have xm : IntKind.i64.wrap (pm + n) = pm + n := IntWalk.i64_in _ (by omega)
      have xm1 : IntKind.i64.wrap (pm + n + 1) = pm + n + 1 := IntWalk.i64_in _ (by omega)
      have xg : IntKind.i64.wrap (G - F) = G - F := IntWalk.i64_in _ (by omega)
      have xk : IntKind.i64.wrap (min pd (G - F) - 1) = min pd (G - F) - 1 := IntWalk.i64_in _ (by omega)
      have xx : IntKind.i64.wrap (F + (min pd (G - F) - 1)) = X := by rw [hD]; exact IntWalk.i64_in _ (by omega)
      clear hD hnx hfi p4
      by_cases hX : 0 ≤ X ∧ X ≤ 100000
      · rw [decide_eq_true hX] at HR
        rw [if_pos hX]
        clear hX
        go_enter Tryd.func10, Tryd.ntmps10
        go_wp2_with (first | (go_at_call 14; refine (HI.out _).mono ?_; rintro e w' ⟨rfl, rfl⟩) | (go_at_call 36; refine (HP.out _).mono ?_; rintro e w' ⟨rfl, rfl⟩) | (go_at_call 31; (first | (with_reducible refine Calls.mono (H1.out _) ?_) | (with_reducible refine Calls.mono (H2.out _) ?_)); rintro e w' ⟨rfl, hb⟩; obtain ⟨os1, n1, rfl⟩ := below_plus hb; clear hb) | (go_at_call 32; refine (HR.out _).mono ?_; rintro e w' ⟨rfl, rfl⟩))
        go_ret2
        exact ⟨rfl, (by repeat (first | exact Below.refl _ _ | refine bl_plus ?_ | refine bl_alloc ?_ _ | refine bl_drew ?_))⟩
      · rw [decide_eq_false hX] at HR
        rw [if_neg hX]
        clear hX
        go_enter Tryd.func10, Tryd.ntmps10
        go_wp2_with (first | (go_at_call 14; refine (HI.out _).mono ?_; rintro e w' ⟨rfl, rfl⟩) | (go_at_call 36; refine (HP.out _).mono ?_; rintro e w' ⟨rfl, rfl⟩) | (go_at_call 31; (first | (with_reducible refine Calls.mono (H1.out _) ?_) | (with_reducible refine Calls.mono (H2.out _) ?_)); rintro e w' ⟨rfl, hb⟩; obtain ⟨os1, n1, rfl⟩ := below_plus hb; clear hb) | (go_at_call 32; refine (HR.out _).mono ?_; rintro e w' ⟨rfl, rfl⟩))
        go_ret2
        exact ⟨rfl, (by repeat (first | exact Below.refl _ _ | refine bl_plus ?_ | refine bl_alloc ?_ _ | refine bl_drew ?_))⟩
    · have HR := hide (months_out (d := d) (n := n) (by omega))
      have hc : n < -5000 ∨ (¬ n < -5000 ∧ 5000 < n) := by omega
      clear hn
      rcases hc with h | ⟨h2, h⟩
      all_goals
        go_enter Tryd.func10, Tryd.ntmps10
        go_wp2_with (go_at_call 14; refine (HI.out _).mono ?_; rintro e w' ⟨rfl, rfl⟩)
        go_ret2
        rw [HR.out]
        exact ⟨rfl, Below.refl _ _⟩
  · have HI := hide (fun w => isDay_no d w (by omega))
    have HR := hide (months_out (d := d) (n := n) (by omega))
    clear hd
    go_enter Tryd.func10, Tryd.ntmps10
    go_wp2_with (go_at_call 14; refine (HI.out _).mono ?_; rintro e w' ⟨rfl, rfl⟩)
    go_ret2
    rw [HR.out]
    exact ⟨rfl, Below.refl _ _⟩

end Go.Proofs.YtfklaahakibljaaDoor
