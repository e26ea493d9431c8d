/-
  WALK: the law DayCounts.
-/
import Derived.Test.YtfklaahakibljaaDoorDayT
namespace Go.Proofs.YtfklaahakibljaaDoor
open Go.RowKit Cal

theorem dayOfR_parts {d : Int} (h0 : 0 ≤ d) (h1 : d ≤ 100000) : dayOfR (parts d).y (parts d).m (parts d).d = (d, 0) := by
  have hy := year_top h0 h1
  obtain ⟨p1, p2', p3, p4'⟩ := (parts_ok d).1
  have hn : num (parts d).y (parts d).m (parts d).d = d := (parts_ok d).2
  rw [dayOfR, hn, if_pos ⟨hy.1, by omega, p1, p2', p3, p4', h1⟩]

set_option maxHeartbeats 6400000 in
set_option maxRecDepth 100000 in
theorem dayCounts_any (y m dd d n : Int) (w : World) (ht : PowTab w) :
    Calls Tryd.prog 3 #[.int .i64 y, .int .i64 m, .int .i64 dd, .int .i64 d, .int .i64 n] w fun e w' => e = .returned (.bool true) ∧ Below w.heap.size w w' := by
  have H1 := hide (fun w => dayOf_any y m dd w)
  have H2 := hide (fun w => dayFrom_any y m dd w)
  have H3 := hide (fun w => months_any d n w)
  have H4 := hide (fun w => monthsFrom_any d n w)
  generalize dayOfR y m dd = q at *
  generalize monthsR d n = r at *
  obtain ⟨q1, q2⟩ := q
  obtain ⟨r1, r2⟩ := r
  have HT := hide ht
  clear ht
  by_cases hd : 0 ≤ d ∧ d ≤ 100000
  · obtain ⟨d0, d1⟩ := hd
    have H5 := hide (fun w => dateOfDay_any d w d0 d1)
    have H6 := hide (fun w => week_any d w d0 d1)
    have H7 := hide (fun w ht => dateText_any d w d0 d1 ht)
    have H8 := hide (fun w => isDay_yes d w d0 d1)
    have h9 := fun w => dayFrom_any (parts d).y (parts d).m (parts d).d w
    rw [dayOfR_parts d0 d1] at h9
    have H9 := hide h9
    have H10 := hide (fun w => weekOfR_any d w d0 d1)
    have H11 := hide (fun w => dateString_any d w d0 d1)
    clear h9
    generalize dateS (parts d) = S at *
    generalize parts d = P at *
    generalize weekR d = u at *
    obtain ⟨u1, u2⟩ := u
    obtain ⟨py, pm, pd⟩ := P
    go_enter Tryd.func3, Tryd.ntmps3
    go_wp2_with (first
      | (go_at_call 7; refine (H1.out _).mono ?_; rintro e w' ⟨rfl, hbl⟩; obtain ⟨os1, n1, rfl⟩ := below_plus hbl; clear hbl)
      | (go_at_call 8; (first | (with_reducible refine Calls.mono (H2.out _) ?_) | (with_reducible refine Calls.mono (H9.out _) ?_)); rintro e w' ⟨rfl, hbl⟩; obtain ⟨os2, n2, rfl⟩ := below_plus hbl; clear hbl)
      | (go_at_call 9; refine (H3.out _).mono ?_; rintro e w' ⟨rfl, hbl⟩; obtain ⟨os3, n3, rfl⟩ := below_plus hbl; clear hbl)
      | (go_at_call 10; refine (H4.out _).mono ?_; rintro e w' ⟨rfl, hbl⟩; obtain ⟨os4, n4, rfl⟩ := below_plus hbl; clear hbl)
      | (go_at_call 11; refine (H5.out _).mono ?_; rintro e w' ⟨rfl, hbl⟩; obtain ⟨os5, n5, rfl⟩ := below_plus hbl; clear hbl)
      | (go_at_call 12; refine (H6.out _).mono ?_; rintro e w' ⟨rfl, hbl⟩; obtain ⟨os6, n6, rfl⟩ := below_plus hbl; clear hbl)
      | (go_at_call 13; refine (H7.out _ (powTab_below HT.out (by repeat (first | exact Below.refl _ _ | refine bl_plus ?_ | refine bl_alloc ?_ _ | refine bl_drew ?_)))).mono ?_; rintro e w' ⟨rfl, hbl⟩; obtain ⟨os7, n7, rfl⟩ := below_plus hbl; clear hbl)
      | (go_at_call 14; refine (H8.out _).mono ?_; rintro e w' ⟨rfl, rfl⟩)
      | (go_at_call 15; refine (H10.out _).mono ?_; rintro e w' ⟨rfl, rfl⟩)
      | (go_at_call 16; refine (H11.out _).mono ?_; rintro e w' ⟨rfl, hbl⟩; obtain ⟨os8, n8, rfl⟩ := below_plus hbl; clear hbl))
    go_ret
    exact ⟨by simp, (by repeat (first | exact Below.refl _ _ | refine bl_plus ?_ | refine bl_alloc ?_ _ | refine bl_drew ?_))⟩
  · have hd2 : d < 0 ∨ 100000 < d := by omega
    have H5 := hide (fun w => dateOfDay_no d w hd2)
    have H6 := hide (fun w => week_no d w hd2)
    have H7 := hide (fun w => dateText_no d w hd2)
    have H8 := hide (fun w => isDay_no d w hd2)
    clear hd hd2
    go_enter Tryd.func3, Tryd.ntmps3
    go_wp2_with (first
      | (go_at_call 7; refine (H1.out _).mono ?_; rintro e w' ⟨rfl, hbl⟩; obtain ⟨os1, n1, rfl⟩ := below_plus hbl; clear hbl)
      | (go_at_call 8; refine (H2.out _).mono ?_; rintro e w' ⟨rfl, hbl⟩; obtain ⟨os2, n2, rfl⟩ := below_plus hbl; clear hbl)
      | (go_at_call 9; refine (H3.out _).mono ?_; rintro e w' ⟨rfl, hbl⟩; obtain ⟨os3, n3, rfl⟩ := below_plus hbl; clear hbl)
      | (go_at_call 10; refine (H4.out _).mono ?_; rintro e w' ⟨rfl, hbl⟩; obtain ⟨os4, n4, rfl⟩ := below_plus hbl; clear hbl)
      | (go_at_call 11; refine (H5.out _).mono ?_; rintro e w' ⟨rfl, hbl⟩; obtain ⟨os5, n5, rfl⟩ := below_plus hbl; clear hbl)
      | (go_at_call 12; refine (H6.out _).mono ?_; rintro e w' ⟨rfl, hbl⟩; obtain ⟨os6, n6, rfl⟩ := below_plus hbl; clear hbl)
      | (go_at_call 13; refine (H7.out _).mono ?_; rintro e w' ⟨rfl, hbl⟩; obtain ⟨os7, n7, rfl⟩ := below_plus hbl; clear hbl)
      | (go_at_call 14; refine (H8.out _).mono ?_; rintro e w' ⟨rfl, rfl⟩))
    go_ret
    exact ⟨by simp, (by repeat (first | exact Below.refl _ _ | refine bl_plus ?_ | refine bl_alloc ?_ _ | refine bl_drew ?_))⟩

end Go.Proofs.YtfklaahakibljaaDoor
