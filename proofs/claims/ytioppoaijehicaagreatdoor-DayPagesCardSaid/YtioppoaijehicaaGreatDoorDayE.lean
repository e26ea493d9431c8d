/-
  WALKS: the reference's calendar: a day's year, month and number; the week; the day of a date.
-/
import Derived.Test.YtioppoaijehicaaGreatDoorDayC
set_option linter.all false
namespace Go.Proofs.YtioppoaijehicaaGreatDoor
open Go.RowKit Cal

theorem parts_steps (d : Int) : ∃ row n y k m : Int, row = (d + 730791) / 146097 ∧ n = d + 730791 - 146097 * row ∧ y = (n - n / 1460 + n / 36524 - n / 146096) / 365 ∧ k = n - (365 * y + y / 4 - y / 100) ∧ m = (5 * k + 2) / 153 ∧
    0 ≤ n ∧ n < 146097 ∧ 0 ≤ y ∧ y < 400 ∧ 0 ≤ k ∧ k ≤ 365 ∧ 0 ≤ m ∧ m ≤ 11 ∧
    parts d = if 12 < m + 3 then ⟨400 * row + y + 1, m + 3 - 12, k - (153 * m + 2) / 5 + 1⟩ else ⟨400 * row + y, m + 3, k - (153 * m + 2) / 5 + 1⟩ := by
  obtain ⟨row, hrow⟩ : ∃ r, r = (d + 730791) / 146097 := ⟨_, rfl⟩
  obtain ⟨n, hn⟩ : ∃ r, r = d + 730791 - 146097 * row := ⟨_, rfl⟩
  have n0 : 0 ≤ n := by omega
  have n1 : n < 146097 := by omega
  obtain ⟨y, hy⟩ : ∃ r, r = (n - n / 1460 + n / 36524 - n / 146096) / 365 := ⟨_, rfl⟩
  have hyo := yoe n n0 n1
  rw [← hy] at hyo
  obtain ⟨y0, y1, y2, y3⟩ := hyo
  obtain ⟨k, hk⟩ : ∃ k, k = n - (365 * y + y / 4 - y / 100) := ⟨_, rfl⟩
  have k0 : 0 ≤ k := by unfold doe at y2; omega
  have k1 : k ≤ 365 := by
    unfold doe at y2 y3
    rcases y3 with y3 | ⟨h, y3⟩
    · omega
    · rw [h] at hk; omega
  obtain ⟨m, hm⟩ : ∃ m, m = (5 * k + 2) / 153 := ⟨_, rfl⟩
  refine ⟨row, n, y, k, m, hrow, hn, hy, hk, hm, n0, n1, y0, y1, k0, k1, by omega, by omega, ?_⟩
  clear n0 n1 y0 y1 y2 y3 k0 k1
  subst hm hk hy hn hrow
  rfl

set_option maxHeartbeats 1600000 in
set_option maxRecDepth 100000 in
theorem parts_any (d : Int) (w : World) (h0 : -700000 ≤ d) (h1 : d ≤ 10000000) :
    Calls Tryz.prog 32 #[.int .i64 d] w fun e w' => e = .returned (.tuple #[.int .i64 (parts d).y, .int .i64 (parts d).m, .int .i64 (parts d).d]) ∧ w = w' := by
  obtain ⟨row, n, y, k, m, hrow, hn, hy, hk, hm, n0, n1, y0, y1, k0, k1, m0, m1, hP⟩ := parts_steps d
  have hr : 0 ≤ row ∧ row ≤ 100 := by omega
  obtain ⟨r0, r1⟩ := hr
  have hf := fun w => floor_pos (d + 730791) 146097 w (by omega) (by omega) (by omega) (by omega)
  rw [← hrow] at hf
  have HF := hide hf
  have HN := hide hn.symm
  have HY := hide hy.symm
  have HK := hide hk.symm
  have HM := hide hm.symm
  have HP := hide hP
  clear hrow hn hy hk hm hP hf
  go_enter Tryz.func32, Tryz.ntmps32
  go_upto_region 4 with (go_at_call 70; refine (HF.out _).mono ?_; rintro e w' ⟨rfl, rfl⟩)
  rw [HN.out]
  go_upto_region 5 with (fail)
  rw [HY.out]
  go_upto_region 6 with (fail)
  rw [HK.out]
  go_upto_region 7 with (fail)
  rw [HM.out]
  by_cases hmb : 12 < m + 3
  · have HP2 := hide (HP.out.trans (if_pos hmb))
    go_wp2
    go_ret3
    rw [HP2.out]
    exact ⟨rfl, rfl⟩
  · have HP2 := hide (HP.out.trans (if_neg hmb))
    go_wp2
    go_ret3
    rw [HP2.out]
    exact ⟨rfl, rfl⟩

theorem num_ok (d : Int) : (parts d).ok ∧ (parts d).num = d := parts_ok d

/-- The year of a day. -/
theorem parts_year (d : Int) : yd (parts d).y ≤ d ∧ d < yd ((parts d).y + 1) := by
  have h := num_in (parts_ok d).1
  rw [(parts_ok d).2] at h
  exact ⟨h.1, h.2.1⟩

theorem year_bd {d : Int} (h0 : 0 ≤ d) (h1 : d ≤ 200000) : 2001 ≤ (parts d).y ∧ (parts d).y ≤ 2600 := by
  have h := parts_year d
  unfold yd at h
  omega

set_option maxHeartbeats 800000 in
theorem number_any (d : Int) (w : World) (h0 : -700000 ≤ d) (h1 : d ≤ 10000000) :
    Calls Tryz.prog 150 #[.int .i64 d] w fun e w' => e = .returned (.int .i64 (parts d).d) ∧ w = w' := by
  have HP := hide (fun w => parts_any d w h0 h1)
  generalize parts d = P at *
  go_enter Tryz.func150, Tryz.ntmps150
  go_wp2_with (go_at_call 32; refine (HP.out _).mono ?_; rintro e w' ⟨rfl, rfl⟩)
  go_ret
  exact ⟨rfl, rfl⟩

/-- The week of a day: its Thursday's year, and how many weeks this has had. -/
def thuR (d : Int) : Int := d - d % 7 + 3

def weekR (d : Int) : Int × Int := ((parts (thuR d)).y, (thuR d - yd (parts (thuR d)).y) / 7 + 1)

set_option maxHeartbeats 800000 in
theorem dayOfRef_any (n : Int) (w : World) :
    Calls Tryz.prog 149 #[.int .i64 n] w fun e w' => e = .returned (.tuple #[.int .i64 n, .bool (decide (0 ≤ n ∧ n ≤ 100000))]) ∧ w = w' := by
  have H := hide (fun w => isDay_any n w)
  generalize decide (0 ≤ n ∧ n ≤ 100000) = b at *
  go_enter Tryz.func149, Tryz.ntmps149
  go_wp2_with (go_at_call 10; refine (H.out _).mono ?_; rintro e w' ⟨rfl, rfl⟩)
  go_ret2
  exact ⟨rfl, rfl⟩

/-! ### DayFrom -/

theorem num_next {y m : Int} (h1 : 1 ≤ m) (h2 : m ≤ 12) (d : Int) : num y m d = if m = 12 then num (y + 1) 1 (d - mlen y m) else num y (m + 1) (d - mlen y m) := by
  have hs := cum_succ (y := y) h1 h2
  split
  · rename_i h
    subst h
    have hy := yd_succ y
    rw [show cum y (12 + 1) = 365 + lp y from cum_13 y] at hs
    unfold num
    rw [cum_1]
    omega
  · unfold num
    omega

theorem number_bad {y m d : Int} (h1 : 1 ≤ m) (h2 : m ≤ 12) (h3 : mlen y m < d) (h4 : d ≤ 31) : (parts (num y m d)).d = d - mlen y m := by
  have hb := mlen_bd y m
  rw [num_next h1 h2]
  split
  · have hb2 := mlen_bd (y + 1) 1
    have := parts_num (a := ⟨y + 1, 1, d - mlen y m⟩) ⟨by show (1 : Int) ≤ 1; omega, by show (1 : Int) ≤ 12; omega, by show 1 ≤ d - mlen y m; omega, by show d - mlen y m ≤ mlen (y + 1) 1; omega⟩
    simp only [Date.num] at this
    rw [this]
  · have hb2 := mlen_bd y (m + 1)
    have := parts_num (a := ⟨y, m + 1, d - mlen y m⟩) ⟨by show 1 ≤ m + 1; omega, by show m + 1 ≤ 12; omega, by show 1 ≤ d - mlen y m; omega, by show d - mlen y m ≤ mlen y (m + 1); omega⟩
    simp only [Date.num] at this
    rw [this]

theorem number_good {y m d : Int} (h1 : 1 ≤ m) (h2 : m ≤ 12) (h3 : 1 ≤ d) (h4 : d ≤ mlen y m) : (parts (num y m d)).d = d := by
  have := parts_num (a := ⟨y, m, d⟩) ⟨h1, h2, h3, h4⟩
  simp only [Date.num] at this
  rw [this]

theorem dayOfR_late {y m d : Int} (h : 2300 < y) : dayOfR y m d = (0, 2) := by
  refine if_neg (fun hh => ?_)
  obtain ⟨a1, a2, a3, a4, a5, a6, a7⟩ := hh
  have h0 := cum_mono (y := y) (m := 1) (n := m) (by omega) a3 (by omega)
  rw [cum_1] at h0
  have : 100000 < yd y := by unfold yd; omega
  unfold num at a7
  omega

set_option maxHeartbeats 3200000 in
theorem dayFrom_any (y m d : Int) (w : World) :
    Calls Tryz.prog 104 #[.int .i64 y, .int .i64 m, .int .i64 d] w (DayOfOut (dayOfR y m d) w) := by
  by_cases hin : 2001 ≤ y ∧ y ≤ 2300 ∧ 1 ≤ m ∧ m ≤ 12 ∧ 1 ≤ d ∧ d ≤ 31
  · obtain ⟨a1, a2, a3, a4, a5, a6⟩ := hin
    have hdo := fun w => dateOf_any y m d w a1 (by omega) a3 (by omega) (by omega) (by omega)
    rw [dateOfR_in a3 a4] at hdo
    have hge := num_ge a1 a3 a4 a5
    have hml := mlen_bd y m
    have hcum := cum_mono (y := y) (m := m) (n := 13) a3 (by omega) (by omega)
    rw [cum_13] at hcum
    have hlp := lp_01 y
    have hle : num y m d ≤ 200000 := by
      have : yd y ≤ 110000 := by unfold yd; omega
      unfold num
      omega
    have hnum : (parts (num y m d)).d = if d ≤ mlen y m then d else d - mlen y m := by
      split
      · exact number_good a3 a4 a5 (by assumption)
      · exact number_bad a3 a4 (by omega) a6
    have hR : dayOfR y m d = if d ≤ mlen y m ∧ num y m d ≤ 100000 then (num y m d, 0) else (0, 2) := by
      unfold dayOfR
      by_cases h : d ≤ mlen y m ∧ num y m d ≤ 100000
      · rw [if_pos h, if_pos ⟨a1, by omega, a3, a4, a5, h.1, h.2⟩]
      · rw [if_neg h, if_neg (fun hh => h ⟨hh.2.2.2.2.2.1, hh.2.2.2.2.2.2⟩)]
    rw [hR]
    have hnb := fun w => number_any (num y m d) w (by omega) (by omega)
    rw [hnum] at hnb
    have hdr := fun w => dayOfRef_any (num y m d) w
    generalize mlen y m = L at *
    generalize num y m d = N at *
    have HDO := hide hdo
    clear hdo hR hnum hcum
    by_cases hL : d ≤ L
    · rw [if_pos hL] at hnb
      have HNB := hide hnb
      by_cases hN : N ≤ 100000
      · rw [decide_eq_true ⟨hge, hN⟩] at hdr
        have HDR := hide hdr
        rw [if_pos ⟨hL, hN⟩]
        clear hnb hdr
        go_enter Tryz.func104, Tryz.ntmps104
        go_wp2_with (first | (go_at_call 148; refine (HDO.out _).mono ?_; rintro e w' ⟨rfl, hb⟩; obtain ⟨os1, n1, rfl⟩ := below_plus hb; clear hb) | (go_at_call 149; refine (HDR.out _).mono ?_; rintro e w' ⟨rfl, rfl⟩) | (go_at_call 150; refine (HNB.out _).mono ?_; rintro e w' ⟨rfl, rfl⟩))
        go_ret2
        exact ⟨rfl, (by repeat (first | exact Below.refl _ _ | refine bl_plus ?_ | refine bl_alloc ?_ _ | refine bl_drew ?_))⟩
      · rw [decide_eq_false (fun h => hN h.2)] at hdr
        have HDR := hide hdr
        rw [if_neg (fun h => hN h.2)]
        clear hnb hdr
        go_enter Tryz.func104, Tryz.ntmps104
        go_wp2_with (first | (go_at_call 148; refine (HDO.out _).mono ?_; rintro e w' ⟨rfl, hb⟩; obtain ⟨os1, n1, rfl⟩ := below_plus hb; clear hb) | (go_at_call 149; refine (HDR.out _).mono ?_; rintro e w' ⟨rfl, rfl⟩) | (go_at_call 150; refine (HNB.out _).mono ?_; rintro e w' ⟨rfl, rfl⟩))
        go_ret2
        exact ⟨rfl, (by repeat (first | exact Below.refl _ _ | refine bl_plus ?_ | refine bl_alloc ?_ _ | refine bl_drew ?_))⟩
    · rw [if_neg hL] at hnb
      have HNB := hide hnb
      generalize decide (0 ≤ N ∧ N ≤ 100000) = b at hdr
      have HDR := hide hdr
      rw [if_neg (fun h => hL h.1)]
      have hne : ((d - L : Int) != d) = true := bne_iff_ne.2 (by omega)
      have hne2 : ¬ (d - L = d) := by omega
      clear hnb hdr
      go_enter Tryz.func104, Tryz.ntmps104
      go_wp2_with (first | (go_at_call 148; refine (HDO.out _).mono ?_; rintro e w' ⟨rfl, hb⟩; obtain ⟨os1, n1, rfl⟩ := below_plus hb; clear hb) | (go_at_call 149; refine (HDR.out _).mono ?_; rintro e w' ⟨rfl, rfl⟩) | (go_at_call 150; refine (HNB.out _).mono ?_; rintro e w' ⟨rfl, rfl⟩))
      go_ret2
      exact ⟨rfl, (by repeat (first | exact Below.refl _ _ | refine bl_plus ?_ | refine bl_alloc ?_ _ | refine bl_drew ?_))⟩
  · have hR : dayOfR y m d = (0, 2) := by
      by_cases hy : 2300 < y
      · exact dayOfR_late hy
      · refine if_neg (fun hh => hin ⟨hh.1, by omega, hh.2.2.1, hh.2.2.2.1, hh.2.2.2.2.1, ?_⟩)
        have := mlen_bd y m
        have := hh.2.2.2.2.2.1
        omega
    rw [hR]
    have hc : y < 2001 ∨ (2001 ≤ y ∧ 2300 < y) ∨ (2001 ≤ y ∧ y ≤ 2300 ∧ m < 1) ∨ (2001 ≤ y ∧ y ≤ 2300 ∧ 1 ≤ m ∧ 12 < m) ∨ (2001 ≤ y ∧ y ≤ 2300 ∧ 1 ≤ m ∧ m ≤ 12 ∧ d < 1) ∨ (2001 ≤ y ∧ y ≤ 2300 ∧ 1 ≤ m ∧ m ≤ 12 ∧ 1 ≤ d ∧ 31 < d) := by omega
    clear hR hin
    rcases hc with h | ⟨h1, h⟩ | ⟨h1, h2, h⟩ | ⟨h1, h2, h3, h⟩ | ⟨h1, h2, h3, h4, h⟩ | ⟨h1, h2, h3, h4, h5, h⟩
    all_goals
      go_enter Tryz.func104, Tryz.ntmps104
      go_wp2
      go_ret2
      exact ⟨rfl, Below.refl _ _⟩

end Go.Proofs.YtioppoaijehicaaGreatDoor
