/-
  WALKS: the program's week of a day; so many months later, in the program and in the reference.
-/
import Derived.Test.YtioppoaijehicaaGreatDoorDayD
set_option linter.all false
namespace Go.Proofs.YtioppoaijehicaaGreatDoor
open Go.RowKit Cal
attribute [local go_sem high] run_min_i

def Three (a b c : Int) (w : World) (e : Ending) (w' : World) : Prop := e = .returned (.tuple #[.int .i64 a, .int .i64 b, .int .i64 c]) ∧ Below w.heap.size w w'

/-! ### So many months later -/

def monM (d n : Int) : Int := 12 * (parts d).y + (parts d).m - 1 + n

def monD (d n : Int) : Int := num (monM d n / 12) (monM d n % 12 + 1) (min (parts d).d (mlen (monM d n / 12) (monM d n % 12 + 1)))

def monthsR (d n : Int) : Int × Int := if (0 ≤ d ∧ d ≤ 100000) ∧ (-5000 ≤ n ∧ n ≤ 5000) ∧ 0 ≤ monD d n ∧ monD d n ≤ 100000 then (monD d n, 0) else (0, 2)

theorem year_top {d : Int} (h0 : 0 ≤ d) (h1 : d ≤ 100000) : 2001 ≤ (parts d).y ∧ (parts d).y ≤ 2275 := by
  have h := parts_year d
  unfold yd at h
  omega

/-- A date of a year before 2001 lies before day 0; its last day too. -/
theorem num_early {y m d : Int} (hy : y ≤ 2000) (h1 : 1 ≤ m) (h2 : m ≤ 12) (h3 : d ≤ mlen y m) : num y m d < 0 := by
  have hs := cum_succ (y := y) h1 h2
  have h13 := cum_mono (y := y) (m := m + 1) (n := 13) (by omega) (by omega) (by omega)
  rw [cum_13] at h13
  have hyy := yd_succ y
  have hm := yd_mono (show y + 1 ≤ 2001 by omega)
  have e : yd 2001 = 0 := by decide
  unfold num
  omega

theorem num_late {y m d : Int} (hy : 2300 < y) (h1 : 1 ≤ m) (h2 : m ≤ 13) (h3 : 1 ≤ d) : 100000 < num y m d := by
  have h0 := cum_mono (y := y) (m := 1) (n := m) (by omega) h1 h2
  rw [cum_1] at h0
  have : 100000 < yd y := by unfold yd; omega
  unfold num
  omega

theorem months_of_dayOf {d n : Int} (h0 : 0 ≤ d) (h1 : d ≤ 100000) (hM0 : 24012 ≤ monM d n) (hM1 : monM d n / 12 ≤ 9999) :
    dayOfR (monM d n / 12) (monM d n % 12 + 1) (min (parts d).d (mlen (monM d n / 12) (monM d n % 12 + 1))) = monthsR d n := by
  obtain ⟨p1, p2, p3, p4⟩ := (parts_ok d).1
  have hy := year_top h0 h1
  have hml := mlen_bd (monM d n / 12) (monM d n % 12 + 1)
  have hge : 0 ≤ monD d n := num_ge (by omega) (by omega) (by omega) (by omega)
  have hmin : 1 ≤ min (parts d).d (mlen (monM d n / 12) (monM d n % 12 + 1)) ∧ min (parts d).d (mlen (monM d n / 12) (monM d n % 12 + 1)) ≤ mlen (monM d n / 12) (monM d n % 12 + 1) := by omega
  by_cases hn : n ≤ 5000
  · by_cases hD : monD d n ≤ 100000
    · have hnn : -5000 ≤ n := by unfold monM at hM0; omega
      rw [monthsR, if_pos ⟨⟨h0, h1⟩, ⟨hnn, hn⟩, hge, hD⟩]
      exact if_pos ⟨by omega, hM1, by omega, by omega, hmin.1, hmin.2, hD⟩
    · rw [monthsR, if_neg (fun h => hD h.2.2.2)]
      exact if_neg (fun h => hD h.2.2.2.2.2.2)
  · rw [monthsR, if_neg (fun h => hn h.2.1.2)]
    exact dayOfR_late (by unfold monM; omega)

theorem months_early {d n : Int} (hM0 : monM d n < 24012) : monthsR d n = (0, 2) := by
  refine if_neg (fun h => ?_)
  have := num_early (y := monM d n / 12) (m := monM d n % 12 + 1) (d := min (parts d).d (mlen (monM d n / 12) (monM d n % 12 + 1))) (by omega) (by omega) (by omega) (by omega)
  have h2 := h.2.2.1
  unfold monD at h2
  omega

theorem months_far {d n : Int} (h0 : 0 ≤ d) (h1 : d ≤ 100000) (hM1 : 9999 < monM d n / 12) : monthsR d n = (0, 2) := by
  refine if_neg (fun h => ?_)
  have hy := year_top h0 h1
  obtain ⟨p1, p2, p3, p4⟩ := (parts_ok d).1
  have := h.2.1.2
  unfold monM at hM1
  omega

theorem months_out {d n : Int} (h : d < 0 ∨ 100000 < d ∨ n < -5000 ∨ 5000 < n) : monthsR d n = (0, 2) := if_neg (fun hh => by omega)

end Go.Proofs.YtioppoaijehicaaGreatDoor
