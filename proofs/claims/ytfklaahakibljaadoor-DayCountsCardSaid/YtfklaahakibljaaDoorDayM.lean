/-
  WALKS: the program's week of a day; so many months later, in the program and in the reference.
-/
import Derived.Test.YtfklaahakibljaaDoorDayD
namespace Go.Proofs.YtfklaahakibljaaDoor
open Go.RowKit Cal
attribute [local go_sem high] run_min_i

def Three (a b c : Int) (w : World) (e : Ending) (w' : World) : Prop := e = .returned (.tuple #[.int .i64 a, .int .i64 b, .int .i64 c]) ∧ Below w.heap.size w w'
set_option maxHeartbeats 800000 in
theorem week_no (d : Int) (w : World) (h : d < 0 ∨ 100000 < d) :
    Calls Tryd.prog 12 #[.int .i64 d] w (Three 0 0 2 w) := by
  have HO := hide (fun w => outsideP_yes d 0 100000 w h)
  clear h
  go_enter Tryd.func12, Tryd.ntmps12
  go_wp2_with (go_at_call 29; refine (HO.out _).mono ?_; rintro e w' ⟨rfl, rfl⟩)
  go_ret3
  exact ⟨rfl, Below.refl _ _⟩
set_option maxHeartbeats 1600000 in
theorem week_any (d : Int) (w : World) (h0 : 0 ≤ d) (h1 : d ≤ 100000) :
    Calls Tryd.prog 12 #[.int .i64 d] w (Three (weekR d).1 (weekR d).2 0 w) := by
  have HO := hide (fun w => outsideP_no d 0 100000 w h0 h1)
  have hth : d - d % 7 + 3 = thuR d := rfl
  have hb : 0 ≤ thuR d ∧ thuR d ≤ 100010 := by unfold thuR; omega
  have hm : 0 ≤ d % 7 ∧ d % 7 < 7 ∧ d % 7 ≤ d := by omega
  obtain ⟨m0, m1, m2⟩ := hm
  have HTH := hide hth
  have hy := parts_year (thuR d)
  have hyb := year_bd hb.1 (by omega)
  have HY := hide (fun w => dateAt_any (thuR d) w hb.1 (by omega))
  unfold weekR
  clear hth
  generalize thuR d = t at *
  generalize parts t = P at *
  obtain ⟨y, pm, pd⟩ := P
  have HYD := hide (fun w => before_any y w (by have := hyb.1; simp only at this; omega) (by have := hyb.2; simp only at this; omega))
  have hyd : 0 ≤ yd y := by have := hyb.1; simp only at this; unfold yd; omega
  obtain ⟨y0, y1⟩ := hy
  simp only at y0 y1 ⊢
  obtain ⟨b0, b1⟩ := hb
  clear y1 hyb
  generalize yd y = D at *
  go_enter Tryd.func12, Tryd.ntmps12
  go_upto_region 4 with (go_at_call 29; refine (HO.out _).mono ?_; rintro e w' ⟨rfl, rfl⟩)
  rw [HTH.out]
  go_wp2_with (first
    | (go_at_call 34; refine (HY.out _).mono ?_; rintro e w' ⟨rfl, hbl⟩; obtain ⟨os1, n1, rfl⟩ := below_plus hbl; clear hbl)
    | (go_at_call 37; refine (HYD.out _).mono ?_; rintro e w' ⟨rfl, rfl⟩))
  go_ret3
  exact ⟨rfl, (by repeat (first | exact Below.refl _ _ | refine bl_plus ?_ | refine bl_alloc ?_ _ | refine bl_drew ?_))⟩

/-! ### So many months later -/

def monM (d n : Int) : Int := 12 * (parts d).y + (parts d).m - 1 + n
def monD (d n : Int) : Int := num (monM d n / 12) (monM d n % 12 + 1) (min (parts d).d (mlen (monM d n / 12) (monM d n % 12 + 1)))
def monthsR (d n : Int) : Int × Int := if (0 ≤ d ∧ d ≤ 100000) ∧ (-5000 ≤ n ∧ n ≤ 5000) ∧ 0 ≤ monD d n ∧ monD d n ≤ 100000 then (monD d n, 0) else (0, 2)
theorem year_top {d : Int} (h0 : 0 ≤ d) (h1 : d ≤ 100000) : 2001 ≤ (parts d).y ∧ (parts d).y ≤ 2275 := by
  have h := parts_year d
  unfold yd at h
  omega
/-- A date of a year before 2001 lies before day 0; its last day too. -/
theorem num_early {y m d : Int} (hy : y ≤ 2000) (h1 : 1 ≤ m) (h2 : m ≤ 12) (h3 : d ≤ mlen y m) : num y m d < 0 := by
  have hs := cum_succ (y := y) h1 h2
  have h13 := cum_mono (y := y) (m := m + 1) (n := 13) (by omega) (by omega) (by omega)
  rw [cum_13] at h13
  have hyy := yd_succ y
  have hm := yd_mono (show y + 1 ≤ 2001 by omega)
  have e : yd 2001 = 0 := by decide
  unfold num
  omega
theorem num_late {y m d : Int} (hy : 2300 < y) (h1 : 1 ≤ m) (h2 : m ≤ 13) (h3 : 1 ≤ d) : 100000 < num y m d := by
  have h0 := cum_mono (y := y) (m := 1) (n := m) (by omega) h1 h2
  rw [cum_1] at h0
  have : 100000 < yd y := by unfold yd; omega
  unfold num
  omega

theorem months_of_dayOf {d n : Int} (h0 : 0 ≤ d) (h1 : d ≤ 100000) (hM0 : 24012 ≤ monM d n) (hM1 : monM d n / 12 ≤ 9999) :
    dayOfR (monM d n / 12) (monM d n % 12 + 1) (min (parts d).d (mlen (monM d n / 12) (monM d n % 12 + 1))) = monthsR d n := by
  obtain ⟨p1, p2, p3, p4⟩ := (parts_ok d).1
  have hy := year_top h0 h1
  have hml := mlen_bd (monM d n / 12) (monM d n % 12 + 1)
  have hge : 0 ≤ monD d n := num_ge (by omega) (by omega) (by omega) (by omega)
  have hmin : 1 ≤ min (parts d).d (mlen (monM d n / 12) (monM d n % 12 + 1)) ∧ min (parts d).d (mlen (monM d n / 12) (monM d n % 12 + 1)) ≤ mlen (monM d n / 12) (monM d n % 12 + 1) := by omega
  by_cases hn : n ≤ 5000
  · by_cases hD : monD d n ≤ 100000
    · have hnn : -5000 ≤ n := by unfold monM at hM0; omega
      rw [monthsR, if_pos ⟨⟨h0, h1⟩, ⟨hnn, hn⟩, hge, hD⟩]
      exact if_pos ⟨by omega, hM1, by omega, by omega, hmin.1, hmin.2, hD⟩
    · rw [monthsR, if_neg (fun h => hD h.2.2.2)]
      exact if_neg (fun h => hD h.2.2.2.2.2.2)
  · rw [monthsR, if_neg (fun h => hn h.2.1.2)]
    exact dayOfR_late (by unfold monM; omega)
theorem months_early {d n : Int} (hM0 : monM d n < 24012) : monthsR d n = (0, 2) := by
  refine if_neg (fun h => ?_)
  have := num_early (y := monM d n / 12) (m := monM d n % 12 + 1) (d := min (parts d).d (mlen (monM d n / 12) (monM d n % 12 + 1))) (by omega) (by omega) (by omega) (by omega)
  have h2 := h.2.2.1
  unfold monD at h2
  omega
theorem months_far {d n : Int} (h0 : 0 ≤ d) (h1 : d ≤ 100000) (hM1 : 9999 < monM d n / 12) : monthsR d n = (0, 2) := by
  refine if_neg (fun h => ?_)
  have hy := year_top h0 h1
  obtain ⟨p1, p2, p3, p4⟩ := (parts_ok d).1
  have := h.2.1.2
  unfold monM at hM1
  omega
theorem months_out {d n : Int} (h : d < 0 ∨ 100000 < d ∨ n < -5000 ∨ 5000 < n) : monthsR d n = (0, 2) := if_neg (fun hh => by omega)

set_option maxHeartbeats 3200000 in
set_option maxRecDepth 100000 in
theorem months_any (d n : Int) (w : World) :
    Calls Tryd.prog 9 #[.int .i64 d, .int .i64 n] w (DayOfOut (monthsR d n) w) := by
  by_cases hd : 0 ≤ d ∧ d ≤ 100000
  · have HO := hide (fun w => outsideP_no d 0 100000 w hd.1 hd.2)
    by_cases hn : -120000 ≤ n ∧ n ≤ 120000
    · have HN := hide (fun w => outsideP_no n (-120000) 120000 w hn.1 hn.2)
      obtain ⟨d0, d1⟩ := hd
      obtain ⟨n0, n1⟩ := hn
      have HD := hide (fun w => dateAt_any d w d0 (by omega))
      have hy := year_top d0 d1
      obtain ⟨p1, p2, p3, p4⟩ := (parts_ok d).1
      have hp31 : (parts d).d ≤ 31 := by have := mlen_bd (parts d).y (parts d).m; omega
      have he := months_early (d := d) (n := n)
      have hf := months_far (d := d) (n := n) d0 d1
      have hg := months_of_dayOf (d := d) (n := n) d0 d1
      have hM : 12 * (parts d).y + (parts d).m - 1 + n = monM d n := rfl
      generalize monM d n = M at *
      generalize monthsR d n = R at *
      generalize parts d = P at *
      obtain ⟨py, pm, pd⟩ := P
      simp only at hM hg he hf hy p1 p2 p3 p4 hp31
      obtain ⟨y0, y1⟩ := hy
      have hMb : -100000 ≤ M ∧ M ≤ 150000 := by omega
      obtain ⟨mb0, mb1⟩ := hMb
      have xM : IntKind.i64.wrap (12 * py + pm - 1 + n) = M := by rw [hM]; exact IntWalk.i64_in _ (by omega)
      clear hM p4
      by_cases hM0 : M < 24012
      · have HR := hide (he hM0)
        clear he hf hg
        go_enter Tryd.func9, Tryd.ntmps9
        go_wp2_with (first
          | (go_at_call_of 29 (Value.int IntKind.i64 d); refine (HO.out _).mono ?_; rintro e w' ⟨rfl, rfl⟩)
          | (go_at_call 29; refine (HN.out _).mono ?_; rintro e w' ⟨rfl, rfl⟩)
          | (go_at_call 34; refine (HD.out _).mono ?_; rintro e w' ⟨rfl, hbl⟩; obtain ⟨os1, n1, rfl⟩ := below_plus hbl; clear hbl))
        go_ret2
        rw [HR.out]
        exact ⟨rfl, (by repeat (first | exact Below.refl _ _ | refine bl_plus ?_ | refine bl_alloc ?_ _ | refine bl_drew ?_))⟩
      · by_cases hM1 : 9999 < M / 12
        · have HR := hide (hf hM1)
          clear he hf hg
          go_enter Tryd.func9, Tryd.ntmps9
          go_wp2_with (first
            | (go_at_call_of 29 (Value.int IntKind.i64 d); refine (HO.out _).mono ?_; rintro e w' ⟨rfl, rfl⟩)
            | (go_at_call 29; refine (HN.out _).mono ?_; rintro e w' ⟨rfl, rfl⟩)
            | (go_at_call 34; refine (HD.out _).mono ?_; rintro e w' ⟨rfl, hbl⟩; obtain ⟨os1, n1, rfl⟩ := below_plus hbl; clear hbl))
          go_ret2
          rw [HR.out]
          exact ⟨rfl, (by repeat (first | exact Below.refl _ _ | refine bl_plus ?_ | refine bl_alloc ?_ _ | refine bl_drew ?_))⟩
        · have hgg := hg (by omega) (by omega)
          obtain ⟨k, hk, hk2⟩ : ∃ k : Nat, M % 12 = k ∧ k < 12 := ⟨(M % 12).toNat, by omega, by omega⟩
          have hix := run_lens (M / 12) k hk2
          rw [hk] at hgg
          have HDO := hide (fun w => dayOf_any (M / 12) (k + 1) (min pd (mlen (M / 12) (k + 1))) w)
          rw [hgg] at HDO
          have hY : 2001 ≤ M / 12 ∧ M / 12 ≤ 9999 := by omega
          have HL := hide (fun w => lengths_any (M / 12) w (by omega) (by omega))
          have k3 : (k : Int) < 12 := by omega
          obtain ⟨Y0, Y1⟩ := hY
          have hmod : M % 12 = (k : Int) := hk
          clear he hf hg hgg hk
          go_enter Tryd.func9, Tryd.ntmps9
          go_wp2_with (first
            | (go_at_call_of 29 (Value.int IntKind.i64 d); refine (HO.out _).mono ?_; rintro e w' ⟨rfl, rfl⟩)
            | (go_at_call 29; refine (HN.out _).mono ?_; rintro e w' ⟨rfl, rfl⟩)
            | (go_at_call 34; refine (HD.out _).mono ?_; rintro e w' ⟨rfl, hbl⟩; obtain ⟨os1, n1, rfl⟩ := below_plus hbl; clear hbl)
            | (go_at_call 35; refine (HL.out _).mono ?_; rintro e w' ⟨rfl, hbl⟩; obtain ⟨os2, n2, rfl⟩ := below_plus hbl; clear hbl)
            | (go_at_call 7; refine (HDO.out _).mono ?_; rintro e w' ⟨rfl, hbl⟩; obtain ⟨os3, n3, rfl⟩ := below_plus hbl; clear hbl))
          go_ret2
          exact ⟨rfl, (by repeat (first | exact Below.refl _ _ | refine bl_plus ?_ | refine bl_alloc ?_ _ | refine bl_drew ?_))⟩
    · have HN := hide (fun w => outsideP_yes n (-120000) 120000 w (by omega))
      have HR := hide (months_out (d := d) (n := n) (by omega))
      clear hn hd
      go_enter Tryd.func9, Tryd.ntmps9
      go_wp2_with (first
        | (go_at_call_of 29 (Value.int IntKind.i64 d); refine (HO.out _).mono ?_; rintro e w' ⟨rfl, rfl⟩)
        | (go_at_call 29; refine (HN.out _).mono ?_; rintro e w' ⟨rfl, rfl⟩))
      go_ret2
      rw [HR.out]
      exact ⟨rfl, Below.refl _ _⟩
  · have HO := hide (fun w => outsideP_yes d 0 100000 w (by omega))
    have HR := hide (months_out (d := d) (n := n) (by omega))
    clear hd
    go_enter Tryd.func9, Tryd.ntmps9
    go_wp2_with (go_at_call 29; refine (HO.out _).mono ?_; rintro e w' ⟨rfl, rfl⟩)
    go_ret2
    rw [HR.out]
    exact ⟨rfl, Below.refl _ _⟩

end Go.Proofs.YtfklaahakibljaaDoor
