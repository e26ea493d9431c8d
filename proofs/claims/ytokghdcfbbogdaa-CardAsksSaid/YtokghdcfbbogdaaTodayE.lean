/-
  WALKS: Due, TodayOf and DueOf.
-/
import Derived.Test.YtokghdcfbbogdaaTodayD
namespace Go.Proofs.Ytokghdcfbbogdaa
open Go.RowKit

set_option maxHeartbeats 1600000 in
set_option maxRecDepth 100000 in
theorem todayOf_bad (A B : Option Addr) (c c2 : Nat) (xs : List St) (rs : List Rv) (d bn ba : Int) (w : World) (hA : StsAt w A xs) (h : statesErr xs ≠ 0) :
    Calls Try.prog 28 #[.slice A xs.length c, .slice B rs.length c2, .int .i64 d, .agg #[.int .i64 bn, .int .i64 ba]] w (IntsOut (todayR xs rs d bn ba) w) := by
  have hR : todayR xs rs d bn ba = ([], statesErr xs) := by
    have : onErr xs d = statesErr xs := by unfold onErr; rw [if_neg h]
    unfold todayR; rw [this, if_neg h]
  rw [hR]
  have hck := fun w h => statesFault_any A c xs w h
  generalize statesErr xs = r at hck h ⊢
  have hr : (r == 0) = false := by simp [h]
  have H1 := hide hck
  have HA := hide hA
  clear hck h hA hR
  go_enter Try.func28, Try.ntmps28
  go_wp2_with (go_at_call 49; refine (H1.out _ (HA.out.alloc _)).mono ?_; rintro e w' ⟨rfl, hb⟩; obtain ⟨os1, n1, rfl⟩ := below_plus hb; clear hb)
  go_returns
  exact intsOut_err (by repeat (first | exact Below.refl _ _ | refine bl_plus ?_ | refine bl_alloc ?_ _ | refine bl_drew ?_))

set_option maxHeartbeats 1600000 in
set_option maxRecDepth 100000 in
theorem todayOf_day (A B : Option Addr) (c c2 : Nat) (xs : List St) (rs : List Rv) (d bn ba : Int) (w : World) (hA : StsAt w A xs) (h : statesErr xs = 0) (hd : d < 0 ∨ 100000 < d) :
    Calls Try.prog 28 #[.slice A xs.length c, .slice B rs.length c2, .int .i64 d, .agg #[.int .i64 bn, .int .i64 ba]] w (IntsOut (todayR xs rs d bn ba) w) := by
  have hR : todayR xs rs d bn ba = ([], 2) := by
    have : onErr xs d = 2 := by unfold onErr; rw [if_pos h, if_pos hd]
    unfold todayR; rw [this, if_neg (by decide)]
  rw [hR]
  have hck := fun w h => statesFault_any A c xs w h
  rw [h] at hck
  have hday := fun w => isDay_no d w hd
  have HD := hide hday
  have H1 := hide hck
  have HA := hide hA
  clear hck h hA hR hday hd
  go_enter Try.func28, Try.ntmps28
  go_wp2_with (first | (go_at_call 49; refine (H1.out _ (HA.out.alloc _)).mono ?_; rintro e w' ⟨rfl, hb⟩; obtain ⟨os1, n1, rfl⟩ := below_plus hb; clear hb) | (go_at_call 59; refine (HD.out _).mono ?_; rintro e w' ⟨rfl, rfl⟩))
  go_returns
  exact intsOut_err (by repeat (first | exact Below.refl _ _ | refine bl_plus ?_ | refine bl_alloc ?_ _ | refine bl_drew ?_))

set_option maxHeartbeats 1600000 in
set_option maxRecDepth 100000 in
theorem todayOf_bound (A B : Option Addr) (c c2 : Nat) (xs : List St) (rs : List Rv) (d bn ba : Int) (w : World) (hA : StsAt w A xs) (h : statesErr xs = 0) (hd : 0 ≤ d ∧ d ≤ 100000) (hbd : ¬ bndOk bn ba) :
    Calls Try.prog 28 #[.slice A xs.length c, .slice B rs.length c2, .int .i64 d, .agg #[.int .i64 bn, .int .i64 ba]] w (IntsOut (todayR xs rs d bn ba) w) := by
  have hR : todayR xs rs d bn ba = ([], 2) := by unfold todayR; rw [if_pos (onErr_ok h hd), if_neg hbd]
  rw [hR]
  have hck := fun w h => statesFault_any A c xs w h
  rw [h] at hck
  have hday := fun w => isDay_yes d w hd.1 hd.2
  have hbf := fun w => boundsFault_any bn ba w
  rw [decide_eq_false hbd] at hbf
  have HD := hide hday
  have H1 := hide hck
  have H2 := hide hbf
  have HA := hide hA
  clear hck h hA hR hday hd hbf hbd
  go_enter Try.func28, Try.ntmps28
  go_wp2_with (first | (go_at_call 49; refine (H1.out _ (HA.out.alloc _)).mono ?_; rintro e w' ⟨rfl, hb⟩; obtain ⟨os1, n1, rfl⟩ := below_plus hb; clear hb) | (go_at_call 59; refine (HD.out _).mono ?_; rintro e w' ⟨rfl, rfl⟩) | (go_at_call 70; refine (H2.out _).mono ?_; rintro e w' ⟨rfl, hb⟩; obtain ⟨os2, n2, rfl⟩ := below_plus hb; clear hb))
  go_returns
  exact intsOut_err (by repeat (first | exact Below.refl _ _ | refine bl_plus ?_ | refine bl_alloc ?_ _ | refine bl_drew ?_))

set_option maxHeartbeats 1600000 in
set_option maxRecDepth 100000 in
theorem todayOf_long (A B : Option Addr) (c c2 : Nat) (xs : List St) (rs : List Rv) (d bn ba : Int) (w : World) (hA : StsAt w A xs) (h : statesErr xs = 0) (hd : 0 ≤ d ∧ d ≤ 100000) (hbd : bndOk bn ba) (hrl : 20000 < rs.length) :
    Calls Try.prog 28 #[.slice A xs.length c, .slice B rs.length c2, .int .i64 d, .agg #[.int .i64 bn, .int .i64 ba]] w (IntsOut (todayR xs rs d bn ba) w) := by
  have hR : todayR xs rs d bn ba = ([], 4) := by unfold todayR; rw [if_pos (onErr_ok h hd), if_pos hbd, if_pos hrl]
  rw [hR]
  have hck := fun w h => statesFault_any A c xs w h
  rw [h] at hck
  have hday := fun w => isDay_yes d w hd.1 hd.2
  have hbf := fun w => boundsFault_any bn ba w
  rw [decide_eq_true hbd] at hbf
  have HD := hide hday
  have H1 := hide hck
  have H2 := hide hbf
  have HA := hide hA
  clear hck h hA hR hday hd hbf hbd
  have hrl' : (20000 : Int) < (rs.length : Int) := by omega
  go_enter Try.func28, Try.ntmps28
  go_wp2_with (first | (go_at_call 49; refine (H1.out _ (HA.out.alloc _)).mono ?_; rintro e w' ⟨rfl, hb⟩; obtain ⟨os1, n1, rfl⟩ := below_plus hb; clear hb) | (go_at_call 59; refine (HD.out _).mono ?_; rintro e w' ⟨rfl, rfl⟩) | (go_at_call 70; refine (H2.out _).mono ?_; rintro e w' ⟨rfl, hb⟩; obtain ⟨os2, n2, rfl⟩ := below_plus hb; clear hb))
  go_returns
  exact intsOut_err (by repeat (first | exact Below.refl _ _ | refine bl_plus ?_ | refine bl_alloc ?_ _ | refine bl_drew ?_))

set_option maxHeartbeats 1600000 in
set_option maxRecDepth 100000 in
theorem todayOf_ok (A B : Option Addr) (c c2 : Nat) (xs : List St) (rs : List Rv) (d bn ba : Int) (w : World) (hA : StsAt w A xs) (hB : RvsAt w B rs) (h : statesErr xs = 0) (hd : 0 ≤ d ∧ d ≤ 100000) (hbd : bndOk bn ba) (hrl : rs.length ≤ 20000) :
    Calls Try.prog 28 #[.slice A xs.length c, .slice B rs.length c2, .int .i64 d, .agg #[.int .i64 bn, .int .i64 ba]] w (IntsOut (todayR xs rs d bn ba) w) := by
  have hR : todayR xs rs d bn ba = (todayList xs d (cntFirst rs d rs.length) (cntAll rs d rs.length) bn ba, 0) := by unfold todayR; rw [if_pos (onErr_ok h hd), if_pos hbd, if_neg (by omega)]
  rw [hR]
  have htd := fun w hA hB => rtoday_ok A B c c2 xs rs d bn ba w hA hB h hrl hbd.1 hbd.2
  have hck := fun w h => statesFault_any A c xs w h
  rw [h] at hck
  have hday := fun w => isDay_yes d w hd.1 hd.2
  have hbf := fun w => boundsFault_any bn ba w
  rw [decide_eq_true hbd] at hbf
  have HD := hide hday
  have H1 := hide hck
  have H2 := hide hbf
  have HA := hide hA
  have HB := hide hB
  have HT := hide htd
  clear hck h hA hR hday hd hbf hbd hB htd
  have hrl' : ¬ (20000 : Int) < (rs.length : Int) := by omega
  go_enter Try.func28, Try.ntmps28
  go_wp2_with (first | (go_at_call 49; refine (H1.out _ (HA.out.alloc _)).mono ?_; rintro e w' ⟨rfl, hb⟩; obtain ⟨os1, n1, rfl⟩ := below_plus hb; clear hb) | (go_at_call 59; refine (HD.out _).mono ?_; rintro e w' ⟨rfl, rfl⟩) | (go_at_call 70; refine (H2.out _).mono ?_; rintro e w' ⟨rfl, hb⟩; obtain ⟨os2, n2, rfl⟩ := below_plus hb; clear hb) | (go_at_call 71; refine (HT.out _ (((HA.out.alloc _).plus _ _).plus _ _) (((HB.out.alloc _).plus _ _).plus _ _)).mono ?_; rintro e w' ⟨v, rfl, hh, hb⟩; obtain ⟨os3, n3, rfl⟩ := below_plus hb; clear hb; have HH := hide hh; clear hh))
  go_returns
  exact intsOut_half (HH.out.lower (by simp only [plus_size, World.size_alloc]; omega)) (by repeat (first | exact Below.refl _ _ | refine bl_plus ?_ | refine bl_alloc ?_ _ | refine bl_drew ?_))

theorem todayOf_any (A B : Option Addr) (c c2 : Nat) (xs : List St) (rs : List Rv) (d bn ba : Int) (w : World) (hA : StsAt w A xs) (hB : RvsAt w B rs) :
    Calls Try.prog 28 #[.slice A xs.length c, .slice B rs.length c2, .int .i64 d, .agg #[.int .i64 bn, .int .i64 ba]] w (IntsOut (todayR xs rs d bn ba) w) := by
  by_cases h : statesErr xs = 0
  · by_cases hd : d < 0 ∨ 100000 < d
    · exact todayOf_day A B c c2 xs rs d bn ba w hA h hd
    · by_cases hbd : bndOk bn ba
      · by_cases hrl : 20000 < rs.length
        · exact todayOf_long A B c c2 xs rs d bn ba w hA h (by omega) hbd hrl
        · exact todayOf_ok A B c c2 xs rs d bn ba w hA hB h (by omega) hbd (by omega)
      · exact todayOf_bound A B c c2 xs rs d bn ba w hA h (by omega) hbd
  · exact todayOf_bad A B c c2 xs rs d bn ba w hA h

def dueR (xs : List St) (d : Int) : List Int × Int := if onErr xs d = 0 then (dueList xs d, 0) else ([], onErr xs d)

set_option maxHeartbeats 1600000 in
set_option maxRecDepth 100000 in
theorem dueF_any (A : Option Addr) (c : Nat) (xs : List St) (d : Int) (w : World) (hA : StsAt w A xs) :
    Calls Try.prog 25 #[.slice A xs.length c, .int .i64 d] w (IntsOut (dueR xs d) w) := by
  have hck := fun w h => checkOn_any A c xs d w h
  by_cases h : onErr xs d = 0
  · have hR : dueR xs d = (dueList xs d, 0) := by unfold dueR; rw [if_pos h]
    rw [hR]
    have hdu := fun w hA => due_any A c xs d w hA (onErr_zero h).1
    rw [h] at hck
    have H1 := hide hck
    have HU := hide hdu
    have HA := hide hA
    clear hck hA hR h hdu
    go_enter Try.func25, Try.ntmps25
    go_wp2_with (first | (go_at_call 65; refine (H1.out _ HA.out).mono ?_; rintro e w' ⟨rfl, hb⟩; obtain ⟨os1, n1, rfl⟩ := below_plus hb; clear hb) | (go_at_call 66; refine (HU.out _ (HA.out.plus _ _)).mono ?_; rintro e w' ⟨v, rfl, hh, hb⟩; obtain ⟨os3, n3, rfl⟩ := below_plus hb; clear hb; have HH := hide hh; clear hh))
    go_returns
    exact intsOut_half (HH.out.lower (by simp only [plus_size]; omega)) (by repeat (first | exact Below.refl _ _ | refine bl_plus ?_ | refine bl_alloc ?_ _ | refine bl_drew ?_))
  · have hR : dueR xs d = ([], onErr xs d) := by unfold dueR; rw [if_neg h]
    rw [hR]
    generalize onErr xs d = r at hck h ⊢
    have hr : (r == 0) = false := by simp [h]
    have H1 := hide hck
    have HA := hide hA
    clear hck h hA hR
    go_enter Try.func25, Try.ntmps25
    go_wp2_with (go_at_call 65; refine (H1.out _ HA.out).mono ?_; rintro e w' ⟨rfl, hb⟩; obtain ⟨os1, n1, rfl⟩ := below_plus hb; clear hb)
    go_returns
    exact intsOut_err (by repeat (first | exact Below.refl _ _ | refine bl_plus ?_ | refine bl_alloc ?_ _ | refine bl_drew ?_))

set_option maxHeartbeats 1600000 in
set_option maxRecDepth 100000 in
theorem dueOf_any (A : Option Addr) (c : Nat) (xs : List St) (d : Int) (w : World) (hA : StsAt w A xs) :
    Calls Try.prog 26 #[.slice A xs.length c, .int .i64 d] w (IntsOut (dueR xs d) w) := by
  have hck := fun w h => statesFault_any A c xs w h
  by_cases h : statesErr xs = 0
  · by_cases hd : d < 0 ∨ 100000 < d
    · have hR : dueR xs d = ([], 2) := by
        have : onErr xs d = 2 := by unfold onErr; rw [if_pos h, if_pos hd]
        unfold dueR; rw [this, if_neg (by decide)]
      rw [hR]
      rw [h] at hck
      have hday := fun w => isDay_no d w hd
      have HD := hide hday
      have H1 := hide hck
      have HA := hide hA
      clear hck h hA hR hday hd
      go_enter Try.func26, Try.ntmps26
      go_wp2_with (first | (go_at_call 49; refine (H1.out _ HA.out).mono ?_; rintro e w' ⟨rfl, hb⟩; obtain ⟨os1, n1, rfl⟩ := below_plus hb; clear hb) | (go_at_call 59; refine (HD.out _).mono ?_; rintro e w' ⟨rfl, rfl⟩))
      go_returns
      exact intsOut_err (by repeat (first | exact Below.refl _ _ | refine bl_plus ?_ | refine bl_alloc ?_ _ | refine bl_drew ?_))
    · have hR : dueR xs d = (dueList xs d, 0) := by unfold dueR; rw [if_pos (onErr_ok h (by omega))]
      rw [hR]
      have hdu := fun w hA => dueAt_any A c xs d w hA h
      rw [h] at hck
      have hday := fun w => isDay_yes d w (by omega) (by omega)
      have HD := hide hday
      have H1 := hide hck
      have HU := hide hdu
      have HA := hide hA
      clear hck hA hR h hdu hday hd
      go_enter Try.func26, Try.ntmps26
      go_wp2_with (first | (go_at_call 49; refine (H1.out _ HA.out).mono ?_; rintro e w' ⟨rfl, hb⟩; obtain ⟨os1, n1, rfl⟩ := below_plus hb; clear hb) | (go_at_call 59; refine (HD.out _).mono ?_; rintro e w' ⟨rfl, rfl⟩) | (go_at_call 67; refine (HU.out _ (HA.out.plus _ _)).mono ?_; rintro e w' ⟨v, rfl, hh, hb⟩; obtain ⟨os3, n3, rfl⟩ := below_plus hb; clear hb; have HH := hide hh; clear hh))
      go_returns
      exact intsOut_half (HH.out.lower (by simp only [plus_size]; omega)) (by repeat (first | exact Below.refl _ _ | refine bl_plus ?_ | refine bl_alloc ?_ _ | refine bl_drew ?_))
  · have hR : dueR xs d = ([], statesErr xs) := by
      have : onErr xs d = statesErr xs := by unfold onErr; rw [if_neg h]
      unfold dueR; rw [this, if_neg h]
    rw [hR]
    generalize statesErr xs = r at hck h ⊢
    have hr : (r == 0) = false := by simp [h]
    have H1 := hide hck
    have HA := hide hA
    clear hck h hA hR
    go_enter Try.func26, Try.ntmps26
    go_wp2_with (go_at_call 49; refine (H1.out _ HA.out).mono ?_; rintro e w' ⟨rfl, hb⟩; obtain ⟨os1, n1, rfl⟩ := below_plus hb; clear hb)
    go_returns
    exact intsOut_err (by repeat (first | exact Below.refl _ _ | refine bl_plus ?_ | refine bl_alloc ?_ _ | refine bl_drew ?_))

end Go.Proofs.Ytokghdcfbbogdaa
