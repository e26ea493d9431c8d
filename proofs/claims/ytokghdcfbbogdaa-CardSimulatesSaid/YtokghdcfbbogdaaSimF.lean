/-
  WALKS: the reference's Simulate on no states, and on bad input.
-/
import Derived.Test.YtokghdcfbbogdaaSimE
namespace Go.Proofs.Ytokghdcfbbogdaa
open Go.RowKit

theorem bl_grown {a w w' : World} {row : Option Nat} (h : Below a.heap.size a w) (hg : w.grownBy w' row) (hr : ∀ k, row = some k → a.heap.size ≤ k) : Below a.heap.size a w' := h.grown hg h.size hr

set_option maxHeartbeats 3200000 in
set_option maxRecDepth 100000 in
theorem simulateOf_bad (A A2 : Option Addr) (c c2 : Nat) (xs : List St) (gs : List Int) (fr days bn ba : Int) (w : World) (hA : StsAt w A xs) (h : statesErr xs ≠ 0) :
    Calls Try.prog 38 #[.slice A xs.length c, .slice A2 gs.length c2, .int .i64 fr, .int .i64 days, .agg #[.int .i64 bn, .int .i64 ba]] w (SimOut (simulate xs gs fr days bn ba) w) := by
  have hR : simulate xs gs fr days bn ba = (([], []), statesErr xs) := by unfold simulate; rw [if_neg h]
  rw [hR]
  have hck := fun w h => statesFault_any A c xs w h
  generalize statesErr xs = r at hck h ⊢
  have hr : (r == 0) = false := by simp [h]
  have H1 := hide hck
  have HA := hide hA
  clear hck h hA hR
  go_enter Try.func38, Try.ntmps38
  go_wp2_with (go_at_call 49; refine (H1.out _ (HA.out.alloc _)).mono ?_; rintro e w' ⟨rfl, hb⟩; obtain ⟨os1, n1, rfl⟩ := below_plus hb; clear hb)
  go_returns
  exact simOut_err (by repeat (first | exact Below.refl _ _ | refine bl_plus ?_ | refine bl_alloc ?_ _ | refine bl_drew ?_))

set_option maxHeartbeats 3200000 in
set_option maxRecDepth 100000 in
theorem simulateOf_len (A A2 : Option Addr) (c c2 : Nat) (xs : List St) (gs : List Int) (fr days bn ba : Int) (w : World) (hA : StsAt w A xs) (h : statesErr xs = 0) (hs : gs.length = 0 ∨ 20000 < gs.length) :
    Calls Try.prog 38 #[.slice A xs.length c, .slice A2 gs.length c2, .int .i64 fr, .int .i64 days, .agg #[.int .i64 bn, .int .i64 ba]] w (SimOut (simulate xs gs fr days bn ba) w) := by
  have hR : simulate xs gs fr days bn ba = (([], []), 4) := by
    have h4 := simErr_len (fr := fr) (days := days) (bn := bn) (ba := ba) hs
    unfold simulate; rw [if_pos h, h4]; rfl
  rw [hR]
  have hck := fun w h => statesFault_any A c xs w h
  rw [h] at hck
  have H1 := hide hck
  have HA := hide hA
  have hc : ((gs.length : Int) == 0) = true ∨ (((gs.length : Int) == 0) = false ∧ decide (20000 < (gs.length : Int)) = true) := by simp only [beq_iff_eq, beq_eq_false_iff_ne, decide_eq_true_eq, ne_eq]; omega
  clear hck h hA hR hs
  rcases hc with hc | ⟨hc, hc2⟩
  all_goals
    go_enter Try.func38, Try.ntmps38
    go_wp2_with (go_at_call 49; refine (H1.out _ (HA.out.alloc _)).mono ?_; rintro e w' ⟨rfl, hb⟩; obtain ⟨os1, n1, rfl⟩ := below_plus hb; clear hb)
    go_returns
    exact simOut_err (by repeat (first | exact Below.refl _ _ | refine bl_plus ?_ | refine bl_alloc ?_ _ | refine bl_drew ?_))

set_option maxHeartbeats 3200000 in
set_option maxRecDepth 100000 in
theorem simulateOf_kind (A A2 : Option Addr) (c c2 : Nat) (xs : List St) (gs : List Int) (fr days bn ba : Int) (w : World) (hA : StsAt w A xs) (hG : IntsAt w A2 gs) (h : statesErr xs = 0) (hs : ¬ (gs.length = 0 ∨ 20000 < gs.length)) (hk : gradesOk gs = false) :
    Calls Try.prog 38 #[.slice A xs.length c, .slice A2 gs.length c2, .int .i64 fr, .int .i64 days, .agg #[.int .i64 bn, .int .i64 ba]] w (SimOut (simulate xs gs fr days bn ba) w) := by
  have hR : simulate xs gs fr days bn ba = (([], []), 10) := by
    have h4 := simErr_kind (fr := fr) (days := days) (bn := bn) (ba := ba) hs hk
    unfold simulate; rw [if_pos h, h4]; rfl
  rw [hR]
  have hck := fun w h => statesFault_any A c xs w h
  rw [h] at hck
  have H1 := hide hck
  have HA := hide hA
  have HG := hide hG
  have hcs := fun w h => containsBad_any A2 c2 gs w h (by omega)
  rw [hk] at hcs
  have H2 := hide hcs
  have hb1 : ((gs.length : Int) == 0) = false := by simp only [beq_eq_false_iff_ne, ne_eq]; omega
  have hb2 : decide (20000 < (gs.length : Int)) = false := by simp only [decide_eq_false_iff_not]; omega
  clear hck h hA hR hs hk hG hcs
  go_enter Try.func38, Try.ntmps38
  go_wp2_with (first | (go_at_call 49; refine (H1.out _ (HA.out.alloc _)).mono ?_; rintro e w' ⟨rfl, hb⟩; obtain ⟨os1, n1, rfl⟩ := below_plus hb; clear hb) | (go_at_call 51; refine (H2.out _ ((HG.out.alloc _).plus _ _)).mono ?_; rintro e w' ⟨rfl, hb⟩; obtain ⟨os2, n2, rfl⟩ := below_plus hb; clear hb))
  go_returns
  exact simOut_err (by repeat (first | exact Below.refl _ _ | refine bl_plus ?_ | refine bl_alloc ?_ _ | refine bl_drew ?_))

set_option maxHeartbeats 3200000 in
set_option maxRecDepth 100000 in
theorem simulateOf_day (A A2 : Option Addr) (c c2 : Nat) (xs : List St) (gs : List Int) (fr days bn ba : Int) (w : World) (hA : StsAt w A xs) (hG : IntsAt w A2 gs) (h : statesErr xs = 0) (hs : ¬ (gs.length = 0 ∨ 20000 < gs.length)) (hk : gradesOk gs = true) (hf : fr < 0 ∨ 100000 < fr) :
    Calls Try.prog 38 #[.slice A xs.length c, .slice A2 gs.length c2, .int .i64 fr, .int .i64 days, .agg #[.int .i64 bn, .int .i64 ba]] w (SimOut (simulate xs gs fr days bn ba) w) := by
  have hR : simulate xs gs fr days bn ba = (([], []), 2) := by
    have h4 : simErr gs fr days bn ba = 2 := simErr_range hs hk (.inl hf)
    unfold simulate; rw [if_pos h, h4]; rfl
  rw [hR]
  have hck := fun w h => statesFault_any A c xs w h
  rw [h] at hck
  have H1 := hide hck
  have HA := hide hA
  have HG := hide hG
  have hcs := fun w h => containsBad_any A2 c2 gs w h (by omega)
  rw [hk] at hcs
  have H2 := hide hcs
  have hb1 : ((gs.length : Int) == 0) = false := by simp only [beq_eq_false_iff_ne, ne_eq]; omega
  have hb2 : decide (20000 < (gs.length : Int)) = false := by simp only [decide_eq_false_iff_not]; omega
  have HD := hide (fun w => isDay_no fr w hf)
  clear hck h hA hR hs hk hG hcs hf
  go_enter Try.func38, Try.ntmps38
  go_wp2_with (first | (go_at_call 49; refine (H1.out _ (HA.out.alloc _)).mono ?_; rintro e w' ⟨rfl, hb⟩; obtain ⟨os1, n1, rfl⟩ := below_plus hb; clear hb) | (go_at_call 51; refine (H2.out _ ((HG.out.alloc _).plus _ _)).mono ?_; rintro e w' ⟨rfl, hb⟩; obtain ⟨os2, n2, rfl⟩ := below_plus hb; clear hb) | (go_at_call 59; refine (HD.out _).mono ?_; rintro e w' ⟨rfl, rfl⟩))
  go_returns
  exact simOut_err (by repeat (first | exact Below.refl _ _ | refine bl_plus ?_ | refine bl_alloc ?_ _ | refine bl_drew ?_))

set_option maxHeartbeats 3200000 in
set_option maxRecDepth 100000 in
theorem simulateOf_neg (A A2 : Option Addr) (c c2 : Nat) (xs : List St) (gs : List Int) (fr days bn ba : Int) (w : World) (hA : StsAt w A xs) (hG : IntsAt w A2 gs) (h : statesErr xs = 0) (hs : ¬ (gs.length = 0 ∨ 20000 < gs.length)) (hk : gradesOk gs = true) (hf : 0 ≤ fr ∧ fr ≤ 100000) (hd : days < 0) :
    Calls Try.prog 38 #[.slice A xs.length c, .slice A2 gs.length c2, .int .i64 fr, .int .i64 days, .agg #[.int .i64 bn, .int .i64 ba]] w (SimOut (simulate xs gs fr days bn ba) w) := by
  have hR : simulate xs gs fr days bn ba = (([], []), 2) := by
    have h4 : simErr gs fr days bn ba = 2 := simErr_range hs hk (.inr (.inl (.inl hd)))
    unfold simulate; rw [if_pos h, h4]; rfl
  rw [hR]
  have hck := fun w h => statesFault_any A c xs w h
  rw [h] at hck
  have H1 := hide hck
  have HA := hide hA
  have HG := hide hG
  have hcs := fun w h => containsBad_any A2 c2 gs w h (by omega)
  rw [hk] at hcs
  have H2 := hide hcs
  have hb1 : ((gs.length : Int) == 0) = false := by simp only [beq_eq_false_iff_ne, ne_eq]; omega
  have hb2 : decide (20000 < (gs.length : Int)) = false := by simp only [decide_eq_false_iff_not]; omega
  have HD := hide (fun w => isDay_yes fr w hf.1 hf.2)
  have hb3 : decide (days < 0) = true := by simp only [decide_eq_true_eq]; omega
  clear hck h hA hR hs hk hG hcs hd
  go_enter Try.func38, Try.ntmps38
  go_wp2_with (first | (go_at_call 49; refine (H1.out _ (HA.out.alloc _)).mono ?_; rintro e w' ⟨rfl, hb⟩; obtain ⟨os1, n1, rfl⟩ := below_plus hb; clear hb) | (go_at_call 51; refine (H2.out _ ((HG.out.alloc _).plus _ _)).mono ?_; rintro e w' ⟨rfl, hb⟩; obtain ⟨os2, n2, rfl⟩ := below_plus hb; clear hb) | (go_at_call 59; refine (HD.out _).mono ?_; rintro e w' ⟨rfl, rfl⟩))
  go_returns
  exact simOut_err (by repeat (first | exact Below.refl _ _ | refine bl_plus ?_ | refine bl_alloc ?_ _ | refine bl_drew ?_))

set_option maxHeartbeats 3200000 in
set_option maxRecDepth 100000 in
theorem simulateOf_far (A A2 : Option Addr) (c c2 : Nat) (xs : List St) (gs : List Int) (fr days bn ba : Int) (w : World) (hA : StsAt w A xs) (hG : IntsAt w A2 gs) (h : statesErr xs = 0) (hs : ¬ (gs.length = 0 ∨ 20000 < gs.length)) (hk : gradesOk gs = true) (hf : 0 ≤ fr ∧ fr ≤ 100000) (hd : 1500 < days) :
    Calls Try.prog 38 #[.slice A xs.length c, .slice A2 gs.length c2, .int .i64 fr, .int .i64 days, .agg #[.int .i64 bn, .int .i64 ba]] w (SimOut (simulate xs gs fr days bn ba) w) := by
  have hR : simulate xs gs fr days bn ba = (([], []), 2) := by
    have h4 : simErr gs fr days bn ba = 2 := simErr_range hs hk (.inr (.inl (.inr hd)))
    unfold simulate; rw [if_pos h, h4]; rfl
  rw [hR]
  have hck := fun w h => statesFault_any A c xs w h
  rw [h] at hck
  have H1 := hide hck
  have HA := hide hA
  have HG := hide hG
  have hcs := fun w h => containsBad_any A2 c2 gs w h (by omega)
  rw [hk] at hcs
  have H2 := hide hcs
  have hb1 : ((gs.length : Int) == 0) = false := by simp only [beq_eq_false_iff_ne, ne_eq]; omega
  have hb2 : decide (20000 < (gs.length : Int)) = false := by simp only [decide_eq_false_iff_not]; omega
  have HD := hide (fun w => isDay_yes fr w hf.1 hf.2)
  have hb3 : decide (days < 0) = false := by simp only [decide_eq_false_iff_not]; omega
  have hb4 : decide (1500 < days) = true := by simp only [decide_eq_true_eq]; omega
  clear hck h hA hR hs hk hG hcs hd
  go_enter Try.func38, Try.ntmps38
  go_wp2_with (first | (go_at_call 49; refine (H1.out _ (HA.out.alloc _)).mono ?_; rintro e w' ⟨rfl, hb⟩; obtain ⟨os1, n1, rfl⟩ := below_plus hb; clear hb) | (go_at_call 51; refine (H2.out _ ((HG.out.alloc _).plus _ _)).mono ?_; rintro e w' ⟨rfl, hb⟩; obtain ⟨os2, n2, rfl⟩ := below_plus hb; clear hb) | (go_at_call 59; refine (HD.out _).mono ?_; rintro e w' ⟨rfl, rfl⟩))
  go_returns
  exact simOut_err (by repeat (first | exact Below.refl _ _ | refine bl_plus ?_ | refine bl_alloc ?_ _ | refine bl_drew ?_))

set_option maxHeartbeats 3200000 in
set_option maxRecDepth 100000 in
theorem simulateOf_sum (A A2 : Option Addr) (c c2 : Nat) (xs : List St) (gs : List Int) (fr days bn ba : Int) (w : World) (hA : StsAt w A xs) (hG : IntsAt w A2 gs) (h : statesErr xs = 0) (hs : ¬ (gs.length = 0 ∨ 20000 < gs.length)) (hk : gradesOk gs = true) (hf : 0 ≤ fr ∧ fr ≤ 100000) (hd : 0 ≤ days ∧ days ≤ 1500) (hd2 : 100000 < fr + days) :
    Calls Try.prog 38 #[.slice A xs.length c, .slice A2 gs.length c2, .int .i64 fr, .int .i64 days, .agg #[.int .i64 bn, .int .i64 ba]] w (SimOut (simulate xs gs fr days bn ba) w) := by
  have hR : simulate xs gs fr days bn ba = (([], []), 2) := by
    have h4 : simErr gs fr days bn ba = 2 := simErr_range hs hk (.inr (.inr hd2))
    unfold simulate; rw [if_pos h, h4]; rfl
  rw [hR]
  have hck := fun w h => statesFault_any A c xs w h
  rw [h] at hck
  have H1 := hide hck
  have HA := hide hA
  have HG := hide hG
  have hcs := fun w h => containsBad_any A2 c2 gs w h (by omega)
  rw [hk] at hcs
  have H2 := hide hcs
  have hb1 : ((gs.length : Int) == 0) = false := by simp only [beq_eq_false_iff_ne, ne_eq]; omega
  have hb2 : decide (20000 < (gs.length : Int)) = false := by simp only [decide_eq_false_iff_not]; omega
  have HD := hide (fun w => isDay_yes fr w hf.1 hf.2)
  have hb3 : decide (days < 0) = false := by simp only [decide_eq_false_iff_not]; omega
  have hb4 : decide (1500 < days) = false := by simp only [decide_eq_false_iff_not]; omega
  have hb5 : decide (100000 < fr + days) = true := by simp only [decide_eq_true_eq]; omega
  clear hck h hA hR hs hk hG hcs hd2
  go_enter Try.func38, Try.ntmps38
  go_wp2_with (first | (go_at_call 49; refine (H1.out _ (HA.out.alloc _)).mono ?_; rintro e w' ⟨rfl, hb⟩; obtain ⟨os1, n1, rfl⟩ := below_plus hb; clear hb) | (go_at_call 51; refine (H2.out _ ((HG.out.alloc _).plus _ _)).mono ?_; rintro e w' ⟨rfl, hb⟩; obtain ⟨os2, n2, rfl⟩ := below_plus hb; clear hb) | (go_at_call 59; refine (HD.out _).mono ?_; rintro e w' ⟨rfl, rfl⟩))
  go_returns
  exact simOut_err (by repeat (first | exact Below.refl _ _ | refine bl_plus ?_ | refine bl_alloc ?_ _ | refine bl_drew ?_))

set_option maxHeartbeats 3200000 in
set_option maxRecDepth 100000 in
theorem simulateOf_bnd (A A2 : Option Addr) (c c2 : Nat) (xs : List St) (gs : List Int) (fr days bn ba : Int) (w : World) (hA : StsAt w A xs) (hG : IntsAt w A2 gs) (h : statesErr xs = 0) (hs : ¬ (gs.length = 0 ∨ 20000 < gs.length)) (hk : gradesOk gs = true) (hf : 0 ≤ fr ∧ fr ≤ 100000) (hd : 0 ≤ days ∧ days ≤ 1500) (hd2 : ¬ 100000 < fr + days) (hd3 : ¬ bndOk bn ba) :
    Calls Try.prog 38 #[.slice A xs.length c, .slice A2 gs.length c2, .int .i64 fr, .int .i64 days, .agg #[.int .i64 bn, .int .i64 ba]] w (SimOut (simulate xs gs fr days bn ba) w) := by
  have hR : simulate xs gs fr days bn ba = (([], []), 2) := by
    have h4 : simErr gs fr days bn ba = 2 := (simErr_bound hs hk (by omega)).trans (if_neg hd3)
    unfold simulate; rw [if_pos h, h4]; rfl
  rw [hR]
  have hck := fun w h => statesFault_any A c xs w h
  rw [h] at hck
  have H1 := hide hck
  have HA := hide hA
  have HG := hide hG
  have hcs := fun w h => containsBad_any A2 c2 gs w h (by omega)
  rw [hk] at hcs
  have H2 := hide hcs
  have hb1 : ((gs.length : Int) == 0) = false := by simp only [beq_eq_false_iff_ne, ne_eq]; omega
  have hb2 : decide (20000 < (gs.length : Int)) = false := by simp only [decide_eq_false_iff_not]; omega
  have HD := hide (fun w => isDay_yes fr w hf.1 hf.2)
  have hb3 : decide (days < 0) = false := by simp only [decide_eq_false_iff_not]; omega
  have hb4 : decide (1500 < days) = false := by simp only [decide_eq_false_iff_not]; omega
  have hb5 : decide (100000 < fr + days) = false := by simp only [decide_eq_false_iff_not]; omega
  have hbf := fun w => boundsFault_any bn ba w
  rw [decide_eq_false hd3] at hbf
  have H3 := hide hbf
  clear hck h hA hR hs hk hG hcs hd2 hd3 hbf
  go_enter Try.func38, Try.ntmps38
  go_wp2_with (first | (go_at_call 49; refine (H1.out _ (HA.out.alloc _)).mono ?_; rintro e w' ⟨rfl, hb⟩; obtain ⟨os1, n1, rfl⟩ := below_plus hb; clear hb) | (go_at_call 51; refine (H2.out _ ((HG.out.alloc _).plus _ _)).mono ?_; rintro e w' ⟨rfl, hb⟩; obtain ⟨os2, n2, rfl⟩ := below_plus hb; clear hb) | (go_at_call 59; refine (HD.out _).mono ?_; rintro e w' ⟨rfl, rfl⟩) | (go_at_call 70; refine (H3.out _).mono ?_; rintro e w' ⟨rfl, hb⟩; obtain ⟨os5, n5, rfl⟩ := below_plus hb; clear hb))
  go_returns
  exact simOut_err (by repeat (first | exact Below.refl _ _ | refine bl_plus ?_ | refine bl_alloc ?_ _ | refine bl_drew ?_))

set_option maxHeartbeats 6400000 in
set_option maxRecDepth 100000 in
theorem simulateOf_none (A A2 : Option Addr) (c c2 : Nat) (gs : List Int) (fr : Int) (N : Nat) (bn ba : Int) (w : World) (hnil : A = none → c = 0) (hG : IntsAt w A2 gs) (hse : simErr gs fr N bn ba = 0)
    (h0 : 0 < gs.length) (hgl : gs.length ≤ 20000) (hgk : gradesOk gs = true) (hfr : 0 ≤ fr ∧ fr ≤ 100000) (hN : N ≤ 1500) (hfN : fr + N ≤ 100000) (hbd : bndOk bn ba) :
    Calls Try.prog 38 #[.slice A 0 c, .slice A2 gs.length c2, .int .i64 fr, .int .i64 N, .agg #[.int .i64 bn, .int .i64 ba]] w (SimOut (simulate [] gs fr N bn ba) w) := by
  have h : statesErr [] = 0 := rfl
  obtain ⟨iI, hiI, hzI0, hzI1, hzI2⟩ := info_parts info_int
  have HII := hide (And.intro hiI (And.intro hzI0 (And.intro hzI1 hzI2)))
  clear hiI hzI0 hzI1 hzI2
  have hR := simulate_eq h hse
  rw [hR, simDays_nil]
  have hck := hide (fun w => statesFault_any A c [] w StsAt.nil)
  have hcs := fun w h => containsBad_any A2 c2 gs w h hgl
  rw [hgk] at hcs
  have hbf := fun w => boundsFault_any bn ba w
  rw [decide_eq_true hbd] at hbf
  have HD := hide (fun w => isDay_yes fr w hfr.1 hfr.2)
  have hcl := hide (fun w => cloneSts_any A c [] w StsAt.nil (fun h => ⟨rfl, hnil h⟩) (by simp))
  have htd := hide (fun d (A : Option Addr) c w => rtoday_ok A none c 0 [] [] d bn ba w StsAt.nil (fun h => absurd h (by simp)) h (by simp) hbd.1 hbd.2)
  simp only [today_nil, List.length_nil] at htd
  simp only [h, List.length_nil] at hck hcl
  have hb1 : ((gs.length : Int) == 0) = false := by simp only [beq_eq_false_iff_ne, ne_eq]; omega
  have hb2 : decide (20000 < (gs.length : Int)) = false := by simp only [decide_eq_false_iff_not]; omega
  have hb3 : decide ((N : Int) < 0) = false := by simp only [decide_eq_false_iff_not]; omega
  have hb4 : decide (1500 < (N : Int)) = false := by simp only [decide_eq_false_iff_not]; omega
  have hb5 : decide (100000 < fr + (N : Int)) = false := by simp only [decide_eq_false_iff_not]; omega
  have H2 := hide hcs
  have H3 := hide hbf
  have HG := hide hG
  clear hcs hG hR hse hbd hnil hbf hgk h0
  go_enter Try.func38, Try.ntmps38
  go_upto_region 10 with (first | (go_at_call 49; refine (hck.out _).mono ?_; rintro e w' ⟨rfl, hb⟩; obtain ⟨os1, n1, rfl⟩ := below_plus hb; clear hb) | (go_at_call 51; refine (H2.out _ ((HG.out.alloc _).plus _ _)).mono ?_; rintro e w' ⟨rfl, hb⟩; obtain ⟨os2, n2, rfl⟩ := below_plus hb; clear hb) | (go_at_call 59; refine (HD.out _).mono ?_; rintro e w' ⟨rfl, rfl⟩) | (go_at_call 70; refine (H3.out _).mono ?_; rintro e w' ⟨rfl, hb⟩; obtain ⟨os5, n5, rfl⟩ := below_plus hb; clear hb))
  have hv0 : (plus (plus (plus (w.alloc (.cells #[.int .i64 bn, .int .i64 ba] 43)) os1 n1) os2 n2) os5 n5).cell? ⟨w.heap.size, 0, none⟩ = some (.int .i64 bn) ∧ (plus (plus (plus (w.alloc (.cells #[.int .i64 bn, .int .i64 ba] 43)) os1 n1) os2 n2) os5 n5).cell? ⟨w.heap.size, 1, none⟩ = some (.int .i64 ba) := by
    rw [plus_cell (by simp only [plus_size, World.size_alloc]; omega), plus_cell (by simp only [plus_size, World.size_alloc]; omega), plus_cell (by rw [World.size_alloc]; omega), plus_cell (by simp only [plus_size, World.size_alloc]; omega), plus_cell (by simp only [plus_size, World.size_alloc]; omega), plus_cell (by rw [World.size_alloc]; omega)]
    simp
  have hVb : Below w.heap.size w (plus (plus (plus (w.alloc (.cells #[.int .i64 bn, .int .i64 ba] 43)) os1 n1) os2 n2) os5 n5) := by repeat (first | exact Below.refl _ _ | refine bl_plus ?_ | refine bl_alloc ?_ _ | refine bl_drew ?_)
  have hvlt : w.heap.size < (plus (plus (plus (w.alloc (.cells #[.int .i64 bn, .int .i64 ba] 43)) os1 n1) os2 n2) os5 n5).heap.size := by simp only [plus_size, World.size_alloc]; omega
  generalize (plus (plus (plus (w.alloc (.cells #[.int .i64 bn, .int .i64 ba] 43)) os1 n1) os2 n2) os5 n5) = V at hv0 hVb hvlt ⊢
  obtain ⟨hv0, hv1⟩ := hv0
  have HV := hide hVb
  clear hVb
  go_wp2_with (go_at_call 62; refine (hcl.out _).mono ?_; rintro e w' ⟨v, rfl, hown, hb⟩; obtain ⟨B, cb, rfl, _, _, hcb⟩ := own_form hown; obtain ⟨os3, n3, rfl⟩ := below_plus hb; clear hb hown)
  go_loopw [15, 16, 17] (fun v1 v2 dv wr => ∃ (k : Nat) (os : Array Obj) (n : Nat), k ≤ N ∧ dv = .int .i64 (fr + (k : Int)) ∧ v2 = .slice none 0 0 ∧
      OwnK 1 3 wr V.heap.size v1 k ((List.replicate k (0 : Int)).map (Value.int .i64)) ∧ wr = plus V os n)
    (fun _ _ dv _ => (fr + N - intOf dv).toNat)
  case atStart => exact ⟨0, _, _, Nat.zero_le _, by simp, rfl, OwnK.empty, rfl⟩
  case round =>
    obtain ⟨k, os, n, hk, rfl, rfl, ho1, rfl⟩ := hrel
    by_cases hlt : k < N
    · obtain ⟨Ac, cc, rfl, _⟩ := ho1.form
      have hltz : fr + (k : Int) < fr + (N : Int) := by omega
      have O1 := hide ho1
      clear ho1
      go_wp2_with (go_at_call 71; refine (htd.out _ _ _ _).mono ?_; rintro e w' ⟨v, rfl, hh, hb⟩; obtain ⟨os6, n6, rfl⟩ := below_plus hb; obtain ⟨A5, c5, rfl, _⟩ := hh.form; clear hb hh; rw [plus_plus])
      have O2 := hide (O1.out.plus os6 n6)
      rw [plus_plus] at O2
      clear O1
      refine wp_loop_rounds 1 ?_
      rw [rounds_succ]
      go_wp2_with (at_builtin; go_loud (refine wpList_append_k rfl (.tmp 120) (.tmp 123) rfl rfl Try.underlying31 HII.out.1 HII.out.2.1 HII.out.2.2.1 (by decide) rfl (by have := HII.out.2.2.2; omega) V.heap.size k _ ((List.replicate k (0 : Int)).map (Value.int .i64)) [.int .i64 0] _ rfl (O2.out.alloc _) rfl (by intro u hu; simp at hu; subst hu; rfl) rfl (new_cells1 (by simp only [plus_size, Array.size_append]; try omega)) (by omega) (by simp only [World.size_alloc, plus_size]; omega) ?_; intro v' w1 hown1 hgr1 hfr1; obtain ⟨os9, n9, rfl⟩ := below_plus (bl_grown (by repeat (first | exact Below.refl _ _ | refine bl_plus ?_ | refine bl_alloc ?_ _ | refine bl_drew ?_)) hgr1 (fun k hk => (O2.out.lt k hk).1)); have HN := hide hown1; clear hown1 hgr1 hfr1))
      go_roundw
      case rel => exact ⟨k + 1, _, _, hlt, by go_num, rfl, by have := HN.out; rw [List.replicate_succ', List.map_append]; exact this, rfl⟩
      case measure => simp [intOf]; omega
    · have hkN : k = N := by omega
      subst hkN
      obtain ⟨Ac, cc, rfl, hcc⟩ := ho1.form
      obtain ⟨_, hcl2, hci⟩ := ho1.ints
      have hz0 := ho1.none_cap
      have HC := hide hci
      clear ho1 hci hcl2
      go_wp2
      go_returns
      exact simOut_mk rfl rfl (by simp) StsAt.nil HC.out ⟨hcb, hz0⟩ (by repeat (first | exact HV.out | exact Below.refl _ _ | refine bl_plus ?_ | refine bl_alloc ?_ _ | refine bl_drew ?_))

theorem simulateOf_any (A A2 : Option Addr) (c c2 : Nat) (xs : List St) (gs : List Int) (fr days bn ba : Int) (w : World) (hA : StsAt w A xs) (hnil : A = none → xs = [] ∧ c = 0) (hG : IntsAt w A2 gs) :
    Calls Try.prog 38 #[.slice A xs.length c, .slice A2 gs.length c2, .int .i64 fr, .int .i64 days, .agg #[.int .i64 bn, .int .i64 ba]] w (SimOut (simulate xs gs fr days bn ba) w) := by
  by_cases h : statesErr xs = 0
  · by_cases h1 : gs.length = 0 ∨ 20000 < gs.length
    · exact simulateOf_len A A2 c c2 xs gs fr days bn ba w hA h h1
    · cases h2 : gradesOk gs with
      | false => exact simulateOf_kind A A2 c c2 xs gs fr days bn ba w hA hG h h1 h2
      | true =>
        by_cases h3 : fr < 0 ∨ 100000 < fr
        · exact simulateOf_day A A2 c c2 xs gs fr days bn ba w hA hG h h1 h2 h3
        · by_cases h4 : days < 0
          · exact simulateOf_neg A A2 c c2 xs gs fr days bn ba w hA hG h h1 h2 (by omega) h4
          · by_cases h5 : 1500 < days
            · exact simulateOf_far A A2 c c2 xs gs fr days bn ba w hA hG h h1 h2 (by omega) h5
            · by_cases h6 : 100000 < fr + days
              · exact simulateOf_sum A A2 c c2 xs gs fr days bn ba w hA hG h h1 h2 (by omega) (by omega) h6
              · by_cases h7 : bndOk bn ba
                · have hs : simErr gs fr days bn ba = 0 := (simErr_bound h1 h2 (by omega)).trans (if_pos h7)
                  obtain ⟨N, rfl⟩ := Int.eq_ofNat_of_zero_le (a := days) (by omega)
                  by_cases hx : 0 < xs.length
                  · exact simulateOf_ok A A2 c c2 xs gs fr N bn ba w hA hnil hG h hs hx (by omega) (by omega) h2 (by omega) (by omega) (by omega) h7
                  · have hx2 : xs = [] := List.length_eq_zero_iff.1 (by omega)
                    subst hx2
                    exact simulateOf_none A A2 c c2 gs fr N bn ba w (fun h => (hnil h).2) hG hs (by omega) (by omega) h2 (by omega) (by omega) (by omega) h7
                · exact simulateOf_bnd A A2 c c2 xs gs fr days bn ba w hA hG h h1 h2 (by omega) (by omega) h6 h7
  · exact simulateOf_bad A A2 c c2 xs gs fr days bn ba w hA h

end Go.Proofs.Ytokghdcfbbogdaa
