/-
  WALKS: the program's Between; the reference's error of a rule and a day; a candidate.
-/
import Derived.Test.YtpbkidjbbhkjnaaRbk
import Derived.Test.YtpbkidjbbhkjnaaCnI
namespace Go.Proofs.Ytpbkidjbbhkjnaa
open Go.RowKit Cal

set_option maxHeartbeats 3200000 in
set_option maxRecDepth 100000 in
theorem betweenP_any (r : Rul) (v : Value) (f t : Int) (w : World) (hr : RulAt w r v) (hf : -9223372036854775808 ≤ f ∧ f ≤ 9223372036854775807) (ht : -9223372036854775808 ≤ t ∧ t ≤ 9223372036854775807) :
    Calls Try.prog 11 #[v, .int .i64 f, .int .i64 t] w (BtwOut r f t w) := by
  have HR := hide hr
  obtain ⟨A, B, C, a, b, c, rfl, h1, h2, h3, h4, h5, h6⟩ := hr.ex
  unfold maxLen at h4 h5 h6
  have HCK := hide (fun w' hb => checkRule_any r _ w' (HR.out.below hb))
  have HCF := hide (fun w => checkFromTo_any f t w hf ht)
  have HPO : Hid (∀ A c w', IntsAt w' A (btwR r f t).1 → Below w.heap.size w w' → BtwOut r f t w (.returned (.tuple #[.slice A (btwR r f t).1.length c, .int .i64 (btwR r f t).2])) w') := hide (fun A c w' hi hb => ⟨hb, A, c, rfl, hi⟩)
  generalize BtwOut r f t w = PO at *
  unfold btwR at HPO
  clear h1 h2 h3 hr
  by_cases hE : r.err = 0
  · rw [if_pos hE] at HPO
    have hok := Rul.ok hE
    have HBT := hide (fun w' hb => between_any r hok _ f t w' (HR.out.below hb))
    rw [hE] at HCK
    clear hE hok
    by_cases hS : spanErr f t = 0
    · rw [if_pos hS] at HPO
      rw [hS] at HCF
      clear hS
      dsimp only at HPO
      generalize inFT f t r.occ = xs at *
      go_enter Try.func11, Try.ntmps11
      go_wp2_with (first | (go_at_call 28; (with_reducible refine (HCK.out _ (by repeat (first | exact Below.refl _ _ | refine bl_plus ?_ | refine bl_alloc ?_ _ | refine bl_drew ?_ | refine bl_drewN ?_ _))).mono ?_); rintro e w' ⟨rfl, hbl⟩; obtain ⟨os1, n1, rfl⟩ := below_plus hbl; clear hbl) | (go_at_call 29; (with_reducible refine (HCF.out _).mono ?_); rintro e w' ⟨rfl, hbl⟩; obtain ⟨os2, n2, rfl⟩ := below_plus hbl; clear hbl) | (go_at_call 30; (with_reducible refine (HBT.out _ (by repeat (first | exact Below.refl _ _ | refine bl_plus ?_ | refine bl_alloc ?_ _ | refine bl_drew ?_ | refine bl_drewN ?_ _))).mono ?_); rintro e w' ⟨⟨A3, rfl, hin⟩, hbl⟩; have HIN := hide hin; have HBL := hide hbl; clear hbl hin))
      exact HPO.out _ _ _ HIN.out (Below.trans (by repeat (first | exact Below.refl _ _ | refine bl_plus ?_ | refine bl_alloc ?_ _ | refine bl_drew ?_ | refine bl_drewN ?_ _)) (HBL.out.mono (by simp only [plus_size, World.size_alloc]; omega)))
    · rw [if_neg hS] at HPO
      dsimp only at HPO
      generalize spanErr f t = X at *
      have hX : (X == 0) = false := by simp [hS]
      have hX2 : (X != 0) = true := by rw [bne, hX]; rfl
      clear hS
      go_enter Try.func11, Try.ntmps11
      go_wp2_with (first | (go_at_call 28; (with_reducible refine (HCK.out _ (by repeat (first | exact Below.refl _ _ | refine bl_plus ?_ | refine bl_alloc ?_ _ | refine bl_drew ?_ | refine bl_drewN ?_ _))).mono ?_); rintro e w' ⟨rfl, hbl⟩; obtain ⟨os1, n1, rfl⟩ := below_plus hbl; clear hbl) | (go_at_call 29; (with_reducible refine (HCF.out _).mono ?_); rintro e w' ⟨rfl, hbl⟩; obtain ⟨os2, n2, rfl⟩ := below_plus hbl; clear hbl))
      exact HPO.out none 0 _ IntsAt.nil (by repeat (first | exact Below.refl _ _ | refine bl_plus ?_ | refine bl_alloc ?_ _ | refine bl_drew ?_ | refine bl_drewN ?_ _))
  · rw [if_neg hE] at HPO
    dsimp only at HPO
    generalize r.err = X at *
    have hX : (X == 0) = false := by simp [hE]
    have hX2 : (X != 0) = true := by rw [bne, hX]; rfl
    clear hE
    go_enter Try.func11, Try.ntmps11
    go_wp2_with (first | (go_at_call 28; (with_reducible refine (HCK.out _ (by repeat (first | exact Below.refl _ _ | refine bl_plus ?_ | refine bl_alloc ?_ _ | refine bl_drew ?_ | refine bl_drewN ?_ _))).mono ?_); rintro e w' ⟨rfl, hbl⟩; obtain ⟨os1, n1, rfl⟩ := below_plus hbl; clear hbl))
    exact HPO.out none 0 _ IntsAt.nil (by repeat (first | exact Below.refl _ _ | refine bl_plus ?_ | refine bl_alloc ?_ _ | refine bl_drew ?_ | refine bl_drewN ?_ _))

set_option maxHeartbeats 1600000 in
set_option maxRecDepth 100000 in
theorem ruleDay_any (r : Rul) (v : Value) (d : Int) (w : World) (hr : RulAt w r v) :
    Calls Try.prog 39 #[v, .int .i64 d] w fun e w' => e = .returned (.int .i64 (atErr r d)) ∧ Below w.heap.size w w' := by
  have HR := hide hr
  obtain ⟨A, B, C, a, b, c, rfl, h1, h2, h3, h4, h5, h6⟩ := hr.ex
  unfold maxLen at h4 h5 h6
  have HC := hide (fun w' hb => ruleFault_any r _ w' (HR.out.below hb))
  unfold atErr
  clear h1 h2 h3 hr
  by_cases hE : r.err = 0
  · rw [if_pos hE]
    rw [hE] at HC
    clear hE
    unfold dayErr
    by_cases hd : d < 0 ∨ 100000 < d
    · rw [if_pos hd]
      have HD := hide (fun w => isDay_no d w hd)
      clear hd
      go_enter Try.func39, Try.ntmps39
      go_wp2_with (first | (go_at_call 31; (with_reducible refine (HC.out _ (by repeat (first | exact Below.refl _ _ | refine bl_plus ?_ | refine bl_alloc ?_ _ | refine bl_drew ?_ | refine bl_drewN ?_ _))).mono ?_); rintro e w' ⟨rfl, hbl⟩; obtain ⟨os1, n1, rfl⟩ := below_plus hbl; clear hbl) | (go_at_call 56; (with_reducible refine (HD.out _).mono ?_); rintro e w' ⟨rfl, rfl⟩))
      go_ret
      exact ⟨rfl, (by repeat (first | exact Below.refl _ _ | refine bl_plus ?_ | refine bl_alloc ?_ _ | refine bl_drew ?_ | refine bl_drewN ?_ _))⟩
    · rw [if_neg hd]
      have HD := hide (fun w => isDay_yes d w (by omega) (by omega))
      clear hd
      go_enter Try.func39, Try.ntmps39
      go_wp2_with (first | (go_at_call 31; (with_reducible refine (HC.out _ (by repeat (first | exact Below.refl _ _ | refine bl_plus ?_ | refine bl_alloc ?_ _ | refine bl_drew ?_ | refine bl_drewN ?_ _))).mono ?_); rintro e w' ⟨rfl, hbl⟩; obtain ⟨os1, n1, rfl⟩ := below_plus hbl; clear hbl) | (go_at_call 56; (with_reducible refine (HD.out _).mono ?_); rintro e w' ⟨rfl, rfl⟩))
      go_ret
      exact ⟨rfl, (by repeat (first | exact Below.refl _ _ | refine bl_plus ?_ | refine bl_alloc ?_ _ | refine bl_drew ?_ | refine bl_drewN ?_ _))⟩
  · rw [if_neg hE]
    generalize r.err = X at *
    have hX : (X == 0) = false := by simp [hE]
    have hX2 : (X != 0) = true := by rw [bne, hX]; rfl
    clear hE
    go_enter Try.func39, Try.ntmps39
    go_wp2_with (first | (go_at_call 31; (with_reducible refine (HC.out _ (by repeat (first | exact Below.refl _ _ | refine bl_plus ?_ | refine bl_alloc ?_ _ | refine bl_drew ?_ | refine bl_drewN ?_ _))).mono ?_); rintro e w' ⟨rfl, hbl⟩; obtain ⟨os1, n1, rfl⟩ := below_plus hbl; clear hbl))
    go_ret
    exact ⟨rfl, (by repeat (first | exact Below.refl _ _ | refine bl_plus ?_ | refine bl_alloc ?_ _ | refine bl_drew ?_ | refine bl_drewN ?_ _))⟩

/-! ### A candidate -/
theorem next_first {y m : Int} (h1 : 1 ≤ m) (h2 : m ≤ 12) : dateOfR y (m + 1) 1 - dateOfR y m 1 = mlen y m := by
  rw [dateOfR_in h1 h2]
  have hs := cum_succ (y := y) h1 h2
  rcases Int.lt_or_le m 12 with h | h
  · rw [dateOfR_in (by omega) (by omega)]
    unfold num
    omega
  · have hm : m = 12 := by omega
    subst hm
    have e : (12 : Int) + 1 = 13 := rfl
    rw [e] at hs ⊢
    rw [dateOfR_13]
    unfold num
    rw [cum_1, yd_succ]
    rw [cum_13] at hs
    omega
theorem mon_ge {f d : Int} (h : f ≤ d) : (parts f).y ≤ (parts d).y ∧ 0 ≤ 12 * ((parts d).y - (parts f).y) + (parts d).m - (parts f).m := by
  have h1 := (monOf_in f).1
  have h2 := monOf_ge (M := monOf f) (x := d) (by omega)
  have h3 := (year_in f).1
  have h4 := year_eq (y := (parts f).y) (x := d) (by omega)
  unfold monOf at h2
  omega

set_option maxHeartbeats 1600000 in
set_option maxRecDepth 100000 in
theorem candidate_out (r : Rul) (_ : r.Ok) (v : Value) (d : Int) (w : World) (hr : RulAt w r v) (hc : d < r.f ∨ (r.f ≤ d ∧ 0 ≤ r.t ∧ r.t < d)) :
    Calls Try.prog 59 #[v, .int .i64 d] w fun e w' => e = .returned (.bool false) ∧ Below w.heap.size w w' := by
  obtain ⟨A, B, C, a, b, c, rfl, h1, h2, h3, h4, h5, h6⟩ := hr.ex
  unfold maxLen at h4 h5 h6
  clear h1 h2 h3 hr
  rcases hc with hc | ⟨hc1, hc2, hc3⟩
  all_goals (
    go_enter Try.func59, Try.ntmps59
    go_wp2
    go_ret
    exact ⟨rfl, (by repeat (first | exact Below.refl _ _ | refine bl_plus ?_ | refine bl_alloc ?_ _ | refine bl_drew ?_ | refine bl_drewN ?_ _))⟩)

set_option maxHeartbeats 6400000 in
set_option maxRecDepth 100000 in
theorem candidate_in (r : Rul) (h : r.Ok) (v : Value) (d : Int) (w : World) (hr : RulAt w r v) (d1 : d ≤ 100000) (hf : r.f ≤ d) (ht : 0 ≤ r.t → d ≤ r.t) :
    Calls Try.prog 59 #[v, .int .i64 d] w fun e w' => e = .returned (.bool (r.pick d)) ∧ Below w.heap.size w w' := by
  obtain ⟨A, B, C, a, b, c, rfl, h1, h2, h3, h4, h5, h6⟩ := hr.ex
  unfold maxLen at h4 h5 h6
  have hff := h.f
  obtain ⟨f0, f1⟩ := hff
  have HP1 := hide (fun w => parts_any d w (by omega) (by omega))
  have HP2 := hide (fun w => parts_any r.f w (by omega) (by omega))
  obtain ⟨g1, g2⟩ := mon_ge hf
  have hyd := year_bd (d := d) (by omega) (by omega)
  have hyf := year_bd (d := r.f) (by omega) (by omega)
  obtain ⟨⟨p1, p2, p3, p4⟩, _⟩ := parts_ok d
  obtain ⟨⟨q1, q2, q3, q4⟩, _⟩ := parts_ok r.f
  have hlen := mlen_bd (parts d).y (parts d).m
  have hnf := next_first (y := (parts d).y) p1 p2
  have HD1 := hide (fun w => dateOf_any (parts d).y ((parts d).m + 1) 1 w (by omega) (by omega) (by omega) (by omega) (by omega) (by omega))
  have HD2 := hide (fun w => dateOf_any (parts d).y (parts d).m 1 w (by omega) (by omega) (by omega) (by omega) (by omega) (by omega))
  have hee := h.e
  obtain ⟨e0, e1⟩ := hee
  have heb : (r.e == 0) = false := by simp; omega
  have hlw : r.wd.length ≤ 1000000 := by
    have hx := rise_mem h.wd
    have := pairwise_len (lo := 0) (N := 7) (rise_pairwise h.wd) (fun x hm => by have := hx x hm; omega)
    omega
  have hld : r.da.length ≤ 1000000 := by
    have hx := rise_mem h.da
    have := pairwise_len (lo := -31) (N := 63) (rise_pairwise h.da) (fun x hm => by have := hx x hm; omega)
    omega
  have HCW := hide (fun w' hb => containsI_any A a r.wd (d % 7) w' (h1.below hb) hlw)
  have HCD1 := hide (fun w' hb => containsI_any B b r.da (parts d).d w' (h2.below hb) hld)
  have HCD2 := hide (fun w' hb => containsI_any B b r.da ((parts d).d - mlen (parts d).y (parts d).m - 1) w' (h2.below hb) hld)
  have hnn := h.n
  obtain ⟨n0, n1⟩ := hnn
  have htb := h.t
  obtain ⟨t0, t1⟩ := htb
  have hu := h.u
  have hpk : r.pick d = r.pick d := rfl
  clear hpk h1 h2 h3 hr h
  unfold Rul.pick Rul.mon Rul.kth
  generalize dateOfR (parts d).y ((parts d).m + 1) 1 = G1 at *
  generalize dateOfR (parts d).y (parts d).m 1 = G2 at *
  generalize mlen (parts d).y (parts d).m = L at *
  generalize parts d = P at *
  generalize parts r.f = Q at *
  obtain ⟨l0, l1⟩ := hlen
  obtain ⟨y0, y1⟩ := hyd
  obtain ⟨z0, z1⟩ := hyf
  have HT : (0 ≤ r.t ∧ d ≤ r.t) ∨ r.t < 0 := by omega
  clear ht
  have hu4 : r.u = 1 ∨ r.u = 2 ∨ r.u = 4 ∨ r.u = 3 := by omega
  clear hu
  generalize r.u = u at *
  rcases hu4 with rfl | rfl | rfl | rfl
  · rw [if_pos rfl]
    have hm0 : 0 ≤ (d - r.f) % r.e := Int.emod_nonneg _ (by omega)
    have hm1 : (d - r.f) % r.e < r.e := Int.emod_lt_of_pos _ (by omega)
    by_cases hx : (d - r.f) % r.e = 0
    · rw [decide_eq_true hx]
      rcases HT with ⟨t2, t3⟩ | t2
      all_goals (
        go_enter Try.func59, Try.ntmps59
        go_wp2_with (first | (go_at_call 81; first | ((with_reducible refine (HP1.out _).mono ?_); rintro e w' ⟨rfl, rfl⟩) | ((with_reducible refine (HP2.out _).mono ?_); rintro e w' ⟨rfl, rfl⟩)))
        go_ret
        exact ⟨ret_bool (by first | rfl | simp [*] | (simp; omega)), (by repeat (first | exact Below.refl _ _ | refine bl_plus ?_ | refine bl_alloc ?_ _ | refine bl_drew ?_ | refine bl_drewN ?_ _))⟩)
    · rw [decide_eq_false hx]
      have hx2 : ((d - r.f) % r.e == 0) = false := by simpa using hx
      clear hx
      rcases HT with ⟨t2, t3⟩ | t2
      all_goals (
        go_enter Try.func59, Try.ntmps59
        go_wp2_with (first | (go_at_call 81; first | ((with_reducible refine (HP1.out _).mono ?_); rintro e w' ⟨rfl, rfl⟩) | ((with_reducible refine (HP2.out _).mono ?_); rintro e w' ⟨rfl, rfl⟩)))
        go_ret
        exact ⟨ret_bool (by first | rfl | simp [*] | (simp; omega)), (by repeat (first | exact Below.refl _ _ | refine bl_plus ?_ | refine bl_alloc ?_ _ | refine bl_drew ?_ | refine bl_drewN ?_ _))⟩)
  · rw [if_neg (by decide), if_pos rfl]
    have hq0 : 0 ≤ d / 7 - r.f / 7 := by omega
    have hm0 : 0 ≤ (d / 7 - r.f / 7) % r.e := Int.emod_nonneg _ (by omega)
    have hm1 : (d / 7 - r.f / 7) % r.e < r.e := Int.emod_lt_of_pos _ (by omega)
    by_cases hx : (d / 7 - r.f / 7) % r.e = 0
    · rw [decide_eq_true hx, Bool.true_and]
      by_cases hw : r.wd = []
      · have hl : r.wd.length = 0 := by rw [hw]; rfl
        rw [if_pos hw]
        clear hw
        by_cases hq : d % 7 = r.f % 7
        · rw [decide_eq_true hq]
          rcases HT with ⟨t2, t3⟩ | t2
          all_goals (
            go_enter Try.func59, Try.ntmps59
            go_wp2_with (first | (go_at_call 81; first | ((with_reducible refine (HP1.out _).mono ?_); rintro e w' ⟨rfl, rfl⟩) | ((with_reducible refine (HP2.out _).mono ?_); rintro e w' ⟨rfl, rfl⟩)))
            go_ret
            exact ⟨ret_bool (by first | rfl | simp [*] | (simp; omega)), (by repeat (first | exact Below.refl _ _ | refine bl_plus ?_ | refine bl_alloc ?_ _ | refine bl_drew ?_ | refine bl_drewN ?_ _))⟩)

        · rw [decide_eq_false hq]
          have hq2 : (d % 7 == r.f % 7) = false := by simpa using hq
          clear hq
          rcases HT with ⟨t2, t3⟩ | t2
          all_goals (
            go_enter Try.func59, Try.ntmps59
            go_wp2_with (first | (go_at_call 81; first | ((with_reducible refine (HP1.out _).mono ?_); rintro e w' ⟨rfl, rfl⟩) | ((with_reducible refine (HP2.out _).mono ?_); rintro e w' ⟨rfl, rfl⟩)))
            go_ret
            exact ⟨ret_bool (by first | rfl | simp [*] | (simp; omega)), (by repeat (first | exact Below.refl _ _ | refine bl_plus ?_ | refine bl_alloc ?_ _ | refine bl_drew ?_ | refine bl_drewN ?_ _))⟩)

      · have hl : 0 < r.wd.length := List.length_pos_iff.2 hw
        have hl2 : ((r.wd.length : Int) == 0) = false := by simp; omega
        rw [if_neg hw]
        clear hw
        by_cases hq : d % 7 ∈ r.wd
        · rw [decide_eq_true hq] at HCW
          rw [List.contains_iff_mem.2 hq]
          clear hq
          rcases HT with ⟨t2, t3⟩ | t2
          all_goals (
            go_enter Try.func59, Try.ntmps59
            go_wp2_with (first | (go_at_call 81; first | ((with_reducible refine (HP1.out _).mono ?_); rintro e w' ⟨rfl, rfl⟩) | ((with_reducible refine (HP2.out _).mono ?_); rintro e w' ⟨rfl, rfl⟩)) | (go_at_call 40; (with_reducible refine (HCW.out _ (by repeat (first | exact Below.refl _ _ | refine bl_plus ?_ | refine bl_alloc ?_ _ | refine bl_drew ?_ | refine bl_drewN ?_ _))).mono ?_); rintro e w' ⟨rfl, rfl⟩))
            go_ret
            exact ⟨ret_bool (by first | rfl | simp [*] | (simp; omega)), (by repeat (first | exact Below.refl _ _ | refine bl_plus ?_ | refine bl_alloc ?_ _ | refine bl_drew ?_ | refine bl_drewN ?_ _))⟩)

        · rw [decide_eq_false hq] at HCW
          rw [show r.wd.contains (d % 7) = false by simpa using hq]
          clear hq
          rcases HT with ⟨t2, t3⟩ | t2
          all_goals (
            go_enter Try.func59, Try.ntmps59
            go_wp2_with (first | (go_at_call 81; first | ((with_reducible refine (HP1.out _).mono ?_); rintro e w' ⟨rfl, rfl⟩) | ((with_reducible refine (HP2.out _).mono ?_); rintro e w' ⟨rfl, rfl⟩)) | (go_at_call 40; (with_reducible refine (HCW.out _ (by repeat (first | exact Below.refl _ _ | refine bl_plus ?_ | refine bl_alloc ?_ _ | refine bl_drew ?_ | refine bl_drewN ?_ _))).mono ?_); rintro e w' ⟨rfl, rfl⟩))
            go_ret
            exact ⟨ret_bool (by first | rfl | simp [*] | (simp; omega)), (by repeat (first | exact Below.refl _ _ | refine bl_plus ?_ | refine bl_alloc ?_ _ | refine bl_drew ?_ | refine bl_drewN ?_ _))⟩)

    · rw [decide_eq_false hx, Bool.false_and]
      have hx2 : ((d / 7 - r.f / 7) % r.e != 0) = true := by simpa using hx
      clear hx
      rcases HT with ⟨t2, t3⟩ | t2
      all_goals (
        go_enter Try.func59, Try.ntmps59
        go_wp2_with (first | (go_at_call 81; first | ((with_reducible refine (HP1.out _).mono ?_); rintro e w' ⟨rfl, rfl⟩) | ((with_reducible refine (HP2.out _).mono ?_); rintro e w' ⟨rfl, rfl⟩)))
        go_ret
        exact ⟨ret_bool (by first | rfl | simp [*] | (simp; omega)), (by repeat (first | exact Below.refl _ _ | refine bl_plus ?_ | refine bl_alloc ?_ _ | refine bl_drew ?_ | refine bl_drewN ?_ _))⟩)

  · rw [if_neg (by decide), if_neg (by decide), if_neg (by decide), decide_eq_true d1, Bool.and_true]
    have hq0 : 0 ≤ P.y - Q.y := by omega
    have hm0 : 0 ≤ (P.y - Q.y) % r.e := Int.emod_nonneg _ (by omega)
    have hm1 : (P.y - Q.y) % r.e < r.e := Int.emod_lt_of_pos _ (by omega)
    by_cases hx : (P.y - Q.y) % r.e = 0
    · rw [decide_eq_true hx, Bool.true_and]
      by_cases hy : P.m = Q.m
      · rw [decide_eq_true hy, Bool.true_and]
        by_cases hz : P.d = Q.d
        · rw [decide_eq_true hz]
          rcases HT with ⟨t2, t3⟩ | t2
          all_goals (
            go_enter Try.func59, Try.ntmps59
            go_wp2_with (first | (go_at_call 81; first | ((with_reducible refine (HP1.out _).mono ?_); rintro e w' ⟨rfl, rfl⟩) | ((with_reducible refine (HP2.out _).mono ?_); rintro e w' ⟨rfl, rfl⟩)))
            go_ret
            exact ⟨ret_bool (by first | rfl | simp [*] | (simp; omega)), (by repeat (first | exact Below.refl _ _ | refine bl_plus ?_ | refine bl_alloc ?_ _ | refine bl_drew ?_ | refine bl_drewN ?_ _))⟩)

        · rw [decide_eq_false hz]
          have hz2 : (P.d == Q.d) = false := by simpa using hz
          clear hz
          rcases HT with ⟨t2, t3⟩ | t2
          all_goals (
            go_enter Try.func59, Try.ntmps59
            go_wp2_with (first | (go_at_call 81; first | ((with_reducible refine (HP1.out _).mono ?_); rintro e w' ⟨rfl, rfl⟩) | ((with_reducible refine (HP2.out _).mono ?_); rintro e w' ⟨rfl, rfl⟩)))
            go_ret
            exact ⟨ret_bool (by first | rfl | simp [*] | (simp; omega)), (by repeat (first | exact Below.refl _ _ | refine bl_plus ?_ | refine bl_alloc ?_ _ | refine bl_drew ?_ | refine bl_drewN ?_ _))⟩)

      · rw [decide_eq_false hy, Bool.false_and]
        have hy2 : (P.m == Q.m) = false := by simpa using hy
        clear hy
        rcases HT with ⟨t2, t3⟩ | t2
        all_goals (
          go_enter Try.func59, Try.ntmps59
          go_wp2_with (first | (go_at_call 81; first | ((with_reducible refine (HP1.out _).mono ?_); rintro e w' ⟨rfl, rfl⟩) | ((with_reducible refine (HP2.out _).mono ?_); rintro e w' ⟨rfl, rfl⟩)))
          go_ret
          exact ⟨ret_bool (by first | rfl | simp [*] | (simp; omega)), (by repeat (first | exact Below.refl _ _ | refine bl_plus ?_ | refine bl_alloc ?_ _ | refine bl_drew ?_ | refine bl_drewN ?_ _))⟩)

    · rw [decide_eq_false hx, Bool.false_and]
      have hx2 : ((P.y - Q.y) % r.e == 0) = false := by simpa using hx
      clear hx
      rcases HT with ⟨t2, t3⟩ | t2
      all_goals (
        go_enter Try.func59, Try.ntmps59
        go_wp2_with (first | (go_at_call 81; first | ((with_reducible refine (HP1.out _).mono ?_); rintro e w' ⟨rfl, rfl⟩) | ((with_reducible refine (HP2.out _).mono ?_); rintro e w' ⟨rfl, rfl⟩)))
        go_ret
        exact ⟨ret_bool (by first | rfl | simp [*] | (simp; omega)), (by repeat (first | exact Below.refl _ _ | refine bl_plus ?_ | refine bl_alloc ?_ _ | refine bl_drew ?_ | refine bl_drewN ?_ _))⟩)

  · rw [if_neg (by decide), if_neg (by decide), if_pos rfl]
    have hm0 : 0 ≤ (12 * (P.y - Q.y) + P.m - Q.m) % r.e := Int.emod_nonneg _ (by omega)
    have hm1 : (12 * (P.y - Q.y) + P.m - Q.m) % r.e < r.e := Int.emod_lt_of_pos _ (by omega)
    by_cases hx : (12 * (P.y - Q.y) + P.m - Q.m) % r.e = 0
    · rw [decide_eq_true hx, Bool.true_and]
      by_cases hw : r.wd = []
      · have hl : r.wd.length = 0 := by rw [hw]; rfl
        rw [if_neg (fun h => h hw)]
        clear hw
        by_cases ha : r.da = []
        · have hl2 : r.da.length = 0 := by rw [ha]; rfl
          rw [if_neg (fun h => h ha)]
          clear ha
          by_cases hz : P.d = Q.d
          · rw [decide_eq_true hz]
            rcases HT with ⟨t2, t3⟩ | t2
            all_goals (
              go_enter Try.func59, Try.ntmps59
              go_wp2_with (first | (go_at_call 81; first | ((with_reducible refine (HP1.out _).mono ?_); rintro e w' ⟨rfl, rfl⟩) | ((with_reducible refine (HP2.out _).mono ?_); rintro e w' ⟨rfl, rfl⟩)) | (go_at_call 82; first | ((with_reducible refine (HD1.out _).mono ?_); rintro e w' ⟨rfl, hbl⟩; obtain ⟨os1, n1, rfl⟩ := below_plus hbl; clear hbl) | ((with_reducible refine (HD2.out _).mono ?_); rintro e w' ⟨rfl, hbl⟩; obtain ⟨os2, n2, rfl⟩ := below_plus hbl; clear hbl)))
              go_ret
              exact ⟨ret_bool (by first | rfl | simp [*] | (simp; omega)), (by repeat (first | exact Below.refl _ _ | refine bl_plus ?_ | refine bl_alloc ?_ _ | refine bl_drew ?_ | refine bl_drewN ?_ _))⟩)

          · rw [decide_eq_false hz]
            have hz2 : (P.d == Q.d) = false := by simpa using hz
            clear hz
            rcases HT with ⟨t2, t3⟩ | t2
            all_goals (
              go_enter Try.func59, Try.ntmps59
              go_wp2_with (first | (go_at_call 81; first | ((with_reducible refine (HP1.out _).mono ?_); rintro e w' ⟨rfl, rfl⟩) | ((with_reducible refine (HP2.out _).mono ?_); rintro e w' ⟨rfl, rfl⟩)) | (go_at_call 82; first | ((with_reducible refine (HD1.out _).mono ?_); rintro e w' ⟨rfl, hbl⟩; obtain ⟨os1, n1, rfl⟩ := below_plus hbl; clear hbl) | ((with_reducible refine (HD2.out _).mono ?_); rintro e w' ⟨rfl, hbl⟩; obtain ⟨os2, n2, rfl⟩ := below_plus hbl; clear hbl)))
              go_ret
              exact ⟨ret_bool (by first | rfl | simp [*] | (simp; omega)), (by repeat (first | exact Below.refl _ _ | refine bl_plus ?_ | refine bl_alloc ?_ _ | refine bl_drew ?_ | refine bl_drewN ?_ _))⟩)

        · have hl2 : 0 < r.da.length := List.length_pos_iff.2 ha
          rw [if_pos ha]
          clear ha
          by_cases hq : P.d ∈ r.da
          · rw [decide_eq_true hq] at HCD1
            rw [List.contains_iff_mem.2 hq, Bool.true_or]
            clear hq
            rcases HT with ⟨t2, t3⟩ | t2
            all_goals (
              go_enter Try.func59, Try.ntmps59
              go_wp2_with (first | (go_at_call 81; first | ((with_reducible refine (HP1.out _).mono ?_); rintro e w' ⟨rfl, rfl⟩) | ((with_reducible refine (HP2.out _).mono ?_); rintro e w' ⟨rfl, rfl⟩)) | (go_at_call 82; first | ((with_reducible refine (HD1.out _).mono ?_); rintro e w' ⟨rfl, hbl⟩; obtain ⟨os1, n1, rfl⟩ := below_plus hbl; clear hbl) | ((with_reducible refine (HD2.out _).mono ?_); rintro e w' ⟨rfl, hbl⟩; obtain ⟨os2, n2, rfl⟩ := below_plus hbl; clear hbl)) | (go_at_call 40; (with_reducible refine (HCD1.out _ (by repeat (first | exact Below.refl _ _ | refine bl_plus ?_ | refine bl_alloc ?_ _ | refine bl_drew ?_ | refine bl_drewN ?_ _))).mono ?_); rintro e w' ⟨rfl, rfl⟩))
              go_ret
              exact ⟨ret_bool (by first | rfl | simp [*] | (simp; omega)), (by repeat (first | exact Below.refl _ _ | refine bl_plus ?_ | refine bl_alloc ?_ _ | refine bl_drew ?_ | refine bl_drewN ?_ _))⟩)

          · rw [decide_eq_false hq] at HCD1
            rw [show r.da.contains P.d = false by simpa using hq, Bool.false_or]
            clear hq
            by_cases hq : P.d - L - 1 ∈ r.da
            · rw [decide_eq_true hq] at HCD2
              rw [List.contains_iff_mem.2 hq]
              clear hq
              rcases HT with ⟨t2, t3⟩ | t2
              all_goals (
                go_enter Try.func59, Try.ntmps59
                go_wp2_with (first | (go_at_call 81; first | ((with_reducible refine (HP1.out _).mono ?_); rintro e w' ⟨rfl, rfl⟩) | ((with_reducible refine (HP2.out _).mono ?_); rintro e w' ⟨rfl, rfl⟩)) | (go_at_call 82; first | ((with_reducible refine (HD1.out _).mono ?_); rintro e w' ⟨rfl, hbl⟩; obtain ⟨os1, n1, rfl⟩ := below_plus hbl; clear hbl) | ((with_reducible refine (HD2.out _).mono ?_); rintro e w' ⟨rfl, hbl⟩; obtain ⟨os2, n2, rfl⟩ := below_plus hbl; clear hbl)) | (go_at_call 40; (with_reducible refine (HCD1.out _ (by repeat (first | exact Below.refl _ _ | refine bl_plus ?_ | refine bl_alloc ?_ _ | refine bl_drew ?_ | refine bl_drewN ?_ _))).mono ?_); rintro e w' ⟨rfl, rfl⟩) | (go_at_call 40; (with_reducible refine (HCD2.out _ (by repeat (first | exact Below.refl _ _ | refine bl_plus ?_ | refine bl_alloc ?_ _ | refine bl_drew ?_ | refine bl_drewN ?_ _))).mono ?_); rintro e w' ⟨rfl, rfl⟩))
                go_ret
                exact ⟨ret_bool (by first | rfl | simp [*] | (simp; omega)), (by repeat (first | exact Below.refl _ _ | refine bl_plus ?_ | refine bl_alloc ?_ _ | refine bl_drew ?_ | refine bl_drewN ?_ _))⟩)

            · rw [decide_eq_false hq] at HCD2
              rw [show r.da.contains (P.d - L - 1) = false by simpa using hq]
              clear hq
              rcases HT with ⟨t2, t3⟩ | t2
              all_goals (
                go_enter Try.func59, Try.ntmps59
                go_wp2_with (first | (go_at_call 81; first | ((with_reducible refine (HP1.out _).mono ?_); rintro e w' ⟨rfl, rfl⟩) | ((with_reducible refine (HP2.out _).mono ?_); rintro e w' ⟨rfl, rfl⟩)) | (go_at_call 82; first | ((with_reducible refine (HD1.out _).mono ?_); rintro e w' ⟨rfl, hbl⟩; obtain ⟨os1, n1, rfl⟩ := below_plus hbl; clear hbl) | ((with_reducible refine (HD2.out _).mono ?_); rintro e w' ⟨rfl, hbl⟩; obtain ⟨os2, n2, rfl⟩ := below_plus hbl; clear hbl)) | (go_at_call 40; (with_reducible refine (HCD1.out _ (by repeat (first | exact Below.refl _ _ | refine bl_plus ?_ | refine bl_alloc ?_ _ | refine bl_drew ?_ | refine bl_drewN ?_ _))).mono ?_); rintro e w' ⟨rfl, rfl⟩) | (go_at_call 40; (with_reducible refine (HCD2.out _ (by repeat (first | exact Below.refl _ _ | refine bl_plus ?_ | refine bl_alloc ?_ _ | refine bl_drew ?_ | refine bl_drewN ?_ _))).mono ?_); rintro e w' ⟨rfl, rfl⟩))
                go_ret
                exact ⟨ret_bool (by first | rfl | simp [*] | (simp; omega)), (by repeat (first | exact Below.refl _ _ | refine bl_plus ?_ | refine bl_alloc ?_ _ | refine bl_drew ?_ | refine bl_drewN ?_ _))⟩)

      · have hl : 0 < r.wd.length := List.length_pos_iff.2 hw
        rw [if_pos hw]
        clear hw
        by_cases hq : d % 7 ∈ r.wd
        · rw [decide_eq_true hq] at HCW
          rw [List.contains_iff_mem.2 hq, Bool.true_and]
          clear hq
          by_cases hn : r.n < 0
          · rw [if_pos hn]
            by_cases hz : -((L - P.d) / 7 + 1) = r.n
            · rw [decide_eq_true hz]
              have hz2 : (-((L - P.d) / 7 + 1) == r.n) = true := by simpa using hz
              clear hz
              rcases HT with ⟨t2, t3⟩ | t2
              all_goals (
                go_enter Try.func59, Try.ntmps59
                go_wp2_with (first | (go_at_call 81; first | ((with_reducible refine (HP1.out _).mono ?_); rintro e w' ⟨rfl, rfl⟩) | ((with_reducible refine (HP2.out _).mono ?_); rintro e w' ⟨rfl, rfl⟩)) | (go_at_call 82; first | ((with_reducible refine (HD1.out _).mono ?_); rintro e w' ⟨rfl, hbl⟩; obtain ⟨os1, n1, rfl⟩ := below_plus hbl; clear hbl) | ((with_reducible refine (HD2.out _).mono ?_); rintro e w' ⟨rfl, hbl⟩; obtain ⟨os2, n2, rfl⟩ := below_plus hbl; clear hbl)) | (go_at_call 40; (with_reducible refine (HCW.out _ (by repeat (first | exact Below.refl _ _ | refine bl_plus ?_ | refine bl_alloc ?_ _ | refine bl_drew ?_ | refine bl_drewN ?_ _))).mono ?_); rintro e w' ⟨rfl, rfl⟩))
                go_ret
                exact ⟨ret_bool (by first | rfl | simp [*] | (simp; omega)), (by repeat (first | exact Below.refl _ _ | refine bl_plus ?_ | refine bl_alloc ?_ _ | refine bl_drew ?_ | refine bl_drewN ?_ _))⟩)

            · rw [decide_eq_false hz]
              have hz2 : (-((L - P.d) / 7 + 1) == r.n) = false := by simpa using hz
              clear hz
              rcases HT with ⟨t2, t3⟩ | t2
              all_goals (
                go_enter Try.func59, Try.ntmps59
                go_wp2_with (first | (go_at_call 81; first | ((with_reducible refine (HP1.out _).mono ?_); rintro e w' ⟨rfl, rfl⟩) | ((with_reducible refine (HP2.out _).mono ?_); rintro e w' ⟨rfl, rfl⟩)) | (go_at_call 82; first | ((with_reducible refine (HD1.out _).mono ?_); rintro e w' ⟨rfl, hbl⟩; obtain ⟨os1, n1, rfl⟩ := below_plus hbl; clear hbl) | ((with_reducible refine (HD2.out _).mono ?_); rintro e w' ⟨rfl, hbl⟩; obtain ⟨os2, n2, rfl⟩ := below_plus hbl; clear hbl)) | (go_at_call 40; (with_reducible refine (HCW.out _ (by repeat (first | exact Below.refl _ _ | refine bl_plus ?_ | refine bl_alloc ?_ _ | refine bl_drew ?_ | refine bl_drewN ?_ _))).mono ?_); rintro e w' ⟨rfl, rfl⟩))
                go_ret
                exact ⟨ret_bool (by first | rfl | simp [*] | (simp; omega)), (by repeat (first | exact Below.refl _ _ | refine bl_plus ?_ | refine bl_alloc ?_ _ | refine bl_drew ?_ | refine bl_drewN ?_ _))⟩)

          · rw [if_neg hn]
            by_cases hz : (P.d - 1) / 7 + 1 = r.n
            · rw [decide_eq_true hz]
              have hz2 : ((P.d - 1) / 7 + 1 == r.n) = true := by simpa using hz
              clear hz
              rcases HT with ⟨t2, t3⟩ | t2
              all_goals (
                go_enter Try.func59, Try.ntmps59
                go_wp2_with (first | (go_at_call 81; first | ((with_reducible refine (HP1.out _).mono ?_); rintro e w' ⟨rfl, rfl⟩) | ((with_reducible refine (HP2.out _).mono ?_); rintro e w' ⟨rfl, rfl⟩)) | (go_at_call 82; first | ((with_reducible refine (HD1.out _).mono ?_); rintro e w' ⟨rfl, hbl⟩; obtain ⟨os1, n1, rfl⟩ := below_plus hbl; clear hbl) | ((with_reducible refine (HD2.out _).mono ?_); rintro e w' ⟨rfl, hbl⟩; obtain ⟨os2, n2, rfl⟩ := below_plus hbl; clear hbl)) | (go_at_call 40; (with_reducible refine (HCW.out _ (by repeat (first | exact Below.refl _ _ | refine bl_plus ?_ | refine bl_alloc ?_ _ | refine bl_drew ?_ | refine bl_drewN ?_ _))).mono ?_); rintro e w' ⟨rfl, rfl⟩))
                go_ret
                exact ⟨ret_bool (by first | rfl | simp [*] | (simp; omega)), (by repeat (first | exact Below.refl _ _ | refine bl_plus ?_ | refine bl_alloc ?_ _ | refine bl_drew ?_ | refine bl_drewN ?_ _))⟩)

            · rw [decide_eq_false hz]
              have hz2 : ((P.d - 1) / 7 + 1 == r.n) = false := by simpa using hz
              clear hz
              rcases HT with ⟨t2, t3⟩ | t2
              all_goals (
                go_enter Try.func59, Try.ntmps59
                go_wp2_with (first | (go_at_call 81; first | ((with_reducible refine (HP1.out _).mono ?_); rintro e w' ⟨rfl, rfl⟩) | ((with_reducible refine (HP2.out _).mono ?_); rintro e w' ⟨rfl, rfl⟩)) | (go_at_call 82; first | ((with_reducible refine (HD1.out _).mono ?_); rintro e w' ⟨rfl, hbl⟩; obtain ⟨os1, n1, rfl⟩ := below_plus hbl; clear hbl) | ((with_reducible refine (HD2.out _).mono ?_); rintro e w' ⟨rfl, hbl⟩; obtain ⟨os2, n2, rfl⟩ := below_plus hbl; clear hbl)) | (go_at_call 40; (with_reducible refine (HCW.out _ (by repeat (first | exact Below.refl _ _ | refine bl_plus ?_ | refine bl_alloc ?_ _ | refine bl_drew ?_ | refine bl_drewN ?_ _))).mono ?_); rintro e w' ⟨rfl, rfl⟩))
                go_ret
                exact ⟨ret_bool (by first | rfl | simp [*] | (simp; omega)), (by repeat (first | exact Below.refl _ _ | refine bl_plus ?_ | refine bl_alloc ?_ _ | refine bl_drew ?_ | refine bl_drewN ?_ _))⟩)

        · rw [decide_eq_false hq] at HCW
          rw [show r.wd.contains (d % 7) = false by simpa using hq, Bool.false_and]
          clear hq
          by_cases hn : r.n < 0
          all_goals (
            rcases HT with ⟨t2, t3⟩ | t2
            all_goals (
              go_enter Try.func59, Try.ntmps59
              go_wp2_with (first | (go_at_call 81; first | ((with_reducible refine (HP1.out _).mono ?_); rintro e w' ⟨rfl, rfl⟩) | ((with_reducible refine (HP2.out _).mono ?_); rintro e w' ⟨rfl, rfl⟩)) | (go_at_call 82; first | ((with_reducible refine (HD1.out _).mono ?_); rintro e w' ⟨rfl, hbl⟩; obtain ⟨os1, n1, rfl⟩ := below_plus hbl; clear hbl) | ((with_reducible refine (HD2.out _).mono ?_); rintro e w' ⟨rfl, hbl⟩; obtain ⟨os2, n2, rfl⟩ := below_plus hbl; clear hbl)) | (go_at_call 40; (with_reducible refine (HCW.out _ (by repeat (first | exact Below.refl _ _ | refine bl_plus ?_ | refine bl_alloc ?_ _ | refine bl_drew ?_ | refine bl_drewN ?_ _))).mono ?_); rintro e w' ⟨rfl, rfl⟩))
              go_ret
              exact ⟨ret_bool (by first | rfl | simp [*] | (simp; omega)), (by repeat (first | exact Below.refl _ _ | refine bl_plus ?_ | refine bl_alloc ?_ _ | refine bl_drew ?_ | refine bl_drewN ?_ _))⟩))

    · rw [decide_eq_false hx, Bool.false_and]
      have hx2 : ((12 * (P.y - Q.y) + P.m - Q.m) % r.e != 0) = true := by simpa using hx
      clear hx
      rcases HT with ⟨t2, t3⟩ | t2
      all_goals (
        go_enter Try.func59, Try.ntmps59
        go_wp2_with (first | (go_at_call 81; first | ((with_reducible refine (HP1.out _).mono ?_); rintro e w' ⟨rfl, rfl⟩) | ((with_reducible refine (HP2.out _).mono ?_); rintro e w' ⟨rfl, rfl⟩)))
        go_ret
        exact ⟨ret_bool (by first | rfl | simp [*] | (simp; omega)), (by repeat (first | exact Below.refl _ _ | refine bl_plus ?_ | refine bl_alloc ?_ _ | refine bl_drew ?_ | refine bl_drewN ?_ _))⟩)


end Go.Proofs.Ytpbkidjbbhkjnaa
