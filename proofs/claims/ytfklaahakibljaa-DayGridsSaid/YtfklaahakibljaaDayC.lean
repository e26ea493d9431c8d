/-
  WALKS: the reference's calendar: the day of a year, a month and a number; small tests of days.
-/
import Derived.Test.YtfklaahakibljaaDayB
namespace Go.Proofs.Ytfklaahakibljaa
open Go.RowKit Cal

set_option maxHeartbeats 800000 in
theorem floor_pos (a b : Int) (w : World) (ha : 0 ≤ a) (ha2 : a ≤ 1000000000) (hb : 0 < b) (hb2 : b ≤ 1000000) :
    Calls Try.prog 176 #[.int .i64 a, .int .i64 b] w fun e w' => e = .returned (.int .i64 (a / b)) ∧ w = w' := by
  have h1 : 0 ≤ a / b := Int.ediv_nonneg ha (by omega)
  have h2 : a / b ≤ a := Int.ediv_le_self _ ha
  have h3 : 0 ≤ a % b := Int.emod_nonneg _ (by omega)
  have h4 : a % b < b := Int.emod_lt_of_pos _ hb
  have h5 : (b == 0) = false := by simp; omega
  go_enter Try.func176, Try.ntmps176
  go_wp2
  go_ret
  exact ⟨rfl, rfl⟩

set_option maxHeartbeats 800000 in
theorem leapR_any (y : Int) (w : World) (hy : 0 ≤ y) (hy2 : y ≤ 100000) :
    Calls Try.prog 177 #[.int .i64 y] w fun e w' => e = .returned (.bool (decide (lp y = 1))) ∧ w = w' := by
  have hc : ((y % 4 == 0) = false ∧ decide (lp y = 1) = false) ∨ (y % 4 = 0 ∧ (y % 100 != 0) = true ∧ decide (lp y = 1) = true) ∨ (y % 4 = 0 ∧ (y % 100 != 0) = false ∧ (y % 400 == 0) = true ∧ decide (lp y = 1) = true) ∨ (y % 4 = 0 ∧ (y % 100 != 0) = false ∧ (y % 400 == 0) = false ∧ decide (lp y = 1) = false) := by
    unfold lp
    by_cases h4 : y % 4 = 0
    · by_cases h1 : y % 100 = 0
      · by_cases h0 : y % 400 = 0
        · exact .inr (.inr (.inl ⟨h4, by simp [h1], by simp [h0], by simp [h4, h0]⟩))
        · exact .inr (.inr (.inr ⟨h4, by simp [h1], by simp [h0], by simp [h1, h0]⟩))
      · exact .inr (.inl ⟨h4, by simp [h1], by simp [h4, h1]⟩)
    · exact .inl ⟨by simp [h4], by simp [h4]⟩
  generalize decide (lp y = 1) = r at hc ⊢
  rcases hc with ⟨h1, rfl⟩ | ⟨h1, h2, rfl⟩ | ⟨h1, h2, h3, rfl⟩ | ⟨h1, h2, h3, rfl⟩
  all_goals
    go_enter Try.func177, Try.ntmps177
    go_wp2
    go_ret
    exact ⟨by simp [*], rfl⟩

set_option maxHeartbeats 800000 in
theorem yearDay_any (y : Int) (w : World) (hy : 2001 ≤ y) (hy2 : y ≤ 100000) :
    Calls Try.prog 178 #[.int .i64 y] w fun e w' => e = .returned (.int .i64 (yd y)) ∧ w = w' := by
  go_enter Try.func178, Try.ntmps178
  go_wp2_with (go_at_call 176; refine (floor_pos _ _ _ (by omega) (by omega) (by omega) (by omega)).mono ?_; rintro e w' ⟨rfl, rfl⟩)
  go_ret
  exact ⟨ret_int (by unfold yd; omega), rfl⟩

set_option maxHeartbeats 800000 in
theorem isDay_any (n : Int) (w : World) :
    Calls Try.prog 91 #[.int .i64 n] w fun e w' => e = .returned (.bool (decide (0 ≤ n ∧ n ≤ 100000))) ∧ w = w' := by
  by_cases h1 : 0 ≤ n
  · go_enter Try.func91, Try.ntmps91
    go_wp2
    go_ret
    exact ⟨ret_bool (by simp [h1]), rfl⟩
  · go_enter Try.func91, Try.ntmps91
    go_wp2
    go_ret
    exact ⟨ret_bool (by simp; omega), rfl⟩
theorem isDay_yes (n : Int) (w : World) (h : 0 ≤ n) (h2 : n ≤ 100000) :
    Calls Try.prog 91 #[.int .i64 n] w fun e w' => e = .returned (.bool true) ∧ w = w' :=
  (isDay_any n w).mono fun _ _ ⟨he, hw⟩ => ⟨by rw [he, decide_eq_true (And.intro h h2)], hw⟩
theorem isDay_no (n : Int) (w : World) (h : n < 0 ∨ 100000 < n) :
    Calls Try.prog 91 #[.int .i64 n] w fun e w' => e = .returned (.bool false) ∧ w = w' :=
  (isDay_any n w).mono fun _ _ ⟨he, hw⟩ => ⟨by rw [he, decide_eq_false (by omega)], hw⟩

def dayErr (n : Int) : Int := if n < 0 ∨ 100000 < n then 2 else 0
set_option maxHeartbeats 800000 in
theorem checkDay_any (n : Int) (w : World) :
    Calls Try.prog 87 #[.int .i64 n] w fun e w' => e = .returned (.int .i64 (dayErr n)) ∧ w = w' := by
  unfold dayErr
  by_cases h : n < 0 ∨ 100000 < n
  · rw [if_pos h]
    have HX := hide (fun w => outsideD_yes n 0 100000 w h)
    clear h
    go_enter Try.func87, Try.ntmps87
    go_wp2_with (go_at_call 146; refine (HX.out _).mono ?_; rintro e w' ⟨rfl, rfl⟩)
    go_ret
    exact ⟨rfl, rfl⟩
  · rw [if_neg h]
    have HX := hide (fun w => outsideD_no n 0 100000 w (by omega) (by omega))
    clear h
    go_enter Try.func87, Try.ntmps87
    go_wp2_with (go_at_call 146; refine (HX.out _).mono ?_; rintro e w' ⟨rfl, rfl⟩)
    go_ret
    exact ⟨rfl, rfl⟩

set_option maxHeartbeats 3200000 in
/-- 'has' of a month, a date that is not beyond 31. -/
theorem has_any (y m d : Int) (w : World) (hy : 0 ≤ y) (hy2 : y ≤ 100000) (h29 : 29 ≤ d) (h31 : d ≤ 31) :
    Calls Try.prog 86 #[.int .i64 y, .int .i64 m, .int .i64 d] w fun e w' => e = .returned (.bool (decide (d ≤ mlen y m))) ∧ w = w' := by
  have hd : d = 29 ∨ ((d == 29) = false ∧ 29 < d) := by
    by_cases h : d = 29
    · exact .inl h
    · exact .inr ⟨by simp [h], by omega⟩
  by_cases hm : m = 2
  · subst hm
    have hm2 : mlen y 2 = 28 + lp y := by simp [mlen]
    rw [hm2]
    rcases hd with rfl | ⟨hd1, hd2⟩
    · have hc : ((y % 4 == 0) = false ∧ lp y = 0) ∨ (y % 4 = 0 ∧ (y % 100 != 0) = true ∧ lp y = 1) ∨ (y % 4 = 0 ∧ (y % 100 != 0) = false ∧ (y % 400 == 0) = true ∧ lp y = 1) ∨ (y % 4 = 0 ∧ (y % 100 != 0) = false ∧ (y % 400 == 0) = false ∧ lp y = 0) := by
        unfold lp
        by_cases h4 : y % 4 = 0
        · by_cases h1 : y % 100 = 0
          · by_cases h0 : y % 400 = 0
            · exact .inr (.inr (.inl ⟨h4, by simp [h1], by simp [h0], by simp [h4, h0]⟩))
            · exact .inr (.inr (.inr ⟨h4, by simp [h1], by simp [h0], by simp [h1, h0]⟩))
          · exact .inr (.inl ⟨h4, by simp [h1], by simp [h4, h1]⟩)
        · exact .inl ⟨by simp [h4], by simp [h4]⟩
      generalize lp y = r at hc ⊢
      rcases hc with ⟨h1, rfl⟩ | ⟨h1, h2, rfl⟩ | ⟨h1, h2, h3, rfl⟩ | ⟨h1, h2, h3, rfl⟩
      all_goals
        go_enter Try.func86, Try.ntmps86
        go_wp2
        go_ret
        exact ⟨by simp [*], rfl⟩
    · have hl := lp_01 y
      have hf : decide (d ≤ 28 + lp y) = false := by simp; omega
      rw [hf]
      clear hf hl
      go_enter Try.func86, Try.ntmps86
      go_wp2
      go_ret
      exact ⟨ret_bool (by simp; omega), rfl⟩
  · have hm2 : (m == 2) = false := by simp [hm]
    by_cases h4 : m = 4 ∨ m = 6 ∨ m = 9 ∨ m = 11
    · have hl : mlen y m = 30 := by unfold mlen; rw [if_neg hm, if_pos h4]
      rw [hl]
      clear hl hm hm2 hd
      rcases h4 with rfl | rfl | rfl | rfl
      all_goals
        go_enter Try.func86, Try.ntmps86
        go_wp2
        go_ret
        exact ⟨ret_bool (by first | rfl | simp), rfl⟩
    · have hl : mlen y m = 31 := by unfold mlen; rw [if_neg hm, if_neg h4]
      rw [hl]
      have g4 : (m == 4) = false := by simp; omega
      have g6 : (m == 6) = false := by simp; omega
      have g9 : (m == 9) = false := by simp; omega
      have g11 : (m == 11) = false := by simp; omega
      clear hl hm h4 hd
      go_enter Try.func86, Try.ntmps86
      go_wp2
      go_ret
      exact ⟨ret_bool (by simp; try omega), rfl⟩

def ml0 : Array Value := #[.int .i64 31, .int .i64 28, .int .i64 31, .int .i64 30, .int .i64 31, .int .i64 30, .int .i64 31, .int .i64 31, .int .i64 30, .int .i64 31, .int .i64 30, .int .i64 31]
theorem ml0_at : ∀ i : Nat, i < 12 → ml0[i]? = some (.int .i64 (cumC (i + 2) - cumC (i + 1)))
  | 0, _ | 1, _ | 2, _ | 3, _ | 4, _ | 5, _ | 6, _ | 7, _ | 8, _ | 9, _ | 10, _ | 11, _ => rfl
  | _ + 12, h => by omega
theorem cumC_bd (m : Int) : 0 ≤ cumC m ∧ cumC m ≤ 365 := by unfold cumC; (repeat' split) <;> omega

/-- A day by a year, a month from 1 on, and a number. -/
def dateOfR (y m d : Int) : Int := num (y + (m - 1) / 12) ((m - 1) % 12 + 1) d
theorem dateOfR_in {y m d : Int} (h : 1 ≤ m) (h2 : m ≤ 12) : dateOfR y m d = num y m d := by
  unfold dateOfR
  rw [show (m - 1) / 12 = 0 by omega, show (m - 1) % 12 + 1 = m by omega, Int.add_zero]
theorem dateOfR_13 {y d : Int} : dateOfR y 13 d = num (y + 1) 1 d := by
  unfold dateOfR; rfl

set_option maxHeartbeats 3200000 in
set_option maxRecDepth 100000 in
theorem dateOf_any (y m d : Int) (w : World) (hy : 2001 ≤ y) (hy2 : y ≤ 20000) (hm : 1 ≤ m) (hm2 : m ≤ 100000) (hd : -1000000 ≤ d) (hd2 : d ≤ 1000000) :
    Calls Try.prog 147 #[.int .i64 y, .int .i64 m, .int .i64 d] w fun e w' => e = .returned (.int .i64 (dateOfR y m d)) ∧ Below w.heap.size w w' := by
  have hf := fun w => floor_pos (m - 1) 12 w (by omega) (by omega) (by omega) (by omega)
  obtain ⟨k, hk, hk2⟩ : ∃ k : Nat, m - 12 * ((m - 1) / 12) = k + 1 ∧ k < 12 := ⟨(m - 12 * ((m - 1) / 12) - 1).toNat, by omega, by omega⟩
  have hr : dateOfR y m d = num (y + (m - 1) / 12) (k + 1) d := by unfold dateOfR; rw [show (m - 1) % 12 + 1 = k + 1 by omega]
  have hYb : 2001 ≤ y + (m - 1) / 12 ∧ y + (m - 1) / 12 ≤ 30000 := by omega
  have hq : 0 ≤ (m - 1) / 12 ∧ (m - 1) / 12 ≤ 10000 := by omega
  have hq2 : 12 * ((m - 1) / 12) ≤ m := by omega
  rw [hr]
  generalize (m - 1) / 12 = q at *
  generalize hRR : num (y + q) (k + 1) d = R
  have HRR := hide hRR
  clear hRR
  have HF := hide hf
  have HK := hide hk
  clear hf hk hr
  obtain ⟨q0, q1⟩ := hq
  go_enter Try.func147, Try.ntmps147
  go_upto_region 2 with (go_at_call 176; refine (HF.out _).mono ?_; rintro e w' ⟨rfl, rfl⟩)
  rw [HK.out]
  clear HK HF
  obtain ⟨Y0, Y1⟩ := hYb
  clear hy hy2 hm hm2 hq2
  generalize y + q = Y at *
  have i1 : (k : Int) < 12 := by omega
  have i2 : (0 : Int) ≤ (k : Int) := by omega
  have hydb : 0 ≤ yd Y ∧ yd Y ≤ 12000000 := by unfold yd; omega
  obtain ⟨yb0, yb1⟩ := hydb
  have HYD := hide (fun w => yearDay_any Y w Y0 (by omega))
  have HLP := hide (fun w => leapR_any Y w (by omega) (by omega))
  have hR : num Y (k + 1) d = yd Y + (cumC (k + 1) + if 3 ≤ (k : Int) + 1 then lp Y else 0) + d - 1 := rfl
  have HR := hide hR
  have hkb := cumC_bd (k + 1)
  have HKB := hide hkb
  clear hR hkb
  generalize yd Y = D at *
  go_upto_region 4 with (fail)
  have hB : Blk (w.alloc (.cells #[.int .i64 31, .int .i64 28, .int .i64 31, .int .i64 30, .int .i64 31, .int .i64 30, .int .i64 31, .int .i64 31, .int .i64 30, .int .i64 31, .int .i64 30, .int .i64 31] 3)) w.heap.size 3 ml0 := Blk.new w 3 ml0
  have hW : Below w.heap.size w (w.alloc (.cells #[.int .i64 31, .int .i64 28, .int .i64 31, .int .i64 30, .int .i64 31, .int .i64 30, .int .i64 31, .int .i64 31, .int .i64 30, .int .i64 31, .int .i64 30, .int .i64 31] 3)) := by repeat (first | exact Below.refl _ _ | refine bl_plus ?_ | refine bl_alloc ?_ _ | refine bl_drew ?_)
  generalize w.alloc (.cells #[.int .i64 31, .int .i64 28, .int .i64 31, .int .i64 30, .int .i64 31, .int .i64 30, .int .i64 31, .int .i64 31, .int .i64 30, .int .i64 31, .int .i64 30, .int .i64 31] 3) = W at hB hW ⊢
  generalize w.heap.size = g at hB ⊢
  have hcell : ∀ i : Nat, i < 12 → W.cell? ⟨g, i, none⟩ = some (.int .i64 (cumC (i + 2) - cumC (i + 1))) := fun i hi => (hB.cell i).trans (ml0_at i hi)
  have HC := hide hcell
  clear hcell hB
  go_wp2
  go_loop [7, 26] (fun n i => ∃ j : Nat, j ≤ k ∧ i = .int .i64 j ∧ n = .int .i64 (cumC (j + 1))) (fun _ i => k - (intOf i).toNat)
  case atStart => exact ⟨0, Nat.zero_le _, rfl, rfl⟩
  case round =>
    obtain ⟨j, hj, rfl, rfl⟩ := hrel
    by_cases hlt : j < k
    · have c1 := HC.out j (by omega)
      have b1 := cumC_bd (j + 1)
      have b2 := cumC_bd (j + 2)
      obtain ⟨b10, b11⟩ := b1
      obtain ⟨b20, b21⟩ := b2
      have he : cumC ((j : Int) + 2) = cumC (((j + 1 : Nat) : Int) + 1) := by first | rfl | (congr 1; omega)
      have HE := hide he
      clear he
      generalize cumC ((j : Int) + 1) = C at *
      generalize cumC ((j : Int) + 2) = C2 at *
      have i4 : (j : Int) < (k : Int) := by omega
      go_wp2
      go_round
      case rel => exact ⟨j + 1, by omega, by go_num, by rw [← HE.out]; exact congrArg (Value.int .i64) (by omega)⟩
      case measure => simp [intOf]; omega
    · have hjk : j = k := by omega
      subst hjk
      have i4 : ¬ (j : Int) < (j : Int) := by omega
      have b1 := HKB.out
      obtain ⟨b10, b11⟩ := b1
      generalize cumC ((j : Int) + 1) = C at *
      by_cases h3 : (3 : Int) ≤ (j : Int) + 1
      · have hr := HR.out
        rw [if_pos h3] at hr
        have HR2 := hide hr
        clear hr HR
        have i5 : (2 : Int) < (j : Int) + 1 := by omega
        rcases lp_01 Y with hl | hl
        all_goals
          rw [hl] at HR2 HLP
          simp only [Int.reduceEq, decide_false, decide_true] at HLP
          clear hl
          go_wp2_with (first | (go_at_call 177; refine (HLP.out _).mono ?_; rintro e w' ⟨rfl, rfl⟩) | (go_at_call 178; refine (HYD.out _).mono ?_; rintro e w' ⟨rfl, rfl⟩))
          go_ret
          refine ⟨?_, hW⟩
          rw [← HRR.out, HR2.out]
          exact ret_int (by omega)
      · have hr := HR.out
        rw [if_neg h3] at hr
        have HR2 := hide hr
        clear hr HR
        have i5 : ¬ (2 : Int) < (j : Int) + 1 := by omega
        go_wp2_with (first | (go_at_call 178; refine (HYD.out _).mono ?_; rintro e w' ⟨rfl, rfl⟩))
        go_ret
        refine ⟨?_, hW⟩
        rw [← HRR.out, HR2.out]
        exact ret_int (by omega)

end Go.Proofs.Ytfklaahakibljaa
