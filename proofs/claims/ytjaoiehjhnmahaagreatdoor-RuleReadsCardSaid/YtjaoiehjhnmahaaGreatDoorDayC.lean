/-
  WALKS: the reference's calendar: the day of a year, a month and a number; small tests of days.
-/
import Derived.Test.YtjaoiehjhnmahaaGreatDoorDayB
import Derived.IntWalk
set_option linter.all false
namespace Go.Proofs.YtjaoiehjhnmahaaGreatDoor
open Go.RowKit Cal

set_option maxHeartbeats 800000 in
theorem floor_pos (a b : Int) (w : World) (ha : 0 ≤ a) (ha2 : a ≤ 1000000000) (hb : 0 < b) (hb2 : b ≤ 1000000) :
    Calls Tryz.prog 185 #[.int .i64 a, .int .i64 b] w fun e w' => e = .returned (.int .i64 (a / b)) ∧ w = w' := by
  have h1 : 0 ≤ a / b := Int.ediv_nonneg ha (by omega)
  have h2 : a / b ≤ a := Int.ediv_le_self _ ha
  have h3 : 0 ≤ a % b := Int.emod_nonneg _ (by omega)
  have h4 : a % b < b := Int.emod_lt_of_pos _ hb
  have h5 : (b == 0) = false := by simp; omega
  go_enter Tryz.func185, Tryz.ntmps185
  go_wp2
  go_ret
  exact ⟨rfl, rfl⟩

set_option maxHeartbeats 800000 in
theorem floor_neg (a b : Int) (w : World) (ha : a < 0) (ha2 : -1000000000 ≤ a) (hb : 0 < b) (hb2 : b ≤ 1000000) :
    Calls Tryz.prog 185 #[.int .i64 a, .int .i64 b] w fun e w' => e = .returned (.int .i64 (a / b)) ∧ w = w' := by
  have e1 : a.tdiv b = -((-a) / b) := by
    rw [← Int.tdiv_eq_ediv_of_nonneg (show 0 ≤ -a by omega), Int.neg_tdiv, Int.neg_neg]
  have e2 : a.tmod b = -((-a) % b) := by
    rw [← Int.tmod_eq_emod_of_nonneg (show 0 ≤ -a by omega), Int.neg_tmod, Int.neg_neg]
  have h3 : 0 ≤ (-a) % b := Int.emod_nonneg _ (by omega)
  have h4 : (-a) % b < b := Int.emod_lt_of_pos _ hb
  have h6 : b * ((-a) / b) + (-a) % b = -a := Int.mul_ediv_add_emod (-a) b
  have h7 : 0 ≤ (-a) / b := Int.ediv_nonneg (by omega) (by omega)
  have h8 : (-a) / b ≤ -a := Int.ediv_le_self _ (by omega)
  have hfl : a / b = if a.tmod b < 0 then a.tdiv b - 1 else a.tdiv b := by
    rw [e1, e2]
    generalize (-a) / b = q at *
    generalize (-a) % b = r at *
    split
    · rw [show a = b * (-q - 1) + (b - r) by rw [Int.mul_sub, Int.mul_neg]; omega, Int.mul_add_ediv_left _ _ (by omega), Int.ediv_eq_zero_of_lt (by omega) (by omega)]
      omega
    · rw [show a = b * (-q) by rw [Int.mul_neg]; omega, Int.mul_ediv_cancel_left _ (by omega)]
  have hqb : -1000000000 ≤ a.tdiv b ∧ a.tdiv b ≤ 0 := by rw [e1]; omega
  have h5 : (b == 0) = false := by simp; omega
  have HF := hide hfl
  obtain ⟨q1, q2⟩ := hqb
  have xx : ∀ T : Int, -1000000000 ≤ T → T ≤ 0 → IntKind.i64.wrap T = T ∧ IntKind.i64.wrap (T - 1) = T - 1 := fun T t1 t2 => ⟨IntWalk.i64_in _ (by omega), IntWalk.i64_in _ (by omega)⟩
  obtain ⟨x1, x2⟩ := xx _ q1 q2
  clear hfl e1 e2 h3 h4 h6 h7 h8 xx
  by_cases hlt : a.tmod b < 0
  · have HF2 := hide (HF.out.trans (if_pos hlt))
    go_enter Tryz.func185, Tryz.ntmps185
    go_wp2
    go_ret
    exact ⟨ret_int HF2.out.symm, rfl⟩
  · have HF2 := hide (HF.out.trans (if_neg hlt))
    go_enter Tryz.func185, Tryz.ntmps185
    go_wp2
    go_ret
    exact ⟨ret_int HF2.out.symm, rfl⟩

theorem floor_any (a b : Int) (w : World) (ha : -1000000000 ≤ a) (ha2 : a ≤ 1000000000) (hb : 0 < b) (hb2 : b ≤ 1000000) :
    Calls Tryz.prog 185 #[.int .i64 a, .int .i64 b] w fun e w' => e = .returned (.int .i64 (a / b)) ∧ w = w' := by
  by_cases h : 0 ≤ a
  · exact floor_pos a b w h ha2 hb hb2
  · exact floor_neg a b w (by omega) ha hb hb2

set_option maxHeartbeats 800000 in
theorem leapR_any (y : Int) (w : World) (hy : 0 ≤ y) (hy2 : y ≤ 100000) :
    Calls Tryz.prog 239 #[.int .i64 y] w fun e w' => e = .returned (.bool (decide (lp y = 1))) ∧ w = w' := by
  have hc : ((y % 4 == 0) = false ∧ decide (lp y = 1) = false) ∨ (y % 4 = 0 ∧ (y % 100 != 0) = true ∧ decide (lp y = 1) = true) ∨ (y % 4 = 0 ∧ (y % 100 != 0) = false ∧ (y % 400 == 0) = true ∧ decide (lp y = 1) = true) ∨ (y % 4 = 0 ∧ (y % 100 != 0) = false ∧ (y % 400 == 0) = false ∧ decide (lp y = 1) = false) := by
    unfold lp
    by_cases h4 : y % 4 = 0
    · by_cases h1 : y % 100 = 0
      · by_cases h0 : y % 400 = 0
        · exact .inr (.inr (.inl ⟨h4, by simp [h1], by simp [h0], by simp [h4, h0]⟩))
        · exact .inr (.inr (.inr ⟨h4, by simp [h1], by simp [h0], by simp [h1, h0]⟩))
      · exact .inr (.inl ⟨h4, by simp [h1], by simp [h4, h1]⟩)
    · exact .inl ⟨by simp [h4], by simp [h4]⟩
  generalize decide (lp y = 1) = r at hc ⊢
  rcases hc with ⟨h1, rfl⟩ | ⟨h1, h2, rfl⟩ | ⟨h1, h2, h3, rfl⟩ | ⟨h1, h2, h3, rfl⟩
  all_goals
    go_enter Tryz.func239, Tryz.ntmps239
    go_wp2
    go_ret
    exact ⟨by simp [*], rfl⟩

set_option maxHeartbeats 800000 in
theorem yearDay_any (y : Int) (w : World) (hy : 1000 ≤ y) (hy2 : y ≤ 100000) :
    Calls Tryz.prog 240 #[.int .i64 y] w fun e w' => e = .returned (.int .i64 (yd y)) ∧ w = w' := by
  go_enter Tryz.func240, Tryz.ntmps240
  go_wp2_with (go_at_call 185; refine (floor_any _ _ _ (by omega) (by omega) (by omega) (by omega)).mono ?_; rintro e w' ⟨rfl, rfl⟩)
  go_ret
  exact ⟨ret_int (by unfold yd; omega), rfl⟩

set_option maxHeartbeats 800000 in
theorem isDay_any (n : Int) (w : World) :
    Calls Tryz.prog 84 #[.int .i64 n] w fun e w' => e = .returned (.bool (decide (0 ≤ n ∧ n ≤ 100000))) ∧ w = w' := by
  by_cases h1 : 0 ≤ n
  · go_enter Tryz.func84, Tryz.ntmps84
    go_wp2
    go_ret
    exact ⟨ret_bool (by simp [h1]), rfl⟩
  · go_enter Tryz.func84, Tryz.ntmps84
    go_wp2
    go_ret
    exact ⟨ret_bool (by simp; omega), rfl⟩

theorem isDay_yes (n : Int) (w : World) (h : 0 ≤ n) (h2 : n ≤ 100000) :
    Calls Tryz.prog 84 #[.int .i64 n] w fun e w' => e = .returned (.bool true) ∧ w = w' :=
  (isDay_any n w).mono fun _ _ ⟨he, hw⟩ => ⟨by rw [he, decide_eq_true (And.intro h h2)], hw⟩

theorem isDay_no (n : Int) (w : World) (h : n < 0 ∨ 100000 < n) :
    Calls Tryz.prog 84 #[.int .i64 n] w fun e w' => e = .returned (.bool false) ∧ w = w' :=
  (isDay_any n w).mono fun _ _ ⟨he, hw⟩ => ⟨by rw [he, decide_eq_false (by omega)], hw⟩

def dayErr (n : Int) : Int := if n < 0 ∨ 100000 < n then 2 else 0

set_option maxHeartbeats 800000 in
theorem checkDay_any (n : Int) (w : World) :
    Calls Tryz.prog 103 #[.int .i64 n] w fun e w' => e = .returned (.int .i64 (dayErr n)) ∧ w = w' := by
  unfold dayErr
  by_cases h : n < 0 ∨ 100000 < n
  · rw [if_pos h]
    have HX := hide (fun w => outsideD_yes n 0 100000 w h)
    clear h
    go_enter Tryz.func103, Tryz.ntmps103
    go_wp2_with (go_at_call 102; refine (HX.out _).mono ?_; rintro e w' ⟨rfl, rfl⟩)
    go_ret
    exact ⟨rfl, rfl⟩
  · rw [if_neg h]
    have HX := hide (fun w => outsideD_no n 0 100000 w (by omega) (by omega))
    clear h
    go_enter Tryz.func103, Tryz.ntmps103
    go_wp2_with (go_at_call 102; refine (HX.out _).mono ?_; rintro e w' ⟨rfl, rfl⟩)
    go_ret
    exact ⟨rfl, rfl⟩

def ml0 : Array Value := #[.int .i64 31, .int .i64 28, .int .i64 31, .int .i64 30, .int .i64 31, .int .i64 30, .int .i64 31, .int .i64 31, .int .i64 30, .int .i64 31, .int .i64 30, .int .i64 31]

theorem ml0_at : ∀ i : Nat, i < 12 → ml0[i]? = some (.int .i64 (cumC (i + 2) - cumC (i + 1)))
  | 0, _ | 1, _ | 2, _ | 3, _ | 4, _ | 5, _ | 6, _ | 7, _ | 8, _ | 9, _ | 10, _ | 11, _ => rfl
  | _ + 12, h => by omega

theorem cumC_bd (m : Int) : 0 ≤ cumC m ∧ cumC m ≤ 365 := by unfold cumC; (repeat' split) <;> omega

/-- A day by a year, a month from 1 on, and a number. -/
def dateOfR (y m d : Int) : Int := num (y + (m - 1) / 12) ((m - 1) % 12 + 1) d

theorem dateOfR_in {y m d : Int} (h : 1 ≤ m) (h2 : m ≤ 12) : dateOfR y m d = num y m d := by
  unfold dateOfR
  rw [show (m - 1) / 12 = 0 by omega, show (m - 1) % 12 + 1 = m by omega, Int.add_zero]

theorem dateOfR_13 {y d : Int} : dateOfR y 13 d = num (y + 1) 1 d := by
  unfold dateOfR; rfl

set_option maxHeartbeats 3200000 in
set_option maxRecDepth 100000 in
theorem dateOf_gen (y m d : Int) (w : World) (hYb : 1000 ≤ y + (m - 1) / 12 ∧ y + (m - 1) / 12 ≤ 30000) (hy : 0 ≤ y) (hy2 : y ≤ 20000) (hm : -100000 ≤ m) (hm2 : m ≤ 100000) (hd : -1000000 ≤ d) (hd2 : d ≤ 1000000) :
    Calls Tryz.prog 199 #[.int .i64 y, .int .i64 m, .int .i64 d] w fun e w' => e = .returned (.int .i64 (dateOfR y m d)) ∧ Below w.heap.size w w' := by
  have hf := fun w => floor_any (m - 1) 12 w (by omega) (by omega) (by omega) (by omega)
  obtain ⟨k, hk, hk2⟩ : ∃ k : Nat, m - 12 * ((m - 1) / 12) = k + 1 ∧ k < 12 := ⟨(m - 12 * ((m - 1) / 12) - 1).toNat, by omega, by omega⟩
  have hr : dateOfR y m d = num (y + (m - 1) / 12) (k + 1) d := by unfold dateOfR; rw [show (m - 1) % 12 + 1 = k + 1 by omega]
  have hq : -10000 ≤ (m - 1) / 12 ∧ (m - 1) / 12 ≤ 10000 := by omega
  have hq2 : 12 * ((m - 1) / 12) ≤ m := by omega
  rw [hr]
  generalize (m - 1) / 12 = q at *
  generalize hRR : num (y + q) (k + 1) d = R
  have HRR := hide hRR
  clear hRR
  have HF := hide hf
  have HK := hide hk
  clear hf hk hr
  obtain ⟨q0, q1⟩ := hq
  go_enter Tryz.func199, Tryz.ntmps199
  go_upto_region 2 with (go_at_call 185; refine (HF.out _).mono ?_; rintro e w' ⟨rfl, rfl⟩)
  rw [HK.out]
  clear HK HF
  obtain ⟨Y0, Y1⟩ := hYb
  clear hy hy2 hm hm2 hq2
  generalize y + q = Y at *
  have i1 : (k : Int) < 12 := by omega
  have i2 : (0 : Int) ≤ (k : Int) := by omega
  have hydb : -12000000 ≤ yd Y ∧ yd Y ≤ 12000000 := by unfold yd; omega
  obtain ⟨yb0, yb1⟩ := hydb
  have HYD := hide (fun w => yearDay_any Y w Y0 (by omega))
  have HLP := hide (fun w => leapR_any Y w (by omega) (by omega))
  have hR : num Y (k + 1) d = yd Y + (cumC (k + 1) + if 3 ≤ (k : Int) + 1 then lp Y else 0) + d - 1 := rfl
  have HR := hide hR
  have hkb := cumC_bd (k + 1)
  have HKB := hide hkb
  clear hR hkb
  generalize yd Y = D at *
  go_upto_region 4 with (fail)
  have hB : Blk (w.alloc (.cells #[.int .i64 31, .int .i64 28, .int .i64 31, .int .i64 30, .int .i64 31, .int .i64 30, .int .i64 31, .int .i64 31, .int .i64 30, .int .i64 31, .int .i64 30, .int .i64 31] 3)) w.heap.size 3 ml0 := Blk.new w 3 ml0
  have hW : Below w.heap.size w (w.alloc (.cells #[.int .i64 31, .int .i64 28, .int .i64 31, .int .i64 30, .int .i64 31, .int .i64 30, .int .i64 31, .int .i64 31, .int .i64 30, .int .i64 31, .int .i64 30, .int .i64 31] 3)) := by repeat (first | exact Below.refl _ _ | refine bl_plus ?_ | refine bl_alloc ?_ _ | refine bl_drew ?_)
  generalize w.alloc (.cells #[.int .i64 31, .int .i64 28, .int .i64 31, .int .i64 30, .int .i64 31, .int .i64 30, .int .i64 31, .int .i64 31, .int .i64 30, .int .i64 31, .int .i64 30, .int .i64 31] 3) = W at hB hW ⊢
  generalize w.heap.size = g at hB ⊢
  have hcell : ∀ i : Nat, i < 12 → W.cell? ⟨g, i, none⟩ = some (.int .i64 (cumC (i + 2) - cumC (i + 1))) := fun i hi => (hB.cell i).trans (ml0_at i hi)
  have HC := hide hcell
  clear hcell hB
  go_wp2
  go_loop [7, 26] (fun n i => ∃ j : Nat, j ≤ k ∧ i = .int .i64 j ∧ n = .int .i64 (cumC (j + 1))) (fun _ i => k - (intOf i).toNat)
  case atStart => exact ⟨0, Nat.zero_le _, rfl, rfl⟩
  case round =>
    obtain ⟨j, hj, rfl, rfl⟩ := hrel
    by_cases hlt : j < k
    · have c1 := HC.out j (by omega)
      have b1 := cumC_bd (j + 1)
      have b2 := cumC_bd (j + 2)
      obtain ⟨b10, b11⟩ := b1
      obtain ⟨b20, b21⟩ := b2
      have he : cumC ((j : Int) + 2) = cumC (((j + 1 : Nat) : Int) + 1) := by first | rfl | (congr 1; omega)
      have HE := hide he
      clear he
      generalize cumC ((j : Int) + 1) = C at *
      generalize cumC ((j : Int) + 2) = C2 at *
      have i4 : (j : Int) < (k : Int) := by omega
      go_wp2
      go_round
      case rel => exact ⟨j + 1, by omega, by go_num, by rw [← HE.out]; exact congrArg (Value.int .i64) (by omega)⟩
      case measure => simp [intOf]; omega
    · have hjk : j = k := by omega
      subst hjk
      have i4 : ¬ (j : Int) < (j : Int) := by omega
      have b1 := HKB.out
      obtain ⟨b10, b11⟩ := b1
      generalize cumC ((j : Int) + 1) = C at *
      by_cases h3 : (3 : Int) ≤ (j : Int) + 1
      · have hr := HR.out
        rw [if_pos h3] at hr
        have HR2 := hide hr
        clear hr HR
        have i5 : (2 : Int) < (j : Int) + 1 := by omega
        rcases lp_01 Y with hl | hl
        all_goals
          rw [hl] at HR2 HLP
          simp only [Int.reduceEq, decide_false, decide_true] at HLP
          clear hl
          go_wp2_with (first | (go_at_call 239; refine (HLP.out _).mono ?_; rintro e w' ⟨rfl, rfl⟩) | (go_at_call 240; refine (HYD.out _).mono ?_; rintro e w' ⟨rfl, rfl⟩))
          go_ret
          refine ⟨?_, hW⟩
          rw [← HRR.out, HR2.out]
          exact ret_int (by omega)
      · have hr := HR.out
        rw [if_neg h3] at hr
        have HR2 := hide hr
        clear hr HR
        have i5 : ¬ (2 : Int) < (j : Int) + 1 := by omega
        go_wp2_with (first | (go_at_call 240; refine (HYD.out _).mono ?_; rintro e w' ⟨rfl, rfl⟩))
        go_ret
        refine ⟨?_, hW⟩
        rw [← HRR.out, HR2.out]
        exact ret_int (by omega)

theorem dateOf_any (y m d : Int) (w : World) (hy : 2001 ≤ y) (hy2 : y ≤ 20000) (hm : 1 ≤ m) (hm2 : m ≤ 100000) (hd : -1000000 ≤ d) (hd2 : d ≤ 1000000) :
    Calls Tryz.prog 199 #[.int .i64 y, .int .i64 m, .int .i64 d] w fun e w' => e = .returned (.int .i64 (dateOfR y m d)) ∧ Below w.heap.size w w' :=
  dateOf_gen y m d w (by omega) (by omega) hy2 (by omega) hm2 hd hd2

end Go.Proofs.YtjaoiehjhnmahaaGreatDoor
