/-
  WALKS: the reference's calendar: the day of a year, a month and a number; small tests of days.
-/
import Derived.Test.YtdncmjlakmkfiaaGreatDoorDayB
import Derived.IntWalk
import Derived.Test.YtdncmjlakmkfiaaGreatDoorLayA
import Derived.Lib.ItoaMem
set_option linter.all false
namespace Go.Proofs.YtdncmjlakmkfiaaGreatDoor
open Go.RowKit Cal

set_option maxHeartbeats 800000 in
theorem floor_pos (a b : Int) (w : World) (ha : 0 ≤ a) (ha2 : a ≤ 1000000000) (hb : 0 < b) (hb2 : b ≤ 1000000) :
    Calls Tryz.prog 201 #[.int .i64 a, .int .i64 b] w fun e w' => e = .returned (.int .i64 (a / b)) ∧ w = w' := by
  have h1 : 0 ≤ a / b := Int.ediv_nonneg ha (by omega)
  have h2 : a / b ≤ a := Int.ediv_le_self _ ha
  have h3 : 0 ≤ a % b := Int.emod_nonneg _ (by omega)
  have h4 : a % b < b := Int.emod_lt_of_pos _ hb
  have h5 : (b == 0) = false := by simp; omega
  go_enter Tryz.func201, Tryz.ntmps201
  go_wp2
  go_ret
  exact ⟨rfl, rfl⟩

set_option maxHeartbeats 800000 in
theorem floor_neg (a b : Int) (w : World) (ha : a < 0) (ha2 : -1000000000 ≤ a) (hb : 0 < b) (hb2 : b ≤ 1000000) :
    Calls Tryz.prog 201 #[.int .i64 a, .int .i64 b] w fun e w' => e = .returned (.int .i64 (a / b)) ∧ w = w' := by
  have e1 : a.tdiv b = -((-a) / b) := by
    rw [← Int.tdiv_eq_ediv_of_nonneg (show 0 ≤ -a by omega), Int.neg_tdiv, Int.neg_neg]
  have e2 : a.tmod b = -((-a) % b) := by
    rw [← Int.tmod_eq_emod_of_nonneg (show 0 ≤ -a by omega), Int.neg_tmod, Int.neg_neg]
  have h3 : 0 ≤ (-a) % b := Int.emod_nonneg _ (by omega)
  have h4 : (-a) % b < b := Int.emod_lt_of_pos _ hb
  have h6 : b * ((-a) / b) + (-a) % b = -a := Int.mul_ediv_add_emod (-a) b
  have h7 : 0 ≤ (-a) / b := Int.ediv_nonneg (by omega) (by omega)
  have h8 : (-a) / b ≤ -a := Int.ediv_le_self _ (by omega)
  have hfl : a / b = if a.tmod b < 0 then a.tdiv b - 1 else a.tdiv b := by
    rw [e1, e2]
    generalize (-a) / b = q at *
    generalize (-a) % b = r at *
    split
    · rw [show a = b * (-q - 1) + (b - r) by rw [Int.mul_sub, Int.mul_neg]; omega, Int.mul_add_ediv_left _ _ (by omega), Int.ediv_eq_zero_of_lt (by omega) (by omega)]
      omega
    · rw [show a = b * (-q) by rw [Int.mul_neg]; omega, Int.mul_ediv_cancel_left _ (by omega)]
  have hqb : -1000000000 ≤ a.tdiv b ∧ a.tdiv b ≤ 0 := by rw [e1]; omega
  have h5 : (b == 0) = false := by simp; omega
  have HF := hide hfl
  obtain ⟨q1, q2⟩ := hqb
  have xx : ∀ T : Int, -1000000000 ≤ T → T ≤ 0 → IntKind.i64.wrap T = T ∧ IntKind.i64.wrap (T - 1) = T - 1 := fun T t1 t2 => ⟨IntWalk.i64_in _ (by omega), IntWalk.i64_in _ (by omega)⟩
  obtain ⟨x1, x2⟩ := xx _ q1 q2
  clear hfl e1 e2 h3 h4 h6 h7 h8 xx
  by_cases hlt : a.tmod b < 0
  · have HF2 := hide (HF.out.trans (if_pos hlt))
    go_enter Tryz.func201, Tryz.ntmps201
    go_wp2
    go_ret
    exact ⟨ret_int HF2.out.symm, rfl⟩
  · have HF2 := hide (HF.out.trans (if_neg hlt))
    go_enter Tryz.func201, Tryz.ntmps201
    go_wp2
    go_ret
    exact ⟨ret_int HF2.out.symm, rfl⟩

theorem floor_any (a b : Int) (w : World) (ha : -1000000000 ≤ a) (ha2 : a ≤ 1000000000) (hb : 0 < b) (hb2 : b ≤ 1000000) :
    Calls Tryz.prog 201 #[.int .i64 a, .int .i64 b] w fun e w' => e = .returned (.int .i64 (a / b)) ∧ w = w' := by
  by_cases h : 0 ≤ a
  · exact floor_pos a b w h ha2 hb hb2
  · exact floor_neg a b w (by omega) ha hb hb2

set_option maxHeartbeats 800000 in
theorem leapR_any (y : Int) (w : World) (hy : 0 ≤ y) (hy2 : y ≤ 100000) :
    Calls Tryz.prog 202 #[.int .i64 y] w fun e w' => e = .returned (.bool (decide (lp y = 1))) ∧ w = w' := by
  have hc : ((y % 4 == 0) = false ∧ decide (lp y = 1) = false) ∨ (y % 4 = 0 ∧ (y % 100 != 0) = true ∧ decide (lp y = 1) = true) ∨ (y % 4 = 0 ∧ (y % 100 != 0) = false ∧ (y % 400 == 0) = true ∧ decide (lp y = 1) = true) ∨ (y % 4 = 0 ∧ (y % 100 != 0) = false ∧ (y % 400 == 0) = false ∧ decide (lp y = 1) = false) := by
    unfold lp
    by_cases h4 : y % 4 = 0
    · by_cases h1 : y % 100 = 0
      · by_cases h0 : y % 400 = 0
        · exact .inr (.inr (.inl ⟨h4, by simp [h1], by simp [h0], by simp [h4, h0]⟩))
        · exact .inr (.inr (.inr ⟨h4, by simp [h1], by simp [h0], by simp [h1, h0]⟩))
      · exact .inr (.inl ⟨h4, by simp [h1], by simp [h4, h1]⟩)
    · exact .inl ⟨by simp [h4], by simp [h4]⟩
  generalize decide (lp y = 1) = r at hc ⊢
  rcases hc with ⟨h1, rfl⟩ | ⟨h1, h2, rfl⟩ | ⟨h1, h2, h3, rfl⟩ | ⟨h1, h2, h3, rfl⟩
  all_goals
    go_enter Tryz.func202, Tryz.ntmps202
    go_wp2
    go_ret
    exact ⟨by simp [*], rfl⟩

set_option maxHeartbeats 800000 in
theorem yearDay_any (y : Int) (w : World) (hy : 1000 ≤ y) (hy2 : y ≤ 100000) :
    Calls Tryz.prog 203 #[.int .i64 y] w fun e w' => e = .returned (.int .i64 (yd y)) ∧ w = w' := by
  go_enter Tryz.func203, Tryz.ntmps203
  go_wp2_with (go_at_call 201; refine (floor_any _ _ _ (by omega) (by omega) (by omega) (by omega)).mono ?_; rintro e w' ⟨rfl, rfl⟩)
  go_ret
  exact ⟨ret_int (by unfold yd; omega), rfl⟩

set_option maxHeartbeats 800000 in
theorem isDay_any (n : Int) (w : World) :
    Calls Tryz.prog 65 #[.int .i64 n] w fun e w' => e = .returned (.bool (decide (0 ≤ n ∧ n ≤ 100000))) ∧ w = w' := by
  by_cases h1 : 0 ≤ n
  · go_enter Tryz.func65, Tryz.ntmps65
    go_wp2
    go_ret
    exact ⟨ret_bool (by simp [h1]), rfl⟩
  · go_enter Tryz.func65, Tryz.ntmps65
    go_wp2
    go_ret
    exact ⟨ret_bool (by simp; omega), rfl⟩

theorem isDay_yes (n : Int) (w : World) (h : 0 ≤ n) (h2 : n ≤ 100000) :
    Calls Tryz.prog 65 #[.int .i64 n] w fun e w' => e = .returned (.bool true) ∧ w = w' :=
  (isDay_any n w).mono fun _ _ ⟨he, hw⟩ => ⟨by rw [he, decide_eq_true (And.intro h h2)], hw⟩

theorem isDay_no (n : Int) (w : World) (h : n < 0 ∨ 100000 < n) :
    Calls Tryz.prog 65 #[.int .i64 n] w fun e w' => e = .returned (.bool false) ∧ w = w' :=
  (isDay_any n w).mono fun _ _ ⟨he, hw⟩ => ⟨by rw [he, decide_eq_false (by omega)], hw⟩

def dayErr (n : Int) : Int := if n < 0 ∨ 100000 < n then 2 else 0

def ml0 : Array Value := #[.int .i64 31, .int .i64 28, .int .i64 31, .int .i64 30, .int .i64 31, .int .i64 30, .int .i64 31, .int .i64 31, .int .i64 30, .int .i64 31, .int .i64 30, .int .i64 31]

theorem ml0_at : ∀ i : Nat, i < 12 → ml0[i]? = some (.int .i64 (cumC (i + 2) - cumC (i + 1)))
  | 0, _ | 1, _ | 2, _ | 3, _ | 4, _ | 5, _ | 6, _ | 7, _ | 8, _ | 9, _ | 10, _ | 11, _ => rfl
  | _ + 12, h => by omega

theorem cumC_bd (m : Int) : 0 ≤ cumC m ∧ cumC m ≤ 365 := by unfold cumC; (repeat' split) <;> omega

/-- A day by a year, a month from 1 on, and a number. -/
def dateOfR (y m d : Int) : Int := num (y + (m - 1) / 12) ((m - 1) % 12 + 1) d

theorem dateOfR_in {y m d : Int} (h : 1 ≤ m) (h2 : m ≤ 12) : dateOfR y m d = num y m d := by
  unfold dateOfR
  rw [show (m - 1) / 12 = 0 by omega, show (m - 1) % 12 + 1 = m by omega, Int.add_zero]

theorem dateOfR_13 {y d : Int} : dateOfR y 13 d = num (y + 1) 1 d := by
  unfold dateOfR; rfl

set_option maxHeartbeats 3200000 in
set_option maxRecDepth 100000 in
theorem dateOf_gen (y m d : Int) (w : World) (hYb : 1000 ≤ y + (m - 1) / 12 ∧ y + (m - 1) / 12 ≤ 30000) (hy : 0 ≤ y) (hy2 : y ≤ 20000) (hm : -100000 ≤ m) (hm2 : m ≤ 100000) (hd : -1000000 ≤ d) (hd2 : d ≤ 1000000) :
    Calls Tryz.prog 163 #[.int .i64 y, .int .i64 m, .int .i64 d] w fun e w' => e = .returned (.int .i64 (dateOfR y m d)) ∧ Below w.heap.size w w' := by
  have hf := fun w => floor_any (m - 1) 12 w (by omega) (by omega) (by omega) (by omega)
  obtain ⟨k, hk, hk2⟩ : ∃ k : Nat, m - 12 * ((m - 1) / 12) = k + 1 ∧ k < 12 := ⟨(m - 12 * ((m - 1) / 12) - 1).toNat, by omega, by omega⟩
  have hr : dateOfR y m d = num (y + (m - 1) / 12) (k + 1) d := by unfold dateOfR; rw [show (m - 1) % 12 + 1 = k + 1 by omega]
  have hq : -10000 ≤ (m - 1) / 12 ∧ (m - 1) / 12 ≤ 10000 := by omega
  have hq2 : 12 * ((m - 1) / 12) ≤ m := by omega
  rw [hr]
  generalize (m - 1) / 12 = q at *
  generalize hRR : num (y + q) (k + 1) d = R
  have HRR := hide hRR
  clear hRR
  have HF := hide hf
  have HK := hide hk
  clear hf hk hr
  obtain ⟨q0, q1⟩ := hq
  go_enter Tryz.func163, Tryz.ntmps163
  go_upto_region 2 with (go_at_call 201; refine (HF.out _).mono ?_; rintro e w' ⟨rfl, rfl⟩)
  rw [HK.out]
  clear HK HF
  obtain ⟨Y0, Y1⟩ := hYb
  clear hy hy2 hm hm2 hq2
  generalize y + q = Y at *
  have i1 : (k : Int) < 12 := by omega
  have i2 : (0 : Int) ≤ (k : Int) := by omega
  have hydb : -12000000 ≤ yd Y ∧ yd Y ≤ 12000000 := by unfold yd; omega
  obtain ⟨yb0, yb1⟩ := hydb
  have HYD := hide (fun w => yearDay_any Y w Y0 (by omega))
  have HLP := hide (fun w => leapR_any Y w (by omega) (by omega))
  have hR : num Y (k + 1) d = yd Y + (cumC (k + 1) + if 3 ≤ (k : Int) + 1 then lp Y else 0) + d - 1 := rfl
  have HR := hide hR
  have hkb := cumC_bd (k + 1)
  have HKB := hide hkb
  clear hR hkb
  generalize yd Y = D at *
  go_upto_region 4 with (fail)
  have hB : Blk (w.alloc (.cells #[.int .i64 31, .int .i64 28, .int .i64 31, .int .i64 30, .int .i64 31, .int .i64 30, .int .i64 31, .int .i64 31, .int .i64 30, .int .i64 31, .int .i64 30, .int .i64 31] 3)) w.heap.size 3 ml0 := Blk.new w 3 ml0
  have hW : Below w.heap.size w (w.alloc (.cells #[.int .i64 31, .int .i64 28, .int .i64 31, .int .i64 30, .int .i64 31, .int .i64 30, .int .i64 31, .int .i64 31, .int .i64 30, .int .i64 31, .int .i64 30, .int .i64 31] 3)) := by repeat (first | exact Below.refl _ _ | refine bl_plus ?_ | refine bl_alloc ?_ _ | refine bl_drew ?_)
  generalize w.alloc (.cells #[.int .i64 31, .int .i64 28, .int .i64 31, .int .i64 30, .int .i64 31, .int .i64 30, .int .i64 31, .int .i64 31, .int .i64 30, .int .i64 31, .int .i64 30, .int .i64 31] 3) = W at hB hW ⊢
  generalize w.heap.size = g at hB ⊢
  have hcell : ∀ i : Nat, i < 12 → W.cell? ⟨g, i, none⟩ = some (.int .i64 (cumC (i + 2) - cumC (i + 1))) := fun i hi => (hB.cell i).trans (ml0_at i hi)
  have HC := hide hcell
  clear hcell hB
  go_wp2
  go_loop [7, 26] (fun n i => ∃ j : Nat, j ≤ k ∧ i = .int .i64 j ∧ n = .int .i64 (cumC (j + 1))) (fun _ i => k - (intOf i).toNat)
  case atStart => exact ⟨0, Nat.zero_le _, rfl, rfl⟩
  case round =>
    obtain ⟨j, hj, rfl, rfl⟩ := hrel
    by_cases hlt : j < k
    · have c1 := HC.out j (by omega)
      have b1 := cumC_bd (j + 1)
      have b2 := cumC_bd (j + 2)
      obtain ⟨b10, b11⟩ := b1
      obtain ⟨b20, b21⟩ := b2
      have he : cumC ((j : Int) + 2) = cumC (((j + 1 : Nat) : Int) + 1) := by first | rfl | (congr 1; omega)
      have HE := hide he
      clear he
      generalize cumC ((j : Int) + 1) = C at *
      generalize cumC ((j : Int) + 2) = C2 at *
      have i4 : (j : Int) < (k : Int) := by omega
      go_wp2
      go_round
      case rel => exact ⟨j + 1, by omega, by go_num, by rw [← HE.out]; exact congrArg (Value.int .i64) (by omega)⟩
      case measure => simp [intOf]; omega
    · have hjk : j = k := by omega
      subst hjk
      have i4 : ¬ (j : Int) < (j : Int) := by omega
      have b1 := HKB.out
      obtain ⟨b10, b11⟩ := b1
      generalize cumC ((j : Int) + 1) = C at *
      by_cases h3 : (3 : Int) ≤ (j : Int) + 1
      · have hr := HR.out
        rw [if_pos h3] at hr
        have HR2 := hide hr
        clear hr HR
        have i5 : (2 : Int) < (j : Int) + 1 := by omega
        rcases lp_01 Y with hl | hl
        all_goals
          rw [hl] at HR2 HLP
          simp only [Int.reduceEq, decide_false, decide_true] at HLP
          clear hl
          go_wp2_with (first | (go_at_call 202; refine (HLP.out _).mono ?_; rintro e w' ⟨rfl, rfl⟩) | (go_at_call 203; refine (HYD.out _).mono ?_; rintro e w' ⟨rfl, rfl⟩))
          go_ret
          refine ⟨?_, hW⟩
          rw [← HRR.out, HR2.out]
          exact ret_int (by omega)
      · have hr := HR.out
        rw [if_neg h3] at hr
        have HR2 := hide hr
        clear hr HR
        have i5 : ¬ (2 : Int) < (j : Int) + 1 := by omega
        go_wp2_with (first | (go_at_call 203; refine (HYD.out _).mono ?_; rintro e w' ⟨rfl, rfl⟩))
        go_ret
        refine ⟨?_, hW⟩
        rw [← HRR.out, HR2.out]
        exact ret_int (by omega)

theorem dateOf_any (y m d : Int) (w : World) (hy : 2001 ≤ y) (hy2 : y ≤ 20000) (hm : 1 ≤ m) (hm2 : m ≤ 100000) (hd : -1000000 ≤ d) (hd2 : d ≤ 1000000) :
    Calls Tryz.prog 163 #[.int .i64 y, .int .i64 m, .int .i64 d] w fun e w' => e = .returned (.int .i64 (dateOfR y m d)) ∧ Below w.heap.size w w' :=
  dateOf_gen y m d w (by omega) (by omega) hy2 (by omega) hm2 hd hd2

end Go.Proofs.YtdncmjlakmkfiaaGreatDoor
/-
  WALKS: the reference's calendar: a day's year, month and number; the week; the day of a date.
-/
namespace Go.Proofs.YtdncmjlakmkfiaaGreatDoor
open Go.RowKit Cal

theorem parts_steps (d : Int) : ∃ row n y k m : Int, row = (d + 730791) / 146097 ∧ n = d + 730791 - 146097 * row ∧ y = (n - n / 1460 + n / 36524 - n / 146096) / 365 ∧ k = n - (365 * y + y / 4 - y / 100) ∧ m = (5 * k + 2) / 153 ∧
    0 ≤ n ∧ n < 146097 ∧ 0 ≤ y ∧ y < 400 ∧ 0 ≤ k ∧ k ≤ 365 ∧ 0 ≤ m ∧ m ≤ 11 ∧
    parts d = if 12 < m + 3 then ⟨400 * row + y + 1, m + 3 - 12, k - (153 * m + 2) / 5 + 1⟩ else ⟨400 * row + y, m + 3, k - (153 * m + 2) / 5 + 1⟩ := by
  obtain ⟨row, hrow⟩ : ∃ r, r = (d + 730791) / 146097 := ⟨_, rfl⟩
  obtain ⟨n, hn⟩ : ∃ r, r = d + 730791 - 146097 * row := ⟨_, rfl⟩
  have n0 : 0 ≤ n := by omega
  have n1 : n < 146097 := by omega
  obtain ⟨y, hy⟩ : ∃ r, r = (n - n / 1460 + n / 36524 - n / 146096) / 365 := ⟨_, rfl⟩
  have hyo := yoe n n0 n1
  rw [← hy] at hyo
  obtain ⟨y0, y1, y2, y3⟩ := hyo
  obtain ⟨k, hk⟩ : ∃ k, k = n - (365 * y + y / 4 - y / 100) := ⟨_, rfl⟩
  have k0 : 0 ≤ k := by unfold doe at y2; omega
  have k1 : k ≤ 365 := by
    unfold doe at y2 y3
    rcases y3 with y3 | ⟨h, y3⟩
    · omega
    · rw [h] at hk; omega
  obtain ⟨m, hm⟩ : ∃ m, m = (5 * k + 2) / 153 := ⟨_, rfl⟩
  refine ⟨row, n, y, k, m, hrow, hn, hy, hk, hm, n0, n1, y0, y1, k0, k1, by omega, by omega, ?_⟩
  clear n0 n1 y0 y1 y2 y3 k0 k1
  subst hm hk hy hn hrow
  rfl

set_option maxHeartbeats 1600000 in
set_option maxRecDepth 100000 in
theorem parts_any (d : Int) (w : World) (h0 : -700000 ≤ d) (h1 : d ≤ 10000000) :
    Calls Tryz.prog 204 #[.int .i64 d] w fun e w' => e = .returned (.tuple #[.int .i64 (parts d).y, .int .i64 (parts d).m, .int .i64 (parts d).d]) ∧ w = w' := by
  obtain ⟨row, n, y, k, m, hrow, hn, hy, hk, hm, n0, n1, y0, y1, k0, k1, m0, m1, hP⟩ := parts_steps d
  have hr : 0 ≤ row ∧ row ≤ 100 := by omega
  obtain ⟨r0, r1⟩ := hr
  have hf := fun w => floor_pos (d + 730791) 146097 w (by omega) (by omega) (by omega) (by omega)
  rw [← hrow] at hf
  have HF := hide hf
  have HN := hide hn.symm
  have HY := hide hy.symm
  have HK := hide hk.symm
  have HM := hide hm.symm
  have HP := hide hP
  clear hrow hn hy hk hm hP hf
  go_enter Tryz.func204, Tryz.ntmps204
  go_upto_region 4 with (go_at_call 201; refine (HF.out _).mono ?_; rintro e w' ⟨rfl, rfl⟩)
  rw [HN.out]
  go_upto_region 5 with (fail)
  rw [HY.out]
  go_upto_region 6 with (fail)
  rw [HK.out]
  go_upto_region 7 with (fail)
  rw [HM.out]
  by_cases hmb : 12 < m + 3
  · have HP2 := hide (HP.out.trans (if_pos hmb))
    go_wp2
    go_ret3
    rw [HP2.out]
    exact ⟨rfl, rfl⟩
  · have HP2 := hide (HP.out.trans (if_neg hmb))
    go_wp2
    go_ret3
    rw [HP2.out]
    exact ⟨rfl, rfl⟩

theorem num_ok (d : Int) : (parts d).ok ∧ (parts d).num = d := parts_ok d

/-- The year of a day. -/
theorem parts_year (d : Int) : yd (parts d).y ≤ d ∧ d < yd ((parts d).y + 1) := by
  have h := num_in (parts_ok d).1
  rw [(parts_ok d).2] at h
  exact ⟨h.1, h.2.1⟩

theorem year_bd {d : Int} (h0 : 0 ≤ d) (h1 : d ≤ 200000) : 2001 ≤ (parts d).y ∧ (parts d).y ≤ 2600 := by
  have h := parts_year d
  unfold yd at h
  omega

set_option maxHeartbeats 800000 in
theorem number_any (d : Int) (w : World) (h0 : -700000 ≤ d) (h1 : d ≤ 10000000) :
    Calls Tryz.prog 165 #[.int .i64 d] w fun e w' => e = .returned (.int .i64 (parts d).d) ∧ w = w' := by
  have HP := hide (fun w => parts_any d w h0 h1)
  generalize parts d = P at *
  go_enter Tryz.func165, Tryz.ntmps165
  go_wp2_with (go_at_call 204; refine (HP.out _).mono ?_; rintro e w' ⟨rfl, rfl⟩)
  go_ret
  exact ⟨rfl, rfl⟩

/-- The week of a day: its Thursday's year, and how many weeks this has had. -/
def thuR (d : Int) : Int := d - d % 7 + 3

def weekR (d : Int) : Int × Int := ((parts (thuR d)).y, (thuR d - yd (parts (thuR d)).y) / 7 + 1)

set_option maxHeartbeats 800000 in
theorem dayOfRef_any (n : Int) (w : World) :
    Calls Tryz.prog 164 #[.int .i64 n] w fun e w' => e = .returned (.tuple #[.int .i64 n, .bool (decide (0 ≤ n ∧ n ≤ 100000))]) ∧ w = w' := by
  have H := hide (fun w => isDay_any n w)
  generalize decide (0 ≤ n ∧ n ≤ 100000) = b at *
  go_enter Tryz.func164, Tryz.ntmps164
  go_wp2_with (go_at_call 65; refine (H.out _).mono ?_; rintro e w' ⟨rfl, rfl⟩)
  go_ret2
  exact ⟨rfl, rfl⟩

/-! ### DayFrom -/

theorem num_next {y m : Int} (h1 : 1 ≤ m) (h2 : m ≤ 12) (d : Int) : num y m d = if m = 12 then num (y + 1) 1 (d - mlen y m) else num y (m + 1) (d - mlen y m) := by
  have hs := cum_succ (y := y) h1 h2
  split
  · rename_i h
    subst h
    have hy := yd_succ y
    rw [show cum y (12 + 1) = 365 + lp y from cum_13 y] at hs
    unfold num
    rw [cum_1]
    omega
  · unfold num
    omega

theorem number_bad {y m d : Int} (h1 : 1 ≤ m) (h2 : m ≤ 12) (h3 : mlen y m < d) (h4 : d ≤ 31) : (parts (num y m d)).d = d - mlen y m := by
  have hb := mlen_bd y m
  rw [num_next h1 h2]
  split
  · have hb2 := mlen_bd (y + 1) 1
    have := parts_num (a := ⟨y + 1, 1, d - mlen y m⟩) ⟨by show (1 : Int) ≤ 1; omega, by show (1 : Int) ≤ 12; omega, by show 1 ≤ d - mlen y m; omega, by show d - mlen y m ≤ mlen (y + 1) 1; omega⟩
    simp only [Date.num] at this
    rw [this]
  · have hb2 := mlen_bd y (m + 1)
    have := parts_num (a := ⟨y, m + 1, d - mlen y m⟩) ⟨by show 1 ≤ m + 1; omega, by show m + 1 ≤ 12; omega, by show 1 ≤ d - mlen y m; omega, by show d - mlen y m ≤ mlen y (m + 1); omega⟩
    simp only [Date.num] at this
    rw [this]

theorem number_good {y m d : Int} (h1 : 1 ≤ m) (h2 : m ≤ 12) (h3 : 1 ≤ d) (h4 : d ≤ mlen y m) : (parts (num y m d)).d = d := by
  have := parts_num (a := ⟨y, m, d⟩) ⟨h1, h2, h3, h4⟩
  simp only [Date.num] at this
  rw [this]

theorem dayOfR_late {y m d : Int} (h : 2300 < y) : dayOfR y m d = (0, 2) := by
  refine if_neg (fun hh => ?_)
  obtain ⟨a1, a2, a3, a4, a5, a6, a7⟩ := hh
  have h0 := cum_mono (y := y) (m := 1) (n := m) (by omega) a3 (by omega)
  rw [cum_1] at h0
  have : 100000 < yd y := by unfold yd; omega
  unfold num at a7
  omega

set_option maxHeartbeats 3200000 in
theorem dayFrom_any (y m d : Int) (w : World) :
    Calls Tryz.prog 114 #[.int .i64 y, .int .i64 m, .int .i64 d] w (DayOfOut (dayOfR y m d) w) := by
  by_cases hin : 2001 ≤ y ∧ y ≤ 2300 ∧ 1 ≤ m ∧ m ≤ 12 ∧ 1 ≤ d ∧ d ≤ 31
  · obtain ⟨a1, a2, a3, a4, a5, a6⟩ := hin
    have hdo := fun w => dateOf_any y m d w a1 (by omega) a3 (by omega) (by omega) (by omega)
    rw [dateOfR_in a3 a4] at hdo
    have hge := num_ge a1 a3 a4 a5
    have hml := mlen_bd y m
    have hcum := cum_mono (y := y) (m := m) (n := 13) a3 (by omega) (by omega)
    rw [cum_13] at hcum
    have hlp := lp_01 y
    have hle : num y m d ≤ 200000 := by
      have : yd y ≤ 110000 := by unfold yd; omega
      unfold num
      omega
    have hnum : (parts (num y m d)).d = if d ≤ mlen y m then d else d - mlen y m := by
      split
      · exact number_good a3 a4 a5 (by assumption)
      · exact number_bad a3 a4 (by omega) a6
    have hR : dayOfR y m d = if d ≤ mlen y m ∧ num y m d ≤ 100000 then (num y m d, 0) else (0, 2) := by
      unfold dayOfR
      by_cases h : d ≤ mlen y m ∧ num y m d ≤ 100000
      · rw [if_pos h, if_pos ⟨a1, by omega, a3, a4, a5, h.1, h.2⟩]
      · rw [if_neg h, if_neg (fun hh => h ⟨hh.2.2.2.2.2.1, hh.2.2.2.2.2.2⟩)]
    rw [hR]
    have hnb := fun w => number_any (num y m d) w (by omega) (by omega)
    rw [hnum] at hnb
    have hdr := fun w => dayOfRef_any (num y m d) w
    generalize mlen y m = L at *
    generalize num y m d = N at *
    have HDO := hide hdo
    clear hdo hR hnum hcum
    by_cases hL : d ≤ L
    · rw [if_pos hL] at hnb
      have HNB := hide hnb
      by_cases hN : N ≤ 100000
      · rw [decide_eq_true ⟨hge, hN⟩] at hdr
        have HDR := hide hdr
        rw [if_pos ⟨hL, hN⟩]
        clear hnb hdr
        go_enter Tryz.func114, Tryz.ntmps114
        go_wp2_with (first | (go_at_call 163; refine (HDO.out _).mono ?_; rintro e w' ⟨rfl, hb⟩; obtain ⟨os1, n1, rfl⟩ := below_plus hb; clear hb) | (go_at_call 164; refine (HDR.out _).mono ?_; rintro e w' ⟨rfl, rfl⟩) | (go_at_call 165; refine (HNB.out _).mono ?_; rintro e w' ⟨rfl, rfl⟩))
        go_ret2
        exact ⟨rfl, (by repeat (first | exact Below.refl _ _ | refine bl_plus ?_ | refine bl_alloc ?_ _ | refine bl_drew ?_))⟩
      · rw [decide_eq_false (fun h => hN h.2)] at hdr
        have HDR := hide hdr
        rw [if_neg (fun h => hN h.2)]
        clear hnb hdr
        go_enter Tryz.func114, Tryz.ntmps114
        go_wp2_with (first | (go_at_call 163; refine (HDO.out _).mono ?_; rintro e w' ⟨rfl, hb⟩; obtain ⟨os1, n1, rfl⟩ := below_plus hb; clear hb) | (go_at_call 164; refine (HDR.out _).mono ?_; rintro e w' ⟨rfl, rfl⟩) | (go_at_call 165; refine (HNB.out _).mono ?_; rintro e w' ⟨rfl, rfl⟩))
        go_ret2
        exact ⟨rfl, (by repeat (first | exact Below.refl _ _ | refine bl_plus ?_ | refine bl_alloc ?_ _ | refine bl_drew ?_))⟩
    · rw [if_neg hL] at hnb
      have HNB := hide hnb
      generalize decide (0 ≤ N ∧ N ≤ 100000) = b at hdr
      have HDR := hide hdr
      rw [if_neg (fun h => hL h.1)]
      have hne : ((d - L : Int) != d) = true := bne_iff_ne.2 (by omega)
      have hne2 : ¬ (d - L = d) := by omega
      clear hnb hdr
      go_enter Tryz.func114, Tryz.ntmps114
      go_wp2_with (first | (go_at_call 163; refine (HDO.out _).mono ?_; rintro e w' ⟨rfl, hb⟩; obtain ⟨os1, n1, rfl⟩ := below_plus hb; clear hb) | (go_at_call 164; refine (HDR.out _).mono ?_; rintro e w' ⟨rfl, rfl⟩) | (go_at_call 165; refine (HNB.out _).mono ?_; rintro e w' ⟨rfl, rfl⟩))
      go_ret2
      exact ⟨rfl, (by repeat (first | exact Below.refl _ _ | refine bl_plus ?_ | refine bl_alloc ?_ _ | refine bl_drew ?_))⟩
  · have hR : dayOfR y m d = (0, 2) := by
      by_cases hy : 2300 < y
      · exact dayOfR_late hy
      · refine if_neg (fun hh => hin ⟨hh.1, by omega, hh.2.2.1, hh.2.2.2.1, hh.2.2.2.2.1, ?_⟩)
        have := mlen_bd y m
        have := hh.2.2.2.2.2.1
        omega
    rw [hR]
    have hc : y < 2001 ∨ (2001 ≤ y ∧ 2300 < y) ∨ (2001 ≤ y ∧ y ≤ 2300 ∧ m < 1) ∨ (2001 ≤ y ∧ y ≤ 2300 ∧ 1 ≤ m ∧ 12 < m) ∨ (2001 ≤ y ∧ y ≤ 2300 ∧ 1 ≤ m ∧ m ≤ 12 ∧ d < 1) ∨ (2001 ≤ y ∧ y ≤ 2300 ∧ 1 ≤ m ∧ m ≤ 12 ∧ 1 ≤ d ∧ 31 < d) := by omega
    clear hR hin
    rcases hc with h | ⟨h1, h⟩ | ⟨h1, h2, h⟩ | ⟨h1, h2, h3, h⟩ | ⟨h1, h2, h3, h4, h⟩ | ⟨h1, h2, h3, h4, h5, h⟩
    all_goals
      go_enter Tryz.func114, Tryz.ntmps114
      go_wp2
      go_ret2
      exact ⟨rfl, Below.refl _ _⟩

end Go.Proofs.YtdncmjlakmkfiaaGreatDoor
/-
  WALKS: the program's date of a day, its week; so many months later, in the program and in the reference.
-/
namespace Go.Proofs.YtdncmjlakmkfiaaGreatDoor
open Go.RowKit Cal
attribute [local go_sem high] run_min_i

theorem lens_size (y : Int) : (lens y).size = 12 := rfl

theorem run_lens0 (x : Int) (w : World) : (Instr.index 263 (.agg #[.int .i64 31, .int .i64 x, .int .i64 31, .int .i64 30, .int .i64 31, .int .i64 30, .int .i64 31, .int .i64 31, .int .i64 30, .int .i64 31, .int .i64 30, .int .i64 31]) (.int .i64 0)).run Tryz.prog w = .ok (.int .i64 31) w := by kernel_rfl

theorem run_lens1 (x : Int) (w : World) : (Instr.index 263 (.agg #[.int .i64 31, .int .i64 x, .int .i64 31, .int .i64 30, .int .i64 31, .int .i64 30, .int .i64 31, .int .i64 31, .int .i64 30, .int .i64 31, .int .i64 30, .int .i64 31]) (.int .i64 1)).run Tryz.prog w = .ok (.int .i64 x) w := by kernel_rfl

theorem run_lens2 (x : Int) (w : World) : (Instr.index 263 (.agg #[.int .i64 31, .int .i64 x, .int .i64 31, .int .i64 30, .int .i64 31, .int .i64 30, .int .i64 31, .int .i64 31, .int .i64 30, .int .i64 31, .int .i64 30, .int .i64 31]) (.int .i64 2)).run Tryz.prog w = .ok (.int .i64 31) w := by kernel_rfl

theorem run_lens3 (x : Int) (w : World) : (Instr.index 263 (.agg #[.int .i64 31, .int .i64 x, .int .i64 31, .int .i64 30, .int .i64 31, .int .i64 30, .int .i64 31, .int .i64 31, .int .i64 30, .int .i64 31, .int .i64 30, .int .i64 31]) (.int .i64 3)).run Tryz.prog w = .ok (.int .i64 30) w := by kernel_rfl

theorem run_lens4 (x : Int) (w : World) : (Instr.index 263 (.agg #[.int .i64 31, .int .i64 x, .int .i64 31, .int .i64 30, .int .i64 31, .int .i64 30, .int .i64 31, .int .i64 31, .int .i64 30, .int .i64 31, .int .i64 30, .int .i64 31]) (.int .i64 4)).run Tryz.prog w = .ok (.int .i64 31) w := by kernel_rfl

theorem run_lens5 (x : Int) (w : World) : (Instr.index 263 (.agg #[.int .i64 31, .int .i64 x, .int .i64 31, .int .i64 30, .int .i64 31, .int .i64 30, .int .i64 31, .int .i64 31, .int .i64 30, .int .i64 31, .int .i64 30, .int .i64 31]) (.int .i64 5)).run Tryz.prog w = .ok (.int .i64 30) w := by kernel_rfl

theorem run_lens6 (x : Int) (w : World) : (Instr.index 263 (.agg #[.int .i64 31, .int .i64 x, .int .i64 31, .int .i64 30, .int .i64 31, .int .i64 30, .int .i64 31, .int .i64 31, .int .i64 30, .int .i64 31, .int .i64 30, .int .i64 31]) (.int .i64 6)).run Tryz.prog w = .ok (.int .i64 31) w := by kernel_rfl

theorem run_lens7 (x : Int) (w : World) : (Instr.index 263 (.agg #[.int .i64 31, .int .i64 x, .int .i64 31, .int .i64 30, .int .i64 31, .int .i64 30, .int .i64 31, .int .i64 31, .int .i64 30, .int .i64 31, .int .i64 30, .int .i64 31]) (.int .i64 7)).run Tryz.prog w = .ok (.int .i64 31) w := by kernel_rfl

theorem run_lens8 (x : Int) (w : World) : (Instr.index 263 (.agg #[.int .i64 31, .int .i64 x, .int .i64 31, .int .i64 30, .int .i64 31, .int .i64 30, .int .i64 31, .int .i64 31, .int .i64 30, .int .i64 31, .int .i64 30, .int .i64 31]) (.int .i64 8)).run Tryz.prog w = .ok (.int .i64 30) w := by kernel_rfl

theorem run_lens9 (x : Int) (w : World) : (Instr.index 263 (.agg #[.int .i64 31, .int .i64 x, .int .i64 31, .int .i64 30, .int .i64 31, .int .i64 30, .int .i64 31, .int .i64 31, .int .i64 30, .int .i64 31, .int .i64 30, .int .i64 31]) (.int .i64 9)).run Tryz.prog w = .ok (.int .i64 31) w := by kernel_rfl

theorem run_lens10 (x : Int) (w : World) : (Instr.index 263 (.agg #[.int .i64 31, .int .i64 x, .int .i64 31, .int .i64 30, .int .i64 31, .int .i64 30, .int .i64 31, .int .i64 31, .int .i64 30, .int .i64 31, .int .i64 30, .int .i64 31]) (.int .i64 10)).run Tryz.prog w = .ok (.int .i64 30) w := by kernel_rfl

theorem run_lens11 (x : Int) (w : World) : (Instr.index 263 (.agg #[.int .i64 31, .int .i64 x, .int .i64 31, .int .i64 30, .int .i64 31, .int .i64 30, .int .i64 31, .int .i64 31, .int .i64 30, .int .i64 31, .int .i64 30, .int .i64 31]) (.int .i64 11)).run Tryz.prog w = .ok (.int .i64 31) w := by kernel_rfl

theorem run_lens (y : Int) : ∀ (k : Nat), k < 12 → ∀ w, (Instr.index 263 (.agg (lens y)) (.int .i64 k)).run Tryz.prog w = .ok (.int .i64 (mlen y (k + 1))) w
  | 0, _, w => run_lens0 _ w
  | 1, _, w => run_lens1 _ w
  | 2, _, w => run_lens2 _ w
  | 3, _, w => run_lens3 _ w
  | 4, _, w => run_lens4 _ w
  | 5, _, w => run_lens5 _ w
  | 6, _, w => run_lens6 _ w
  | 7, _, w => run_lens7 _ w
  | 8, _, w => run_lens8 _ w
  | 9, _, w => run_lens9 _ w
  | 10, _, w => run_lens10 _ w
  | 11, _, w => run_lens11 _ w
  | k + 12, h, _ => by omega

theorem year_guess {d : Int} (h : 0 ≤ d) : yd (2001 + d / 366) ≤ d := by unfold yd; omega

theorem parts_is {d y m : Int} (h1 : 1 ≤ m) (h2 : m ≤ 12) (h3 : 0 ≤ d - yd y - cum y m) (h4 : d - yd y - cum y m < mlen y m) : parts d = ⟨y, m, d - yd y - cum y m + 1⟩ := by
  have h := parts_num (a := ⟨y, m, d - yd y - cum y m + 1⟩) ⟨h1, h2, by show 1 ≤ d - yd y - cum y m + 1; omega, by show d - yd y - cum y m + 1 ≤ mlen y m; omega⟩
  have e : Date.num ⟨y, m, d - yd y - cum y m + 1⟩ = d := by
    show num y m (d - yd y - cum y m + 1) = d
    unfold num; omega
  rwa [e] at h

def Parts3 (P : Date) (w : World) (e : Ending) (w' : World) : Prop := e = .returned (.tuple #[.int .i64 P.y, .int .i64 P.m, .int .i64 P.d]) ∧ Below w.heap.size w w'

end Go.Proofs.YtdncmjlakmkfiaaGreatDoor
/-
  WALKS: the program's week of a day; so many months later, in the program and in the reference.
-/
namespace Go.Proofs.YtdncmjlakmkfiaaGreatDoor
open Go.RowKit Cal
attribute [local go_sem high] run_min_i

def Three (a b c : Int) (w : World) (e : Ending) (w' : World) : Prop := e = .returned (.tuple #[.int .i64 a, .int .i64 b, .int .i64 c]) ∧ Below w.heap.size w w'

/-! ### So many months later -/

def monM (d n : Int) : Int := 12 * (parts d).y + (parts d).m - 1 + n

def monD (d n : Int) : Int := num (monM d n / 12) (monM d n % 12 + 1) (min (parts d).d (mlen (monM d n / 12) (monM d n % 12 + 1)))

def monthsR (d n : Int) : Int × Int := if (0 ≤ d ∧ d ≤ 100000) ∧ (-5000 ≤ n ∧ n ≤ 5000) ∧ 0 ≤ monD d n ∧ monD d n ≤ 100000 then (monD d n, 0) else (0, 2)

theorem year_top {d : Int} (h0 : 0 ≤ d) (h1 : d ≤ 100000) : 2001 ≤ (parts d).y ∧ (parts d).y ≤ 2275 := by
  have h := parts_year d
  unfold yd at h
  omega

/-- A date of a year before 2001 lies before day 0; its last day too. -/
theorem num_early {y m d : Int} (hy : y ≤ 2000) (h1 : 1 ≤ m) (h2 : m ≤ 12) (h3 : d ≤ mlen y m) : num y m d < 0 := by
  have hs := cum_succ (y := y) h1 h2
  have h13 := cum_mono (y := y) (m := m + 1) (n := 13) (by omega) (by omega) (by omega)
  rw [cum_13] at h13
  have hyy := yd_succ y
  have hm := yd_mono (show y + 1 ≤ 2001 by omega)
  have e : yd 2001 = 0 := by decide
  unfold num
  omega

theorem num_late {y m d : Int} (hy : 2300 < y) (h1 : 1 ≤ m) (h2 : m ≤ 13) (h3 : 1 ≤ d) : 100000 < num y m d := by
  have h0 := cum_mono (y := y) (m := 1) (n := m) (by omega) h1 h2
  rw [cum_1] at h0
  have : 100000 < yd y := by unfold yd; omega
  unfold num
  omega

theorem months_of_dayOf {d n : Int} (h0 : 0 ≤ d) (h1 : d ≤ 100000) (hM0 : 24012 ≤ monM d n) (hM1 : monM d n / 12 ≤ 9999) :
    dayOfR (monM d n / 12) (monM d n % 12 + 1) (min (parts d).d (mlen (monM d n / 12) (monM d n % 12 + 1))) = monthsR d n := by
  obtain ⟨p1, p2, p3, p4⟩ := (parts_ok d).1
  have hy := year_top h0 h1
  have hml := mlen_bd (monM d n / 12) (monM d n % 12 + 1)
  have hge : 0 ≤ monD d n := num_ge (by omega) (by omega) (by omega) (by omega)
  have hmin : 1 ≤ min (parts d).d (mlen (monM d n / 12) (monM d n % 12 + 1)) ∧ min (parts d).d (mlen (monM d n / 12) (monM d n % 12 + 1)) ≤ mlen (monM d n / 12) (monM d n % 12 + 1) := by omega
  by_cases hn : n ≤ 5000
  · by_cases hD : monD d n ≤ 100000
    · have hnn : -5000 ≤ n := by unfold monM at hM0; omega
      rw [monthsR, if_pos ⟨⟨h0, h1⟩, ⟨hnn, hn⟩, hge, hD⟩]
      exact if_pos ⟨by omega, hM1, by omega, by omega, hmin.1, hmin.2, hD⟩
    · rw [monthsR, if_neg (fun h => hD h.2.2.2)]
      exact if_neg (fun h => hD h.2.2.2.2.2.2)
  · rw [monthsR, if_neg (fun h => hn h.2.1.2)]
    exact dayOfR_late (by unfold monM; omega)

theorem months_early {d n : Int} (hM0 : monM d n < 24012) : monthsR d n = (0, 2) := by
  refine if_neg (fun h => ?_)
  have := num_early (y := monM d n / 12) (m := monM d n % 12 + 1) (d := min (parts d).d (mlen (monM d n / 12) (monM d n % 12 + 1))) (by omega) (by omega) (by omega) (by omega)
  have h2 := h.2.2.1
  unfold monD at h2
  omega

theorem months_far {d n : Int} (h0 : 0 ≤ d) (h1 : d ≤ 100000) (hM1 : 9999 < monM d n / 12) : monthsR d n = (0, 2) := by
  refine if_neg (fun h => ?_)
  have hy := year_top h0 h1
  obtain ⟨p1, p2, p3, p4⟩ := (parts_ok d).1
  have := h.2.1.2
  unfold monM at hM1
  omega

theorem months_out {d n : Int} (h : d < 0 ∨ 100000 < d ∨ n < -5000 ∨ 5000 < n) : monthsR d n = (0, 2) := if_neg (fun hh => by omega)

end Go.Proofs.YtdncmjlakmkfiaaGreatDoor
/-
  WALKS: dates as text, in the program and in the reference.
-/
namespace Go.Proofs.YtdncmjlakmkfiaaGreatDoor
open Go.RowKit Cal
attribute [local go_sem high] run_max_i run_min_i

theorem ret_str {a b : ByteArray} (h : a = b) : Ending.returned (.string a) = .returned (.string b) := by rw [h]

/-! ### Digits -/

def p2 (n : Nat) : List UInt8 := [UInt8.ofNat (48 + n / 10), UInt8.ofNat (48 + n % 10)]

def p4 (n : Nat) : List UInt8 := [UInt8.ofNat (48 + n / 1000), UInt8.ofNat (48 + n / 100 % 10), UInt8.ofNat (48 + n / 10 % 10), UInt8.ofNat (48 + n % 10)]

theorem dec_two {n : Nat} (h : n < 100) (h1 : ¬ n < 10) : Lib.decDigits n = p2 n := Lib.decDigits_two h1 h

theorem dec_one {n : Nat} (h : n < 10) : (48 : UInt8) :: Lib.decDigits n = p2 n := by
  rw [Lib.decDigits_one h, p2, show n / 10 = 0 by omega, show n % 10 = n by omega]
  rfl

theorem dec_four {n : Nat} (h : 1000 ≤ n) (h1 : n < 10000) : Lib.decDigits n = p4 n := by
  rw [Lib.decDigits, dif_neg (by omega), Lib.decDigits, dif_neg (by omega), Lib.decDigits_two (by omega) (by omega)]
  simp only [List.cons_append, List.nil_append, p4, Nat.div_div_eq_div_mul, Nat.reduceMul]

/-- A date as text. -/
def dateS (P : Date) : ByteArray := ⟨(p4 P.y.toNat).toArray⟩ ++ ⟨#[45]⟩ ++ ⟨(p2 P.m.toNat).toArray⟩ ++ ⟨#[45]⟩ ++ ⟨(p2 P.d.toNat).toArray⟩

theorem gPow : Tryz.prog.globalNamed powName = some 5 := by kernel_rfl

theorem powTab_below {w w' : World} (h : PowTab w) (hb : Below w.heap.size w w') : PowTab w' := by
  unfold PowTab Lib.TabIs at *
  unfold World.var? at *
  rw [gPow] at *
  simp only [Option.bind_some] at *
  have hlt : 5 < w.heap.size := by
    rcases Nat.lt_or_ge 5 w.heap.size with hh | hh
    · exact hh
    · rw [Array.getElem?_eq_none hh] at h; cases h
  rw [hb.block _ hlt]
  exact h

end Go.Proofs.YtdncmjlakmkfiaaGreatDoor
