/-
  WALKS: the reference's calendar: the day of a year, a month and a number; small tests of days.
-/
import Derived.Test.YtpbkidjbbhkjnaaDoorDayB
import Derived.IntWalk
namespace Go.Proofs.YtpbkidjbbhkjnaaDoor
open Go.RowKit Cal

set_option maxHeartbeats 800000 in
theorem floor_pos (a b : Int) (w : World) (ha : 0 ≤ a) (ha2 : a ≤ 1000000000) (hb : 0 < b) (hb2 : b ≤ 1000000) :
    Calls Tryd.prog 35 #[.int .i64 a, .int .i64 b] w fun e w' => e = .returned (.int .i64 (a / b)) ∧ w = w' := by
  have h1 : 0 ≤ a / b := Int.ediv_nonneg ha (by omega)
  have h2 : a / b ≤ a := Int.ediv_le_self _ ha
  have h3 : 0 ≤ a % b := Int.emod_nonneg _ (by omega)
  have h4 : a % b < b := Int.emod_lt_of_pos _ hb
  have h5 : (b == 0) = false := by simp; omega
  go_enter Tryd.func35, Tryd.ntmps35
  go_wp2
  go_ret
  exact ⟨rfl, rfl⟩

set_option maxHeartbeats 800000 in
theorem floor_neg (a b : Int) (w : World) (ha : a < 0) (ha2 : -1000000000 ≤ a) (hb : 0 < b) (hb2 : b ≤ 1000000) :
    Calls Tryd.prog 35 #[.int .i64 a, .int .i64 b] w fun e w' => e = .returned (.int .i64 (a / b)) ∧ w = w' := by
  have e1 : a.tdiv b = -((-a) / b) := by
    rw [← Int.tdiv_eq_ediv_of_nonneg (show 0 ≤ -a by omega), Int.neg_tdiv, Int.neg_neg]
  have e2 : a.tmod b = -((-a) % b) := by
    rw [← Int.tmod_eq_emod_of_nonneg (show 0 ≤ -a by omega), Int.neg_tmod, Int.neg_neg]
  have h3 : 0 ≤ (-a) % b := Int.emod_nonneg _ (by omega)
  have h4 : (-a) % b < b := Int.emod_lt_of_pos _ hb
  have h6 : b * ((-a) / b) + (-a) % b = -a := Int.mul_ediv_add_emod (-a) b
  have h7 : 0 ≤ (-a) / b := Int.ediv_nonneg (by omega) (by omega)
  have h8 : (-a) / b ≤ -a := Int.ediv_le_self _ (by omega)
  have hfl : a / b = if a.tmod b < 0 then a.tdiv b - 1 else a.tdiv b := by
    rw [e1, e2]
    generalize (-a) / b = q at *
    generalize (-a) % b = r at *
    split
    · rw [show a = b * (-q - 1) + (b - r) by rw [Int.mul_sub, Int.mul_neg]; omega, Int.mul_add_ediv_left _ _ (by omega), Int.ediv_eq_zero_of_lt (by omega) (by omega)]
      omega
    · rw [show a = b * (-q) by rw [Int.mul_neg]; omega, Int.mul_ediv_cancel_left _ (by omega)]
  have hqb : -1000000000 ≤ a.tdiv b ∧ a.tdiv b ≤ 0 := by rw [e1]; omega
  have h5 : (b == 0) = false := by simp; omega
  have HF := hide hfl
  obtain ⟨q1, q2⟩ := hqb
  have xx : ∀ T : Int, -1000000000 ≤ T → T ≤ 0 → IntKind.i64.wrap T = T ∧ IntKind.i64.wrap (T - 1) = T - 1 := fun T t1 t2 => ⟨IntWalk.i64_in _ (by omega), IntWalk.i64_in _ (by omega)⟩
  obtain ⟨x1, x2⟩ := xx _ q1 q2
  clear hfl e1 e2 h3 h4 h6 h7 h8 xx
  by_cases hlt : a.tmod b < 0
  · have HF2 := hide (HF.out.trans (if_pos hlt))
    go_enter Tryd.func35, Tryd.ntmps35
    go_wp2
    go_ret
    exact ⟨ret_int HF2.out.symm, rfl⟩
  · have HF2 := hide (HF.out.trans (if_neg hlt))
    go_enter Tryd.func35, Tryd.ntmps35
    go_wp2
    go_ret
    exact ⟨ret_int HF2.out.symm, rfl⟩
theorem floor_any (a b : Int) (w : World) (ha : -1000000000 ≤ a) (ha2 : a ≤ 1000000000) (hb : 0 < b) (hb2 : b ≤ 1000000) :
    Calls Tryd.prog 35 #[.int .i64 a, .int .i64 b] w fun e w' => e = .returned (.int .i64 (a / b)) ∧ w = w' := by
  by_cases h : 0 ≤ a
  · exact floor_pos a b w h ha2 hb hb2
  · exact floor_neg a b w (by omega) ha hb hb2

set_option maxHeartbeats 800000 in
theorem isDay_any (n : Int) (w : World) :
    Calls Tryd.prog 65 #[.int .i64 n] w fun e w' => e = .returned (.bool (decide (0 ≤ n ∧ n ≤ 100000))) ∧ w = w' := by
  by_cases h1 : 0 ≤ n
  · go_enter Tryd.func65, Tryd.ntmps65
    go_wp2
    go_ret
    exact ⟨ret_bool (by simp [h1]), rfl⟩
  · go_enter Tryd.func65, Tryd.ntmps65
    go_wp2
    go_ret
    exact ⟨ret_bool (by simp; omega), rfl⟩
theorem isDay_yes (n : Int) (w : World) (h : 0 ≤ n) (h2 : n ≤ 100000) :
    Calls Tryd.prog 65 #[.int .i64 n] w fun e w' => e = .returned (.bool true) ∧ w = w' :=
  (isDay_any n w).mono fun _ _ ⟨he, hw⟩ => ⟨by rw [he, decide_eq_true (And.intro h h2)], hw⟩
theorem isDay_no (n : Int) (w : World) (h : n < 0 ∨ 100000 < n) :
    Calls Tryd.prog 65 #[.int .i64 n] w fun e w' => e = .returned (.bool false) ∧ w = w' :=
  (isDay_any n w).mono fun _ _ ⟨he, hw⟩ => ⟨by rw [he, decide_eq_false (by omega)], hw⟩

def ml0 : Array Value := #[.int .i64 31, .int .i64 28, .int .i64 31, .int .i64 30, .int .i64 31, .int .i64 30, .int .i64 31, .int .i64 31, .int .i64 30, .int .i64 31, .int .i64 30, .int .i64 31]
theorem ml0_at : ∀ i : Nat, i < 12 → ml0[i]? = some (.int .i64 (cumC (i + 2) - cumC (i + 1)))
  | 0, _ | 1, _ | 2, _ | 3, _ | 4, _ | 5, _ | 6, _ | 7, _ | 8, _ | 9, _ | 10, _ | 11, _ => rfl
  | _ + 12, h => by omega
theorem cumC_bd (m : Int) : 0 ≤ cumC m ∧ cumC m ≤ 365 := by unfold cumC; (repeat' split) <;> omega

/-- A day by a year, a month from 1 on, and a number. -/
def dateOfR (y m d : Int) : Int := num (y + (m - 1) / 12) ((m - 1) % 12 + 1) d
theorem dateOfR_in {y m d : Int} (h : 1 ≤ m) (h2 : m ≤ 12) : dateOfR y m d = num y m d := by
  unfold dateOfR
  rw [show (m - 1) / 12 = 0 by omega, show (m - 1) % 12 + 1 = m by omega, Int.add_zero]
theorem dateOfR_13 {y d : Int} : dateOfR y 13 d = num (y + 1) 1 d := by
  unfold dateOfR; rfl

end Go.Proofs.YtpbkidjbbhkjnaaDoor
