/-
  WALKS: the program's calendar: the lengths of months, the day of a date.
-/
import Derived.Test.YtfnooipkghfmoaaDoorRows
import Derived.Test.YtfnooipkghfmoaaDoorCal
import Derived.Test.YtfnooipkghfmoaaDoorBlk
import Derived.WalkKit
import Derived.WalkSpells
import Derived.WalkLawsBesides
import Derived.Handy
import Derived.Test.YtfnooipkghfmoaaDoorInts
import Derived.Deep.DeepCutAuto
import Derived.Deep.RegionWith
import Derived.IntWalk
set_option linter.all false
namespace Go.Proofs.YtfnooipkghfmoaaDoor
open Go.RowKit Cal

def outB (n lo hi : Int) : Bool := decide (n < lo ∨ hi < n)

set_option maxHeartbeats 400000 in
theorem outsideP_any (n lo hi : Int) (w : World) :
    Calls Tryd.prog 13 #[.int .i64 n, .int .i64 lo, .int .i64 hi] w fun e w' => e = .returned (.bool (outB n lo hi)) ∧ w = w' := by
  by_cases h1 : n < lo
  · go_enter Tryd.func13, Tryd.ntmps13
    go_wp2
    go_ret
    exact ⟨by simp [outB, h1], rfl⟩
  · by_cases h2 : hi < n
    · go_enter Tryd.func13, Tryd.ntmps13
      go_wp2
      go_ret
      exact ⟨by simp [outB, h2], rfl⟩
    · go_enter Tryd.func13, Tryd.ntmps13
      go_wp2
      go_ret
      exact ⟨by simp [outB]; omega, rfl⟩
theorem outsideP_yes (n lo hi : Int) (w : World) (h : n < lo ∨ hi < n) :
    Calls Tryd.prog 13 #[.int .i64 n, .int .i64 lo, .int .i64 hi] w fun e w' => e = .returned (.bool true) ∧ w = w' :=
  (outsideP_any n lo hi w).mono fun _ _ ⟨he, hw⟩ => ⟨by rw [he]; simp [outB, h], hw⟩
theorem outsideP_no (n lo hi : Int) (w : World) (h1 : lo ≤ n) (h2 : n ≤ hi) :
    Calls Tryd.prog 13 #[.int .i64 n, .int .i64 lo, .int .i64 hi] w fun e w' => e = .returned (.bool false) ∧ w = w' :=
  (outsideP_any n lo hi w).mono fun _ _ ⟨he, hw⟩ => ⟨by rw [he]; simp [outB]; omega, hw⟩

def lens (y : Int) : Array Value := #[.int .i64 31, .int .i64 (28 + lp y), .int .i64 31, .int .i64 30, .int .i64 31, .int .i64 30, .int .i64 31, .int .i64 31, .int .i64 30, .int .i64 31, .int .i64 30, .int .i64 31]
theorem lens_at (y : Int) : ∀ i : Nat, i < 12 → (lens y)[i]? = some (.int .i64 (mlen y (i + 1)))
  | 0, _ | 1, _ | 2, _ | 3, _ | 4, _ | 5, _ | 6, _ | 7, _ | 8, _ | 9, _ | 10, _ | 11, _ => rfl
  | _ + 12, h => by omega

end Go.Proofs.YtfnooipkghfmoaaDoor
/-
  WALKS: the program's calendar: DayOf.
-/
namespace Go.Proofs.YtfnooipkghfmoaaDoor
open Go.RowKit Cal

def DayAtOut (r : Int × Bool) (w : World) (e : Ending) (w' : World) : Prop := e = .returned (.tuple #[.int .i64 r.1, .bool r.2]) ∧ Below w.heap.size w w'
def dayAtR (y m d : Int) : Int × Bool := if 1 ≤ m ∧ m ≤ 12 ∧ 1 ≤ d ∧ d ≤ mlen y m then (num y m d, true) else (0, false)

/-- What DayOf hands back. -/
def dayOfR (y m d : Int) : Int × Int := if 2001 ≤ y ∧ y ≤ 9999 ∧ 1 ≤ m ∧ m ≤ 12 ∧ 1 ≤ d ∧ d ≤ mlen y m ∧ num y m d ≤ 100000 then (num y m d, 0) else (0, 2)
theorem num_ge {y m d : Int} (hy : 2001 ≤ y) (h1 : 1 ≤ m) (h2 : m ≤ 12) (h3 : 1 ≤ d) : 0 ≤ num y m d := by
  have h0 := cum_mono (y := y) (m := 1) (n := m) (by omega) h1 (by omega)
  rw [cum_1] at h0
  have := yd_mono hy
  have e : yd 2001 = 0 := by decide
  unfold num
  omega

end Go.Proofs.YtfnooipkghfmoaaDoor
/-
  WALKS: the reference's calendar: the day of a year, a month and a number; small tests of days.
-/
namespace Go.Proofs.YtfnooipkghfmoaaDoor
open Go.RowKit Cal

set_option maxHeartbeats 800000 in
theorem floor_pos (a b : Int) (w : World) (ha : 0 ≤ a) (ha2 : a ≤ 1000000000) (hb : 0 < b) (hb2 : b ≤ 1000000) :
    Calls Tryd.prog 22 #[.int .i64 a, .int .i64 b] w fun e w' => e = .returned (.int .i64 (a / b)) ∧ w = w' := by
  have h1 : 0 ≤ a / b := Int.ediv_nonneg ha (by omega)
  have h2 : a / b ≤ a := Int.ediv_le_self _ ha
  have h3 : 0 ≤ a % b := Int.emod_nonneg _ (by omega)
  have h4 : a % b < b := Int.emod_lt_of_pos _ hb
  have h5 : (b == 0) = false := by simp; omega
  go_enter Tryd.func22, Tryd.ntmps22
  go_wp2
  go_ret
  exact ⟨rfl, rfl⟩

set_option maxHeartbeats 800000 in
theorem floor_neg (a b : Int) (w : World) (ha : a < 0) (ha2 : -1000000000 ≤ a) (hb : 0 < b) (hb2 : b ≤ 1000000) :
    Calls Tryd.prog 22 #[.int .i64 a, .int .i64 b] w fun e w' => e = .returned (.int .i64 (a / b)) ∧ w = w' := by
  have e1 : a.tdiv b = -((-a) / b) := by
    rw [← Int.tdiv_eq_ediv_of_nonneg (show 0 ≤ -a by omega), Int.neg_tdiv, Int.neg_neg]
  have e2 : a.tmod b = -((-a) % b) := by
    rw [← Int.tmod_eq_emod_of_nonneg (show 0 ≤ -a by omega), Int.neg_tmod, Int.neg_neg]
  have h3 : 0 ≤ (-a) % b := Int.emod_nonneg _ (by omega)
  have h4 : (-a) % b < b := Int.emod_lt_of_pos _ hb
  have h6 : b * ((-a) / b) + (-a) % b = -a := Int.mul_ediv_add_emod (-a) b
  have h7 : 0 ≤ (-a) / b := Int.ediv_nonneg (by omega) (by omega)
  have h8 : (-a) / b ≤ -a := Int.ediv_le_self _ (by omega)
  have hfl : a / b = if a.tmod b < 0 then a.tdiv b - 1 else a.tdiv b := by
    rw [e1, e2]
    generalize (-a) / b = q at *
    generalize (-a) % b = r at *
    split
    · rw [show a = b * (-q - 1) + (b - r) by rw [Int.mul_sub, Int.mul_neg]; omega, Int.mul_add_ediv_left _ _ (by omega), Int.ediv_eq_zero_of_lt (by omega) (by omega)]
      omega
    · rw [show a = b * (-q) by rw [Int.mul_neg]; omega, Int.mul_ediv_cancel_left _ (by omega)]
  have hqb : -1000000000 ≤ a.tdiv b ∧ a.tdiv b ≤ 0 := by rw [e1]; omega
  have h5 : (b == 0) = false := by simp; omega
  have HF := hide hfl
  obtain ⟨q1, q2⟩ := hqb
  have xx : ∀ T : Int, -1000000000 ≤ T → T ≤ 0 → IntKind.i64.wrap T = T ∧ IntKind.i64.wrap (T - 1) = T - 1 := fun T t1 t2 => ⟨IntWalk.i64_in _ (by omega), IntWalk.i64_in _ (by omega)⟩
  obtain ⟨x1, x2⟩ := xx _ q1 q2
  clear hfl e1 e2 h3 h4 h6 h7 h8 xx
  by_cases hlt : a.tmod b < 0
  · have HF2 := hide (HF.out.trans (if_pos hlt))
    go_enter Tryd.func22, Tryd.ntmps22
    go_wp2
    go_ret
    exact ⟨ret_int HF2.out.symm, rfl⟩
  · have HF2 := hide (HF.out.trans (if_neg hlt))
    go_enter Tryd.func22, Tryd.ntmps22
    go_wp2
    go_ret
    exact ⟨ret_int HF2.out.symm, rfl⟩
theorem floor_any (a b : Int) (w : World) (ha : -1000000000 ≤ a) (ha2 : a ≤ 1000000000) (hb : 0 < b) (hb2 : b ≤ 1000000) :
    Calls Tryd.prog 22 #[.int .i64 a, .int .i64 b] w fun e w' => e = .returned (.int .i64 (a / b)) ∧ w = w' := by
  by_cases h : 0 ≤ a
  · exact floor_pos a b w h ha2 hb hb2
  · exact floor_neg a b w (by omega) ha hb hb2

set_option maxHeartbeats 800000 in
theorem isDay_any (n : Int) (w : World) :
    Calls Tryd.prog 56 #[.int .i64 n] w fun e w' => e = .returned (.bool (decide (0 ≤ n ∧ n ≤ 100000))) ∧ w = w' := by
  by_cases h1 : 0 ≤ n
  · go_enter Tryd.func56, Tryd.ntmps56
    go_wp2
    go_ret
    exact ⟨ret_bool (by simp [h1]), rfl⟩
  · go_enter Tryd.func56, Tryd.ntmps56
    go_wp2
    go_ret
    exact ⟨ret_bool (by simp; omega), rfl⟩
theorem isDay_yes (n : Int) (w : World) (h : 0 ≤ n) (h2 : n ≤ 100000) :
    Calls Tryd.prog 56 #[.int .i64 n] w fun e w' => e = .returned (.bool true) ∧ w = w' :=
  (isDay_any n w).mono fun _ _ ⟨he, hw⟩ => ⟨by rw [he, decide_eq_true (And.intro h h2)], hw⟩
theorem isDay_no (n : Int) (w : World) (h : n < 0 ∨ 100000 < n) :
    Calls Tryd.prog 56 #[.int .i64 n] w fun e w' => e = .returned (.bool false) ∧ w = w' :=
  (isDay_any n w).mono fun _ _ ⟨he, hw⟩ => ⟨by rw [he, decide_eq_false (by omega)], hw⟩

def ml0 : Array Value := #[.int .i64 31, .int .i64 28, .int .i64 31, .int .i64 30, .int .i64 31, .int .i64 30, .int .i64 31, .int .i64 31, .int .i64 30, .int .i64 31, .int .i64 30, .int .i64 31]
theorem ml0_at : ∀ i : Nat, i < 12 → ml0[i]? = some (.int .i64 (cumC (i + 2) - cumC (i + 1)))
  | 0, _ | 1, _ | 2, _ | 3, _ | 4, _ | 5, _ | 6, _ | 7, _ | 8, _ | 9, _ | 10, _ | 11, _ => rfl
  | _ + 12, h => by omega
theorem cumC_bd (m : Int) : 0 ≤ cumC m ∧ cumC m ≤ 365 := by unfold cumC; (repeat' split) <;> omega

/-- A day by a year, a month from 1 on, and a number. -/
def dateOfR (y m d : Int) : Int := num (y + (m - 1) / 12) ((m - 1) % 12 + 1) d
theorem dateOfR_in {y m d : Int} (h : 1 ≤ m) (h2 : m ≤ 12) : dateOfR y m d = num y m d := by
  unfold dateOfR
  rw [show (m - 1) / 12 = 0 by omega, show (m - 1) % 12 + 1 = m by omega, Int.add_zero]
theorem dateOfR_13 {y d : Int} : dateOfR y 13 d = num (y + 1) 1 d := by
  unfold dateOfR; rfl

end Go.Proofs.YtfnooipkghfmoaaDoor
