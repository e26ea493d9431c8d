/-
  PLAIN: the calendar: the days of years and months, a day's date, that a date is known by its day; no program in sight.
-/
import Derived.RowKit
import Derived.Test.YtioppoaijehicaaGreatDoorRows
import Derived.Test.YtioppoaijehicaaGreatDoorBlk
import Derived.WalkKit
import Derived.WalkSpells
import Derived.WalkLawsBesides
import Derived.Handy
import Derived.Test.YtioppoaijehicaaGreatDoorInts
import Derived.Deep.DeepCutAuto
import Derived.Deep.RegionWith
import Derived.IntWalk
set_option linter.all false
namespace Go.Proofs.YtioppoaijehicaaGreatDoor
namespace Cal

/-- One day more in a leap year. -/
def lp (y : Int) : Int := if y % 4 = 0 ∧ (y % 100 ≠ 0 ∨ y % 400 = 0) then 1 else 0

def yd (y : Int) : Int := 365 * (y - 2001) + ((y - 1) / 4 - 500) - ((y - 1) / 100 - 20) + ((y - 1) / 400 - 5)

theorem yd_succ (y : Int) : yd (y + 1) = yd y + 365 + lp y := by
  unfold yd lp
  split <;> omega

def doe (y : Int) : Int := 365 * y + y / 4 - y / 100

theorem yoe (n : Int) (h0 : 0 ≤ n) (h1 : n < 146097) : 0 ≤ (n - n / 1460 + n / 36524 - n / 146096) / 365 ∧ (n - n / 1460 + n / 36524 - n / 146096) / 365 < 400 ∧ doe ((n - n / 1460 + n / 36524 - n / 146096) / 365) ≤ n ∧
    (n < doe ((n - n / 1460 + n / 36524 - n / 146096) / 365 + 1) ∨ ((n - n / 1460 + n / 36524 - n / 146096) / 365 = 399 ∧ n ≤ doe 400)) := by
  by_cases hl : n = 146096
  · subst hl; decide
  have hd : n / 146096 = 0 := by omega
  rw [hd]
  obtain ⟨c, hc⟩ : ∃ c, c = n / 36524 := ⟨_, rfl⟩
  obtain ⟨q, hq⟩ : ∃ q, q = (n - 36524 * c) / 1461 := ⟨_, rfl⟩
  obtain ⟨r, hr⟩ : ∃ r, r = n - 36524 * c - 1461 * q := ⟨_, rfl⟩
  have b1 : 0 ≤ c ∧ c ≤ 3 := by omega
  have b2 : 0 ≤ q ∧ q ≤ 24 := by omega
  have b3 : 0 ≤ r ∧ r < 1461 := by omega
  have b4 : q = 24 → r < 1460 := by omega
  have hn : n = 36524 * c + 1461 * q + r := by omega
  clear hq hr
  obtain ⟨e, he⟩ : ∃ e, e = (24 * c + q + r) / 1460 := ⟨_, rfl⟩
  have h6 : n / 1460 = 25 * c + q + e := by omega
  have be : e = 0 ∨ e = 1 := by omega
  rw [h6, ← hc]
  obtain ⟨t, ht⟩ : ∃ t, t = (r - e) / 365 := ⟨_, rfl⟩
  have hy : (n - (25 * c + q + e) + c - 0) / 365 = 100 * c + 4 * q + t := by omega
  have bt : 0 ≤ t ∧ t ≤ 3 := by omega
  rw [hy]
  have h4 : (100 * c + 4 * q + t) / 4 = 25 * c + q := by omega
  have h5 : (100 * c + 4 * q + t) / 100 = c := by omega
  unfold doe
  rw [h4, h5]
  refine ⟨by omega, by omega, by omega, ?_⟩
  by_cases h3 : t = 3
  · subst h3
    have h7 : (100 * c + 4 * q + 3 + 1) / 4 = 25 * c + q + 1 := by omega
    rw [h7]
    by_cases h24 : q = 24
    · subst h24
      have : (100 * c + 4 * 24 + 3 + 1) / 100 = c + 1 := by omega
      rw [this]
      left; omega
    · have : (100 * c + 4 * q + 3 + 1) / 100 = c := by omega
      rw [this]
      left; omega
  · have h7 : (100 * c + 4 * q + t + 1) / 4 = 25 * c + q := by omega
    have : (100 * c + 4 * q + t + 1) / 100 = c := by omega
    rw [h7, this]
    left; omega

/-- The days of a year before a month (13: the whole year). -/
def cumC (m : Int) : Int :=
  if m ≤ 1 then 0 else if m = 2 then 31 else if m = 3 then 59 else if m = 4 then 90 else if m = 5 then 120 else if m = 6 then 151 else if m = 7 then 181 else if m = 8 then 212 else if m = 9 then 243 else if m = 10 then 273 else if m = 11 then 304 else if m = 12 then 334 else 365

def cum (y m : Int) : Int := cumC m + if 3 ≤ m then lp y else 0

def mlen (y m : Int) : Int := if m = 2 then 28 + lp y else if m = 4 ∨ m = 6 ∨ m = 9 ∨ m = 11 then 30 else 31

def num (y m d : Int) : Int := yd y + cum y m + d - 1

structure Date where
  y : Int
  m : Int
  d : Int

def Date.ok (a : Date) : Prop := 1 ≤ a.m ∧ a.m ≤ 12 ∧ 1 ≤ a.d ∧ a.d ≤ mlen a.y a.m

def Date.num (a : Date) : Int := Cal.num a.y a.m a.d

theorem month_cases {m : Int} (h : 1 ≤ m) (h' : m ≤ 12) : m = 1 ∨ m = 2 ∨ m = 3 ∨ m = 4 ∨ m = 5 ∨ m = 6 ∨ m = 7 ∨ m = 8 ∨ m = 9 ∨ m = 10 ∨ m = 11 ∨ m = 12 := by omega

theorem lp_01 (y : Int) : lp y = 0 ∨ lp y = 1 := by unfold lp; split <;> simp

theorem cum_succ {y m : Int} (h : 1 ≤ m) (h' : m ≤ 12) : cum y (m + 1) = cum y m + mlen y m := by
  rcases month_cases h h' with rfl | rfl | rfl | rfl | rfl | rfl | rfl | rfl | rfl | rfl | rfl | rfl <;> simp [cum, cumC, mlen] <;> omega

theorem mlen_bd (y m : Int) : 28 ≤ mlen y m ∧ mlen y m ≤ 31 := by
  have := lp_01 y
  unfold mlen; (repeat' split) <;> omega

theorem cum_monoN {y m : Int} (h : 1 ≤ m) : ∀ k : Nat, m + k ≤ 13 → cum y m ≤ cum y (m + k)
  | 0, _ => by simp
  | k + 1, hk => by
    have := cum_monoN (y := y) h k (by omega)
    have h2 := cum_succ (y := y) (m := m + k) (by omega) (by omega)
    have h3 := mlen_bd y (m + k)
    have e : m + ((k + 1 : Nat) : Int) = m + k + 1 := by omega
    rw [e]
    omega

theorem cum_mono {y m n : Int} (h : 1 ≤ m) (hmn : m ≤ n) (h' : n ≤ 13) : cum y m ≤ cum y n := by
  have := cum_monoN (y := y) h (n - m).toNat (by omega)
  rwa [show m + ((n - m).toNat : Int) = n by omega] at this

theorem cum_1 (y : Int) : cum y 1 = 0 := by simp [cum, cumC]

theorem cum_13 (y : Int) : cum y 13 = 365 + lp y := by simp [cum, cumC]

theorem yd_mono {a b : Int} (h : a ≤ b) : yd a ≤ yd b := by unfold yd; omega

theorem num_in {a : Date} (h : a.ok) : yd a.y ≤ a.num ∧ a.num < yd (a.y + 1) ∧ cum a.y a.m ≤ a.num - yd a.y ∧ a.num - yd a.y < cum a.y (a.m + 1) := by
  obtain ⟨h1, h2, h3, h4⟩ := h
  have hs := cum_succ (y := a.y) h1 h2
  have h0 := cum_mono (y := a.y) (m := 1) (n := a.m) (by omega) h1 (by omega)
  have h9 := cum_mono (y := a.y) (m := a.m + 1) (n := 13) (by omega) (by omega) (by omega)
  rw [cum_1] at h0
  rw [cum_13] at h9
  rw [yd_succ]
  unfold Date.num num
  omega

theorem num_inj {a b : Date} (ha : a.ok) (hb : b.ok) (h : a.num = b.num) : a = b := by
  obtain ⟨a1, a2, a3, a4⟩ := num_in ha
  obtain ⟨b1, b2, b3, b4⟩ := num_in hb
  obtain ⟨y, m, d⟩ := a
  obtain ⟨y', m', d'⟩ := b
  obtain ⟨p1, p2, p3, p4⟩ := ha
  obtain ⟨q1, q2, q3, q4⟩ := hb
  simp only at *
  have hy : y = y' := by
    rcases Int.lt_trichotomy y y' with hl | hl | hl
    · have := yd_mono (a := y + 1) (b := y') (by omega); omega
    · exact hl
    · have := yd_mono (a := y' + 1) (b := y) (by omega); omega
  subst hy
  have hm : m = m' := by
    rcases Int.lt_trichotomy m m' with hl | hl | hl
    · have := cum_mono (y := y) (m := m + 1) (n := m') (by omega) (by omega) (by omega); omega
    · exact hl
    · have := cum_mono (y := y) (m := m' + 1) (n := m) (by omega) (by omega) (by omega); omega
  subst hm
  unfold Date.num num at h
  simp only at h
  have : d = d' := by omega
  subst this
  rfl

/-- The reference's parts of a day. -/
def partsY (n : Int) : Int := (n - n / 1460 + n / 36524 - n / 146096) / 365

def parts (d : Int) : Date :=
  let row := (d + 730791) / 146097
  let n := d + 730791 - 146097 * row
  let y := partsY n
  let k := n - (365 * y + y / 4 - y / 100)
  let m := (5 * k + 2) / 153
  if 12 < m + 3 then ⟨400 * row + y + 1, m + 3 - 12, k - (153 * m + 2) / 5 + 1⟩ else ⟨400 * row + y, m + 3, k - (153 * m + 2) / 5 + 1⟩

theorem parts_ok (d : Int) : (parts d).ok ∧ (parts d).num = d := by
  unfold parts
  obtain ⟨row, hrow⟩ : ∃ r, r = (d + 730791) / 146097 := ⟨_, rfl⟩
  obtain ⟨n, hn⟩ : ∃ r, r = d + 730791 - 146097 * row := ⟨_, rfl⟩
  have n0 : 0 ≤ n := by omega
  have n1 : n < 146097 := by omega
  obtain ⟨y0, y1, y2, y3⟩ := yoe n n0 n1
  simp only [← hrow, ← hn]
  change 0 ≤ partsY n at y0
  change partsY n < 400 at y1
  change doe (partsY n) ≤ n at y2
  change n < doe (partsY n + 1) ∨ (partsY n = 399 ∧ n ≤ doe 400) at y3
  generalize partsY n = y at *
  have e1 : yd (400 * row + y + 1) = 146097 * row + doe y - 730485 := by unfold yd doe; omega
  obtain ⟨k, hk⟩ : ∃ k, k = n - (365 * y + y / 4 - y / 100) := ⟨_, rfl⟩
  rw [← hk]
  have hk' : n = doe y + k := by unfold doe; omega
  have k0 : 0 ≤ k := by omega
  have k1 : k ≤ 365 ∧ (k = 365 → lp (400 * row + y + 1) = 1) := by
    unfold doe at y2 y3 hk'
    unfold lp
    rcases y3 with y3 | ⟨rfl, y3⟩
    · refine ⟨by omega, fun h => ?_⟩
      have a1 : (y + 1) % 4 = 0 := by
        by_cases hh : (y + 1) % 4 = 0
        · exact hh
        · have g1 : (y + 1) / 4 = y / 4 := by omega
          have g2 : y / 100 ≤ (y + 1) / 100 := by omega
          omega
      have a2 : (y + 1) % 100 ≠ 0 := fun hh => by
        have g1 : (y + 1) / 4 = y / 4 + 1 := by omega
        have g2 : (y + 1) / 100 = y / 100 + 1 := by omega
        omega
      rw [if_pos]
      omega
    · refine ⟨by omega, fun h => ?_⟩
      rw [if_pos]
      omega
  obtain ⟨m, hm⟩ : ∃ m, m = (5 * k + 2) / 153 := ⟨_, rfl⟩
  rw [← hm]
  have m0 : 0 ≤ m ∧ m ≤ 11 := by omega
  have e2 := yd_succ (400 * row + y)
  have hd : d = yd (400 * row + y + 1) - 306 + k := by omega
  have l1 := lp_01 (400 * row + y)
  have l2 := lp_01 (400 * row + y + 1)
  have hmc : m = 0 ∨ m = 1 ∨ m = 2 ∨ m = 3 ∨ m = 4 ∨ m = 5 ∨ m = 6 ∨ m = 7 ∨ m = 8 ∨ m = 9 ∨ m = 10 ∨ m = 11 := by omega
  clear y2 y3 hrow hn hk hk' e1 n0 n1
  rcases hmc with rfl | rfl | rfl | rfl | rfl | rfl | rfl | rfl | rfl | rfl | rfl | rfl <;> simp [Date.ok, Date.num, num, mlen, cum, cumC] <;> omega

theorem parts_num {a : Date} (h : a.ok) : parts a.num = a := num_inj (parts_ok _).1 h (parts_ok _).2

end Cal
end Go.Proofs.YtioppoaijehicaaGreatDoor
/-
  WALKS: the program's calendar: the lengths of months, the day of a date.
-/
namespace Go.Proofs.YtioppoaijehicaaGreatDoor
open Go.RowKit Cal

def outB (n lo hi : Int) : Bool := decide (n < lo ∨ hi < n)

set_option maxHeartbeats 400000 in
theorem outsideP_any (n lo hi : Int) (w : World) :
    Calls Tryz.prog 89 #[.int .i64 n, .int .i64 lo, .int .i64 hi] w fun e w' => e = .returned (.bool (outB n lo hi)) ∧ w = w' := by
  by_cases h1 : n < lo
  · go_enter Tryz.func89, Tryz.ntmps89
    go_wp2
    go_ret
    exact ⟨by simp [outB, h1], rfl⟩
  · by_cases h2 : hi < n
    · go_enter Tryz.func89, Tryz.ntmps89
      go_wp2
      go_ret
      exact ⟨by simp [outB, h2], rfl⟩
    · go_enter Tryz.func89, Tryz.ntmps89
      go_wp2
      go_ret
      exact ⟨by simp [outB]; omega, rfl⟩

theorem outsideP_yes (n lo hi : Int) (w : World) (h : n < lo ∨ hi < n) :
    Calls Tryz.prog 89 #[.int .i64 n, .int .i64 lo, .int .i64 hi] w fun e w' => e = .returned (.bool true) ∧ w = w' :=
  (outsideP_any n lo hi w).mono fun _ _ ⟨he, hw⟩ => ⟨by rw [he]; simp [outB, h], hw⟩

theorem outsideP_no (n lo hi : Int) (w : World) (h1 : lo ≤ n) (h2 : n ≤ hi) :
    Calls Tryz.prog 89 #[.int .i64 n, .int .i64 lo, .int .i64 hi] w fun e w' => e = .returned (.bool false) ∧ w = w' :=
  (outsideP_any n lo hi w).mono fun _ _ ⟨he, hw⟩ => ⟨by rw [he]; simp [outB]; omega, hw⟩

set_option maxHeartbeats 400000 in
theorem outsideD_any (n lo hi : Int) (w : World) :
    Calls Tryz.prog 60 #[.int .i64 n, .int .i64 lo, .int .i64 hi] w fun e w' => e = .returned (.bool (outB n lo hi)) ∧ w = w' := by
  by_cases h1 : n < lo
  · go_enter Tryz.func60, Tryz.ntmps60
    go_wp2
    go_ret
    exact ⟨by simp [outB, h1], rfl⟩
  · by_cases h2 : hi < n
    · go_enter Tryz.func60, Tryz.ntmps60
      go_wp2
      go_ret
      exact ⟨by simp [outB, h2], rfl⟩
    · go_enter Tryz.func60, Tryz.ntmps60
      go_wp2
      go_ret
      exact ⟨by simp [outB]; omega, rfl⟩

theorem outsideD_yes (n lo hi : Int) (w : World) (h : n < lo ∨ hi < n) :
    Calls Tryz.prog 60 #[.int .i64 n, .int .i64 lo, .int .i64 hi] w fun e w' => e = .returned (.bool true) ∧ w = w' :=
  (outsideD_any n lo hi w).mono fun _ _ ⟨he, hw⟩ => ⟨by rw [he]; simp [outB, h], hw⟩

theorem outsideD_no (n lo hi : Int) (w : World) (h1 : lo ≤ n) (h2 : n ≤ hi) :
    Calls Tryz.prog 60 #[.int .i64 n, .int .i64 lo, .int .i64 hi] w fun e w' => e = .returned (.bool false) ∧ w = w' :=
  (outsideD_any n lo hi w).mono fun _ _ ⟨he, hw⟩ => ⟨by rw [he]; simp [outB]; omega, hw⟩

set_option maxHeartbeats 800000 in
theorem leapP_any (y : Int) (w : World) (hy : 0 ≤ y) (hy2 : y ≤ 100000) :
    Calls Tryz.prog 172 #[.int .i64 y] w fun e w' => e = .returned (.bool (decide (lp y = 1))) ∧ w = w' := by
  have hc : ((y % 4 == 0) = false ∧ decide (lp y = 1) = false) ∨ (y % 4 = 0 ∧ (y % 100 != 0) = true ∧ decide (lp y = 1) = true) ∨ (y % 4 = 0 ∧ (y % 100 != 0) = false ∧ (y % 400 == 0) = true ∧ decide (lp y = 1) = true) ∨ (y % 4 = 0 ∧ (y % 100 != 0) = false ∧ (y % 400 == 0) = false ∧ decide (lp y = 1) = false) := by
    unfold lp
    by_cases h4 : y % 4 = 0
    · by_cases h1 : y % 100 = 0
      · by_cases h0 : y % 400 = 0
        · exact .inr (.inr (.inl ⟨h4, by simp [h1], by simp [h0], by simp [h4, h0]⟩))
        · exact .inr (.inr (.inr ⟨h4, by simp [h1], by simp [h0], by simp [h1, h0]⟩))
      · exact .inr (.inl ⟨h4, by simp [h1], by simp [h4, h1]⟩)
    · exact .inl ⟨by simp [h4], by simp [h4]⟩
  generalize decide (lp y = 1) = r at hc ⊢
  rcases hc with ⟨h1, rfl⟩ | ⟨h1, h2, rfl⟩ | ⟨h1, h2, h3, rfl⟩ | ⟨h1, h2, h3, rfl⟩
  all_goals
    go_enter Tryz.func172, Tryz.ntmps172
    go_wp2
    go_ret
    exact ⟨by simp [*], rfl⟩

set_option maxHeartbeats 800000 in
theorem before_any (y : Int) (w : World) (hy : 1 ≤ y) (hy2 : y ≤ 100000) :
    Calls Tryz.prog 129 #[.int .i64 y] w fun e w' => e = .returned (.int .i64 (yd y)) ∧ w = w' := by
  go_enter Tryz.func129, Tryz.ntmps129
  go_wp2
  go_ret
  exact ⟨ret_int (by unfold yd; omega), rfl⟩

def lens (y : Int) : Array Value := #[.int .i64 31, .int .i64 (28 + lp y), .int .i64 31, .int .i64 30, .int .i64 31, .int .i64 30, .int .i64 31, .int .i64 31, .int .i64 30, .int .i64 31, .int .i64 30, .int .i64 31]

theorem lens_at (y : Int) : ∀ i : Nat, i < 12 → (lens y)[i]? = some (.int .i64 (mlen y (i + 1)))
  | 0, _ | 1, _ | 2, _ | 3, _ | 4, _ | 5, _ | 6, _ | 7, _ | 8, _ | 9, _ | 10, _ | 11, _ => rfl
  | _ + 12, h => by omega

set_option maxHeartbeats 800000 in
set_option maxRecDepth 100000 in
theorem lengths_any (y : Int) (w : World) (hy : 0 ≤ y) (hy2 : y ≤ 100000) :
    Calls Tryz.prog 130 #[.int .i64 y] w fun e w' => e = .returned (.agg (lens y)) ∧ Below w.heap.size w w' := by
  have hl := leapP_any y
  rcases lp_01 y with h | h
  all_goals
    simp only [h, Int.reduceEq, decide_false, decide_true] at hl
    unfold lens
    rw [h]
    have HL := hide hl
    clear hl h
    go_enter Tryz.func130, Tryz.ntmps130
    go_wp2_with (go_at_call 172; refine (HL.out _ hy hy2).mono ?_; rintro e w' ⟨rfl, rfl⟩)
    go_returns
    exact ⟨rfl, by repeat (first | exact Below.refl _ _ | refine bl_plus ?_ | refine bl_alloc ?_ _ | refine bl_drew ?_)⟩

end Go.Proofs.YtioppoaijehicaaGreatDoor
/-
  WALKS: the program's calendar: DayOf.
-/
namespace Go.Proofs.YtioppoaijehicaaGreatDoor
open Go.RowKit Cal

def DayAtOut (r : Int × Bool) (w : World) (e : Ending) (w' : World) : Prop := e = .returned (.tuple #[.int .i64 r.1, .bool r.2]) ∧ Below w.heap.size w w'

def dayAtR (y m d : Int) : Int × Bool := if 1 ≤ m ∧ m ≤ 12 ∧ 1 ≤ d ∧ d ≤ mlen y m then (num y m d, true) else (0, false)

set_option maxHeartbeats 1600000 in
set_option maxRecDepth 100000 in
theorem dayAt_month (y m d : Int) (w : World) (h : m < 1 ∨ 12 < m) :
    Calls Tryz.prog 143 #[.int .i64 y, .int .i64 m, .int .i64 d] w (DayAtOut (0, false) w) := by
  go_enter Tryz.func143, Tryz.ntmps143
  go_wp2_with (go_at_call 89; refine (outsideP_yes _ _ _ _ h).mono ?_; rintro e w' ⟨rfl, rfl⟩)
  go_returns
  exact ⟨rfl, by repeat (first | exact Below.refl _ _ | refine bl_plus ?_ | refine bl_alloc ?_ _ | refine bl_drew ?_)⟩

set_option maxHeartbeats 3200000 in
set_option maxRecDepth 100000 in
theorem dayAt_in (y : Int) (k : Nat) (d : Int) (w : World) (hy : 1 ≤ y) (hy2 : y ≤ 10000) (hk : k < 12) :
    Calls Tryz.prog 143 #[.int .i64 y, .int .i64 (k + 1), .int .i64 d] w (DayAtOut (dayAtR y (k + 1) d) w) := by
  have hb := mlen_bd y (k + 1)
  have hyb : -1000000 ≤ yd y ∧ yd y ≤ 4000000 := by unfold yd; omega
  have hcb := fun j : Nat => fun (hj : j ≤ 12) => (cum_mono (y := y) (m := 1) (n := j + 1) (by omega) (by omega) (by omega))
  have hcb2 := fun j : Nat => fun (hj : j ≤ 12) => (cum_mono (y := y) (m := j + 1) (n := 13) (by omega) (by omega) (by omega))
  have h13 : cum y 13 ≤ 366 := by rw [cum_13]; have := lp_01 y; omega
  have HCB := hide (And.intro hcb (And.intro hcb2 h13))
  generalize hRR : dayAtR y (k + 1) d = RR
  have HRR := hide hRR
  clear hRR hcb hcb2 h13
  have hm : ∀ i : Nat, i < 12 → 28 ≤ mlen y (i + 1) ∧ mlen y (i + 1) ≤ 31 := fun i _ => mlen_bd y (i + 1)
  have HM := hide hm
  clear hm
  have hl := fun w => lengths_any y w (by omega) (by omega)
  unfold lens at hl
  have HL := hide hl
  clear hl
  have i1 : (k : Int) < 12 := by omega
  have i2 : (0 : Int) ≤ (k : Int) := by omega
  go_enter Tryz.func143, Tryz.ntmps143
  go_upto_region 4 with (first
    | (go_at_call_of 89 (Value.int IntKind.i64 12); refine (outsideP_no _ _ _ _ (by omega) (by omega)).mono ?_; rintro e w' ⟨rfl, rfl⟩)
    | (go_at_call 130; refine (HL.out _).mono ?_; rintro e w' ⟨rfl, hbl⟩; obtain ⟨os1, n1, rfl⟩ := below_plus hbl; clear hbl))
  have hB : Blk ((plus w os1 n1).alloc (.cells #[.int .i64 31, .int .i64 (28 + lp y), .int .i64 31, .int .i64 30, .int .i64 31, .int .i64 30, .int .i64 31, .int .i64 31, .int .i64 30, .int .i64 31, .int .i64 30, .int .i64 31] 156)) (w.heap.size + os1.size) 156 (lens y) := by
    have := Blk.new (plus w os1 n1) 156 (lens y)
    rw [plus_size] at this
    exact this
  have hW : Below w.heap.size w ((plus w os1 n1).alloc (.cells #[.int .i64 31, .int .i64 (28 + lp y), .int .i64 31, .int .i64 30, .int .i64 31, .int .i64 30, .int .i64 31, .int .i64 31, .int .i64 30, .int .i64 31, .int .i64 30, .int .i64 31] 156)) := by repeat (first | exact Below.refl _ _ | refine bl_plus ?_ | refine bl_alloc ?_ _ | refine bl_drew ?_)
  generalize ((plus w os1 n1).alloc (.cells #[.int .i64 31, .int .i64 (28 + lp y), .int .i64 31, .int .i64 30, .int .i64 31, .int .i64 30, .int .i64 31, .int .i64 31, .int .i64 30, .int .i64 31, .int .i64 30, .int .i64 31] 156)) = W at hB hW ⊢
  generalize w.heap.size + os1.size = g at hB ⊢
  have hcell : ∀ i : Nat, i < 12 → W.cell? ⟨g, i, none⟩ = some (.int .i64 (mlen y (i + 1))) := fun i hi => (hB.cell i).trans (lens_at y i hi)
  have HC := hide hcell
  have hc0 := hcell k hk
  clear hcell hB
  by_cases hd : d < 1 ∨ mlen y (k + 1) < d
  · have hr := HRR.out
    unfold dayAtR at hr
    rw [if_neg (show ¬ (1 ≤ (k : Int) + 1 ∧ (k : Int) + 1 ≤ 12 ∧ 1 ≤ d ∧ d ≤ mlen y (k + 1)) by omega)] at hr
    subst hr
    clear HRR
    have hx := fun w => outsideP_yes d 1 (mlen y (k + 1)) w hd
    have HX := hide hx
    clear hx hd
    generalize mlen y (k + 1) = L at *
    go_wp2_with (go_at_call 89; refine (HX.out _).mono ?_; rintro e w' ⟨rfl, rfl⟩)
    go_returns
    exact ⟨rfl, hW⟩
  · have hd1 : 1 ≤ d ∧ d ≤ mlen y (k + 1) := by omega
    have hr := HRR.out
    unfold dayAtR at hr
    rw [if_pos (show 1 ≤ (k : Int) + 1 ∧ (k : Int) + 1 ≤ 12 ∧ 1 ≤ d ∧ d ≤ mlen y (k + 1) by omega)] at hr
    subst hr
    clear HRR
    have hx := fun w => outsideP_no d 1 (mlen y (k + 1)) w hd1.1 hd1.2
    have HX := hide hx
    obtain ⟨d1, d2⟩ := hd1
    have d3 : d ≤ 31 := by omega
    clear hx hd d2
    have hbf := fun w => before_any y w hy (by omega)
    have HBF := hide hbf
    clear hbf
    have hnum : num y (k + 1) d = yd y + cum y (k + 1) + d - 1 := rfl
    have HN := hide hnum
    have h1 := cum_1 y
    have H1 := hide h1
    clear hnum h1
    generalize yd y = Y at *
    generalize hL : mlen y (k + 1) = L at *
    clear hL
    go_wp2_with (first | (go_at_call 89; refine (HX.out _).mono ?_; rintro e w' ⟨rfl, rfl⟩) | (go_at_call 129; refine (HBF.out _).mono ?_; rintro e w' ⟨rfl, rfl⟩))
    go_loop [9, 28] (fun n i => ∃ j : Nat, j ≤ k ∧ i = .int .i64 j ∧ n = .int .i64 (Y + cum y (j + 1) + d - 1)) (fun _ i => k - (intOf i).toNat)
    case atStart => exact ⟨0, Nat.zero_le _, rfl, by have := H1.out; simp [this]⟩
    case round =>
      obtain ⟨j, hj, rfl, rfl⟩ := hrel
      by_cases hlt : j < k
      · have c1 := HC.out j (by omega)
        have hs := cum_succ (y := y) (m := j + 1) (by omega) (by omega)
        have b1 := HCB.out.1 j (by omega)
        have b2 := HCB.out.2.1 j (by omega)
        have b3 := HCB.out.2.2
        have b4 := H1.out
        have b5 := HM.out j (by omega)
        have HS := hide hs
        rw [b4] at b1
        have b6 := Int.le_trans b2 b3
        clear hs b4 b2 b3
        generalize cum y (j + 1) = C at *
        generalize mlen y (j + 1) = M at *
        have i3 : (j : Int) < 12 := by omega
        have i4 : (j : Int) < (k : Int) := by omega
        go_wp2
        go_round
        case rel => exact ⟨j + 1, by omega, by go_num, by rw [show (((j + 1 : Nat) : Int) + 1) = (j : Int) + 1 + 1 by omega, HS.out]; exact congrArg (Value.int .i64) (by omega)⟩
        case measure => simp [intOf]; omega
      · have hjk : j = k := by omega
        subst hjk
        have i4 : ¬ (j : Int) < (j : Int) := by omega
        go_wp2
        go_returns
        refine ⟨?_, hW⟩
        rw [HN.out]
        rfl

def DayOfOut (r : Int × Int) (w : World) (e : Ending) (w' : World) : Prop := e = .returned (.tuple #[.int .i64 r.1, .int .i64 r.2]) ∧ Below w.heap.size w w'

theorem dayAt_any (y m d : Int) (w : World) (hy : 1 ≤ y) (hy2 : y ≤ 10000) :
    Calls Tryz.prog 143 #[.int .i64 y, .int .i64 m, .int .i64 d] w (DayAtOut (dayAtR y m d) w) := by
  by_cases hm : 1 ≤ m ∧ m ≤ 12
  · obtain ⟨k, rfl⟩ : ∃ k : Nat, m = k + 1 := ⟨(m - 1).toNat, by omega⟩
    exact dayAt_in y k d w hy hy2 (by omega)
  · have : dayAtR y m d = (0, false) := if_neg (fun h => hm ⟨h.1, h.2.1⟩)
    rw [this]
    exact dayAt_month y m d w (by omega)

/-- What DayOf hands back. -/
def dayOfR (y m d : Int) : Int × Int := if 2001 ≤ y ∧ y ≤ 9999 ∧ 1 ≤ m ∧ m ≤ 12 ∧ 1 ≤ d ∧ d ≤ mlen y m ∧ num y m d ≤ 100000 then (num y m d, 0) else (0, 2)

theorem num_ge {y m d : Int} (hy : 2001 ≤ y) (h1 : 1 ≤ m) (h2 : m ≤ 12) (h3 : 1 ≤ d) : 0 ≤ num y m d := by
  have h0 := cum_mono (y := y) (m := 1) (n := m) (by omega) h1 (by omega)
  rw [cum_1] at h0
  have := yd_mono hy
  have e : yd 2001 = 0 := by decide
  unfold num
  omega

set_option maxHeartbeats 1600000 in
set_option maxRecDepth 100000 in
theorem dayOf_any (y m d : Int) (w : World) :
    Calls Tryz.prog 97 #[.int .i64 y, .int .i64 m, .int .i64 d] w (DayOfOut (dayOfR y m d) w) := by
  by_cases hy : 2001 ≤ y ∧ y ≤ 9999
  · have hd := fun w => dayAt_any y m d w (by omega) (by omega)
    have hx := fun w => outsideP_no y 2001 9999 w hy.1 hy.2
    by_cases hm : 1 ≤ m ∧ m ≤ 12 ∧ 1 ≤ d ∧ d ≤ mlen y m
    · have hr : dayAtR y m d = (num y m d, true) := if_pos hm
      rw [hr] at hd
      have hge := num_ge hy.1 hm.1 hm.2.1 hm.2.2.1
      have hr2 : dayOfR y m d = if num y m d ≤ 100000 then (num y m d, 0) else (0, 2) := by
        unfold dayOfR
        by_cases h : num y m d ≤ 100000
        · rw [if_pos h, if_pos ⟨hy.1, hy.2, hm.1, hm.2.1, hm.2.2.1, hm.2.2.2, h⟩]
        · rw [if_neg h, if_neg (fun hh => h hh.2.2.2.2.2.2)]
      rw [hr2]
      generalize num y m d = n at *
      have HD := hide hd
      have HX := hide hx
      clear hd hx hr hr2 hm
      by_cases hn : n ≤ 100000
      · rw [if_pos hn]
        go_enter Tryz.func97, Tryz.ntmps97
        go_wp2_with (first | (go_at_call_of 89 (Value.int IntKind.i64 9999); refine (HX.out _).mono ?_; rintro e w' ⟨rfl, rfl⟩) | (go_at_call 143; refine (HD.out _).mono ?_; rintro e w' ⟨rfl, hbl⟩; obtain ⟨os1, n1, rfl⟩ := below_plus hbl; clear hbl) | (go_at_call 89; refine (outsideP_no _ _ _ _ (by omega) (by omega)).mono ?_; rintro e w' ⟨rfl, rfl⟩))
        go_returns
        exact ⟨rfl, by repeat (first | exact Below.refl _ _ | refine bl_plus ?_ | refine bl_alloc ?_ _ | refine bl_drew ?_)⟩
      · rw [if_neg hn]
        go_enter Tryz.func97, Tryz.ntmps97
        go_wp2_with (first | (go_at_call_of 89 (Value.int IntKind.i64 9999); refine (HX.out _).mono ?_; rintro e w' ⟨rfl, rfl⟩) | (go_at_call 143; refine (HD.out _).mono ?_; rintro e w' ⟨rfl, hbl⟩; obtain ⟨os1, n1, rfl⟩ := below_plus hbl; clear hbl) | (go_at_call 89; refine (outsideP_yes _ _ _ _ (by omega)).mono ?_; rintro e w' ⟨rfl, rfl⟩))
        go_returns
        exact ⟨rfl, by repeat (first | exact Below.refl _ _ | refine bl_plus ?_ | refine bl_alloc ?_ _ | refine bl_drew ?_)⟩
    · have hr : dayAtR y m d = (0, false) := if_neg hm
      rw [hr] at hd
      have hr2 : dayOfR y m d = (0, 2) := if_neg (fun hh => hm ⟨hh.2.2.1, hh.2.2.2.1, hh.2.2.2.2.1, hh.2.2.2.2.2.1⟩)
      rw [hr2]
      have HD := hide hd
      have HX := hide hx
      clear hd hx hr hr2 hm
      go_enter Tryz.func97, Tryz.ntmps97
      go_wp2_with (first | (go_at_call_of 89 (Value.int IntKind.i64 9999); refine (HX.out _).mono ?_; rintro e w' ⟨rfl, rfl⟩) | (go_at_call 143; refine (HD.out _).mono ?_; rintro e w' ⟨rfl, hbl⟩; obtain ⟨os1, n1, rfl⟩ := below_plus hbl; clear hbl))
      go_returns
      exact ⟨rfl, by repeat (first | exact Below.refl _ _ | refine bl_plus ?_ | refine bl_alloc ?_ _ | refine bl_drew ?_)⟩
  · have hr2 : dayOfR y m d = (0, 2) := if_neg (fun hh => hy ⟨hh.1, hh.2.1⟩)
    rw [hr2]
    have HX := hide (fun w => outsideP_yes y 2001 9999 w (by omega))
    clear hr2
    go_enter Tryz.func97, Tryz.ntmps97
    go_wp2_with (go_at_call 89; refine (HX.out _).mono ?_; rintro e w' ⟨rfl, rfl⟩)
    go_returns
    exact ⟨rfl, by repeat (first | exact Below.refl _ _ | refine bl_plus ?_ | refine bl_alloc ?_ _ | refine bl_drew ?_)⟩

end Go.Proofs.YtioppoaijehicaaGreatDoor
/-
  WALKS: the reference's calendar: the day of a year, a month and a number; small tests of days.
-/
namespace Go.Proofs.YtioppoaijehicaaGreatDoor
open Go.RowKit Cal

set_option maxHeartbeats 800000 in
theorem floor_pos (a b : Int) (w : World) (ha : 0 ≤ a) (ha2 : a ≤ 1000000000) (hb : 0 < b) (hb2 : b ≤ 1000000) :
    Calls Tryz.prog 70 #[.int .i64 a, .int .i64 b] w fun e w' => e = .returned (.int .i64 (a / b)) ∧ w = w' := by
  have h1 : 0 ≤ a / b := Int.ediv_nonneg ha (by omega)
  have h2 : a / b ≤ a := Int.ediv_le_self _ ha
  have h3 : 0 ≤ a % b := Int.emod_nonneg _ (by omega)
  have h4 : a % b < b := Int.emod_lt_of_pos _ hb
  have h5 : (b == 0) = false := by simp; omega
  go_enter Tryz.func70, Tryz.ntmps70
  go_wp2
  go_ret
  exact ⟨rfl, rfl⟩

set_option maxHeartbeats 800000 in
theorem floor_neg (a b : Int) (w : World) (ha : a < 0) (ha2 : -1000000000 ≤ a) (hb : 0 < b) (hb2 : b ≤ 1000000) :
    Calls Tryz.prog 70 #[.int .i64 a, .int .i64 b] w fun e w' => e = .returned (.int .i64 (a / b)) ∧ w = w' := by
  have e1 : a.tdiv b = -((-a) / b) := by
    rw [← Int.tdiv_eq_ediv_of_nonneg (show 0 ≤ -a by omega), Int.neg_tdiv, Int.neg_neg]
  have e2 : a.tmod b = -((-a) % b) := by
    rw [← Int.tmod_eq_emod_of_nonneg (show 0 ≤ -a by omega), Int.neg_tmod, Int.neg_neg]
  have h3 : 0 ≤ (-a) % b := Int.emod_nonneg _ (by omega)
  have h4 : (-a) % b < b := Int.emod_lt_of_pos _ hb
  have h6 : b * ((-a) / b) + (-a) % b = -a := Int.mul_ediv_add_emod (-a) b
  have h7 : 0 ≤ (-a) / b := Int.ediv_nonneg (by omega) (by omega)
  have h8 : (-a) / b ≤ -a := Int.ediv_le_self _ (by omega)
  have hfl : a / b = if a.tmod b < 0 then a.tdiv b - 1 else a.tdiv b := by
    rw [e1, e2]
    generalize (-a) / b = q at *
    generalize (-a) % b = r at *
    split
    · rw [show a = b * (-q - 1) + (b - r) by rw [Int.mul_sub, Int.mul_neg]; omega, Int.mul_add_ediv_left _ _ (by omega), Int.ediv_eq_zero_of_lt (by omega) (by omega)]
      omega
    · rw [show a = b * (-q) by rw [Int.mul_neg]; omega, Int.mul_ediv_cancel_left _ (by omega)]
  have hqb : -1000000000 ≤ a.tdiv b ∧ a.tdiv b ≤ 0 := by rw [e1]; omega
  have h5 : (b == 0) = false := by simp; omega
  have HF := hide hfl
  obtain ⟨q1, q2⟩ := hqb
  have xx : ∀ T : Int, -1000000000 ≤ T → T ≤ 0 → IntKind.i64.wrap T = T ∧ IntKind.i64.wrap (T - 1) = T - 1 := fun T t1 t2 => ⟨IntWalk.i64_in _ (by omega), IntWalk.i64_in _ (by omega)⟩
  obtain ⟨x1, x2⟩ := xx _ q1 q2
  clear hfl e1 e2 h3 h4 h6 h7 h8 xx
  by_cases hlt : a.tmod b < 0
  · have HF2 := hide (HF.out.trans (if_pos hlt))
    go_enter Tryz.func70, Tryz.ntmps70
    go_wp2
    go_ret
    exact ⟨ret_int HF2.out.symm, rfl⟩
  · have HF2 := hide (HF.out.trans (if_neg hlt))
    go_enter Tryz.func70, Tryz.ntmps70
    go_wp2
    go_ret
    exact ⟨ret_int HF2.out.symm, rfl⟩

theorem floor_any (a b : Int) (w : World) (ha : -1000000000 ≤ a) (ha2 : a ≤ 1000000000) (hb : 0 < b) (hb2 : b ≤ 1000000) :
    Calls Tryz.prog 70 #[.int .i64 a, .int .i64 b] w fun e w' => e = .returned (.int .i64 (a / b)) ∧ w = w' := by
  by_cases h : 0 ≤ a
  · exact floor_pos a b w h ha2 hb hb2
  · exact floor_neg a b w (by omega) ha hb hb2

set_option maxHeartbeats 800000 in
theorem leapR_any (y : Int) (w : World) (hy : 0 ≤ y) (hy2 : y ≤ 100000) :
    Calls Tryz.prog 193 #[.int .i64 y] w fun e w' => e = .returned (.bool (decide (lp y = 1))) ∧ w = w' := by
  have hc : ((y % 4 == 0) = false ∧ decide (lp y = 1) = false) ∨ (y % 4 = 0 ∧ (y % 100 != 0) = true ∧ decide (lp y = 1) = true) ∨ (y % 4 = 0 ∧ (y % 100 != 0) = false ∧ (y % 400 == 0) = true ∧ decide (lp y = 1) = true) ∨ (y % 4 = 0 ∧ (y % 100 != 0) = false ∧ (y % 400 == 0) = false ∧ decide (lp y = 1) = false) := by
    unfold lp
    by_cases h4 : y % 4 = 0
    · by_cases h1 : y % 100 = 0
      · by_cases h0 : y % 400 = 0
        · exact .inr (.inr (.inl ⟨h4, by simp [h1], by simp [h0], by simp [h4, h0]⟩))
        · exact .inr (.inr (.inr ⟨h4, by simp [h1], by simp [h0], by simp [h1, h0]⟩))
      · exact .inr (.inl ⟨h4, by simp [h1], by simp [h4, h1]⟩)
    · exact .inl ⟨by simp [h4], by simp [h4]⟩
  generalize decide (lp y = 1) = r at hc ⊢
  rcases hc with ⟨h1, rfl⟩ | ⟨h1, h2, rfl⟩ | ⟨h1, h2, h3, rfl⟩ | ⟨h1, h2, h3, rfl⟩
  all_goals
    go_enter Tryz.func193, Tryz.ntmps193
    go_wp2
    go_ret
    exact ⟨by simp [*], rfl⟩

set_option maxHeartbeats 800000 in
theorem yearDay_any (y : Int) (w : World) (hy : 1000 ≤ y) (hy2 : y ≤ 100000) :
    Calls Tryz.prog 194 #[.int .i64 y] w fun e w' => e = .returned (.int .i64 (yd y)) ∧ w = w' := by
  go_enter Tryz.func194, Tryz.ntmps194
  go_wp2_with (go_at_call 70; refine (floor_any _ _ _ (by omega) (by omega) (by omega) (by omega)).mono ?_; rintro e w' ⟨rfl, rfl⟩)
  go_ret
  exact ⟨ret_int (by unfold yd; omega), rfl⟩

set_option maxHeartbeats 800000 in
theorem isDay_any (n : Int) (w : World) :
    Calls Tryz.prog 10 #[.int .i64 n] w fun e w' => e = .returned (.bool (decide (0 ≤ n ∧ n ≤ 100000))) ∧ w = w' := by
  by_cases h1 : 0 ≤ n
  · go_enter Tryz.func10, Tryz.ntmps10
    go_wp2
    go_ret
    exact ⟨ret_bool (by simp [h1]), rfl⟩
  · go_enter Tryz.func10, Tryz.ntmps10
    go_wp2
    go_ret
    exact ⟨ret_bool (by simp; omega), rfl⟩

theorem isDay_yes (n : Int) (w : World) (h : 0 ≤ n) (h2 : n ≤ 100000) :
    Calls Tryz.prog 10 #[.int .i64 n] w fun e w' => e = .returned (.bool true) ∧ w = w' :=
  (isDay_any n w).mono fun _ _ ⟨he, hw⟩ => ⟨by rw [he, decide_eq_true (And.intro h h2)], hw⟩

theorem isDay_no (n : Int) (w : World) (h : n < 0 ∨ 100000 < n) :
    Calls Tryz.prog 10 #[.int .i64 n] w fun e w' => e = .returned (.bool false) ∧ w = w' :=
  (isDay_any n w).mono fun _ _ ⟨he, hw⟩ => ⟨by rw [he, decide_eq_false (by omega)], hw⟩

def dayErr (n : Int) : Int := if n < 0 ∨ 100000 < n then 2 else 0

set_option maxHeartbeats 800000 in
theorem checkDay_any (n : Int) (w : World) :
    Calls Tryz.prog 24 #[.int .i64 n] w fun e w' => e = .returned (.int .i64 (dayErr n)) ∧ w = w' := by
  unfold dayErr
  by_cases h : n < 0 ∨ 100000 < n
  · rw [if_pos h]
    have HX := hide (fun w => outsideD_yes n 0 100000 w h)
    clear h
    go_enter Tryz.func24, Tryz.ntmps24
    go_wp2_with (go_at_call 60; refine (HX.out _).mono ?_; rintro e w' ⟨rfl, rfl⟩)
    go_ret
    exact ⟨rfl, rfl⟩
  · rw [if_neg h]
    have HX := hide (fun w => outsideD_no n 0 100000 w (by omega) (by omega))
    clear h
    go_enter Tryz.func24, Tryz.ntmps24
    go_wp2_with (go_at_call 60; refine (HX.out _).mono ?_; rintro e w' ⟨rfl, rfl⟩)
    go_ret
    exact ⟨rfl, rfl⟩

def ml0 : Array Value := #[.int .i64 31, .int .i64 28, .int .i64 31, .int .i64 30, .int .i64 31, .int .i64 30, .int .i64 31, .int .i64 31, .int .i64 30, .int .i64 31, .int .i64 30, .int .i64 31]

theorem ml0_at : ∀ i : Nat, i < 12 → ml0[i]? = some (.int .i64 (cumC (i + 2) - cumC (i + 1)))
  | 0, _ | 1, _ | 2, _ | 3, _ | 4, _ | 5, _ | 6, _ | 7, _ | 8, _ | 9, _ | 10, _ | 11, _ => rfl
  | _ + 12, h => by omega

theorem cumC_bd (m : Int) : 0 ≤ cumC m ∧ cumC m ≤ 365 := by unfold cumC; (repeat' split) <;> omega

/-- A day by a year, a month from 1 on, and a number. -/
def dateOfR (y m d : Int) : Int := num (y + (m - 1) / 12) ((m - 1) % 12 + 1) d

theorem dateOfR_in {y m d : Int} (h : 1 ≤ m) (h2 : m ≤ 12) : dateOfR y m d = num y m d := by
  unfold dateOfR
  rw [show (m - 1) / 12 = 0 by omega, show (m - 1) % 12 + 1 = m by omega, Int.add_zero]

theorem dateOfR_13 {y d : Int} : dateOfR y 13 d = num (y + 1) 1 d := by
  unfold dateOfR; rfl

set_option maxHeartbeats 3200000 in
set_option maxRecDepth 100000 in
theorem dateOf_gen (y m d : Int) (w : World) (hYb : 1000 ≤ y + (m - 1) / 12 ∧ y + (m - 1) / 12 ≤ 30000) (hy : 0 ≤ y) (hy2 : y ≤ 20000) (hm : -100000 ≤ m) (hm2 : m ≤ 100000) (hd : -1000000 ≤ d) (hd2 : d ≤ 1000000) :
    Calls Tryz.prog 148 #[.int .i64 y, .int .i64 m, .int .i64 d] w fun e w' => e = .returned (.int .i64 (dateOfR y m d)) ∧ Below w.heap.size w w' := by
  have hf := fun w => floor_any (m - 1) 12 w (by omega) (by omega) (by omega) (by omega)
  obtain ⟨k, hk, hk2⟩ : ∃ k : Nat, m - 12 * ((m - 1) / 12) = k + 1 ∧ k < 12 := ⟨(m - 12 * ((m - 1) / 12) - 1).toNat, by omega, by omega⟩
  have hr : dateOfR y m d = num (y + (m - 1) / 12) (k + 1) d := by unfold dateOfR; rw [show (m - 1) % 12 + 1 = k + 1 by omega]
  have hq : -10000 ≤ (m - 1) / 12 ∧ (m - 1) / 12 ≤ 10000 := by omega
  have hq2 : 12 * ((m - 1) / 12) ≤ m := by omega
  rw [hr]
  generalize (m - 1) / 12 = q at *
  generalize hRR : num (y + q) (k + 1) d = R
  have HRR := hide hRR
  clear hRR
  have HF := hide hf
  have HK := hide hk
  clear hf hk hr
  obtain ⟨q0, q1⟩ := hq
  go_enter Tryz.func148, Tryz.ntmps148
  go_upto_region 2 with (go_at_call 70; refine (HF.out _).mono ?_; rintro e w' ⟨rfl, rfl⟩)
  rw [HK.out]
  clear HK HF
  obtain ⟨Y0, Y1⟩ := hYb
  clear hy hy2 hm hm2 hq2
  generalize y + q = Y at *
  have i1 : (k : Int) < 12 := by omega
  have i2 : (0 : Int) ≤ (k : Int) := by omega
  have hydb : -12000000 ≤ yd Y ∧ yd Y ≤ 12000000 := by unfold yd; omega
  obtain ⟨yb0, yb1⟩ := hydb
  have HYD := hide (fun w => yearDay_any Y w Y0 (by omega))
  have HLP := hide (fun w => leapR_any Y w (by omega) (by omega))
  have hR : num Y (k + 1) d = yd Y + (cumC (k + 1) + if 3 ≤ (k : Int) + 1 then lp Y else 0) + d - 1 := rfl
  have HR := hide hR
  have hkb := cumC_bd (k + 1)
  have HKB := hide hkb
  clear hR hkb
  generalize yd Y = D at *
  go_upto_region 4 with (fail)
  have hB : Blk (w.alloc (.cells #[.int .i64 31, .int .i64 28, .int .i64 31, .int .i64 30, .int .i64 31, .int .i64 30, .int .i64 31, .int .i64 31, .int .i64 30, .int .i64 31, .int .i64 30, .int .i64 31] 3)) w.heap.size 3 ml0 := Blk.new w 3 ml0
  have hW : Below w.heap.size w (w.alloc (.cells #[.int .i64 31, .int .i64 28, .int .i64 31, .int .i64 30, .int .i64 31, .int .i64 30, .int .i64 31, .int .i64 31, .int .i64 30, .int .i64 31, .int .i64 30, .int .i64 31] 3)) := by repeat (first | exact Below.refl _ _ | refine bl_plus ?_ | refine bl_alloc ?_ _ | refine bl_drew ?_)
  generalize w.alloc (.cells #[.int .i64 31, .int .i64 28, .int .i64 31, .int .i64 30, .int .i64 31, .int .i64 30, .int .i64 31, .int .i64 31, .int .i64 30, .int .i64 31, .int .i64 30, .int .i64 31] 3) = W at hB hW ⊢
  generalize w.heap.size = g at hB ⊢
  have hcell : ∀ i : Nat, i < 12 → W.cell? ⟨g, i, none⟩ = some (.int .i64 (cumC (i + 2) - cumC (i + 1))) := fun i hi => (hB.cell i).trans (ml0_at i hi)
  have HC := hide hcell
  clear hcell hB
  go_wp2
  go_loop [7, 26] (fun n i => ∃ j : Nat, j ≤ k ∧ i = .int .i64 j ∧ n = .int .i64 (cumC (j + 1))) (fun _ i => k - (intOf i).toNat)
  case atStart => exact ⟨0, Nat.zero_le _, rfl, rfl⟩
  case round =>
    obtain ⟨j, hj, rfl, rfl⟩ := hrel
    by_cases hlt : j < k
    · have c1 := HC.out j (by omega)
      have b1 := cumC_bd (j + 1)
      have b2 := cumC_bd (j + 2)
      obtain ⟨b10, b11⟩ := b1
      obtain ⟨b20, b21⟩ := b2
      have he : cumC ((j : Int) + 2) = cumC (((j + 1 : Nat) : Int) + 1) := by first | rfl | (congr 1; omega)
      have HE := hide he
      clear he
      generalize cumC ((j : Int) + 1) = C at *
      generalize cumC ((j : Int) + 2) = C2 at *
      have i4 : (j : Int) < (k : Int) := by omega
      go_wp2
      go_round
      case rel => exact ⟨j + 1, by omega, by go_num, by rw [← HE.out]; exact congrArg (Value.int .i64) (by omega)⟩
      case measure => simp [intOf]; omega
    · have hjk : j = k := by omega
      subst hjk
      have i4 : ¬ (j : Int) < (j : Int) := by omega
      have b1 := HKB.out
      obtain ⟨b10, b11⟩ := b1
      generalize cumC ((j : Int) + 1) = C at *
      by_cases h3 : (3 : Int) ≤ (j : Int) + 1
      · have hr := HR.out
        rw [if_pos h3] at hr
        have HR2 := hide hr
        clear hr HR
        have i5 : (2 : Int) < (j : Int) + 1 := by omega
        rcases lp_01 Y with hl | hl
        all_goals
          rw [hl] at HR2 HLP
          simp only [Int.reduceEq, decide_false, decide_true] at HLP
          clear hl
          go_wp2_with (first | (go_at_call 193; refine (HLP.out _).mono ?_; rintro e w' ⟨rfl, rfl⟩) | (go_at_call 194; refine (HYD.out _).mono ?_; rintro e w' ⟨rfl, rfl⟩))
          go_ret
          refine ⟨?_, hW⟩
          rw [← HRR.out, HR2.out]
          exact ret_int (by omega)
      · have hr := HR.out
        rw [if_neg h3] at hr
        have HR2 := hide hr
        clear hr HR
        have i5 : ¬ (2 : Int) < (j : Int) + 1 := by omega
        go_wp2_with (first | (go_at_call 194; refine (HYD.out _).mono ?_; rintro e w' ⟨rfl, rfl⟩))
        go_ret
        refine ⟨?_, hW⟩
        rw [← HRR.out, HR2.out]
        exact ret_int (by omega)

theorem dateOf_any (y m d : Int) (w : World) (hy : 2001 ≤ y) (hy2 : y ≤ 20000) (hm : 1 ≤ m) (hm2 : m ≤ 100000) (hd : -1000000 ≤ d) (hd2 : d ≤ 1000000) :
    Calls Tryz.prog 148 #[.int .i64 y, .int .i64 m, .int .i64 d] w fun e w' => e = .returned (.int .i64 (dateOfR y m d)) ∧ Below w.heap.size w w' :=
  dateOf_gen y m d w (by omega) (by omega) hy2 (by omega) hm2 hd hd2

end Go.Proofs.YtioppoaijehicaaGreatDoor
