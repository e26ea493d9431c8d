/-
  WALKS: the program's calendar: the lengths of months, the day of a date.
-/
import Derived.Test.YtdncmjlakmkfiaaGreatDoorRows
import Derived.Test.YtdncmjlakmkfiaaGreatDoorCal
import Derived.Test.YtdncmjlakmkfiaaGreatDoorInts
import Derived.WalkKit
import Derived.WalkSpells
import Derived.WalkLawsBesides
import Derived.Handy
import Derived.Deep.DeepCutAuto
import Derived.Deep.RegionWith
set_option linter.all false
namespace Go.Proofs.YtdncmjlakmkfiaaGreatDoor
open Go.RowKit Cal

def outB (n lo hi : Int) : Bool := decide (n < lo ∨ hi < n)

set_option maxHeartbeats 400000 in
theorem outsideP_any (n lo hi : Int) (w : World) :
    Calls Tryz.prog 53 #[.int .i64 n, .int .i64 lo, .int .i64 hi] w fun e w' => e = .returned (.bool (outB n lo hi)) ∧ w = w' := by
  by_cases h1 : n < lo
  · go_enter Tryz.func53, Tryz.ntmps53
    go_wp2
    go_ret
    exact ⟨by simp [outB, h1], rfl⟩
  · by_cases h2 : hi < n
    · go_enter Tryz.func53, Tryz.ntmps53
      go_wp2
      go_ret
      exact ⟨by simp [outB, h2], rfl⟩
    · go_enter Tryz.func53, Tryz.ntmps53
      go_wp2
      go_ret
      exact ⟨by simp [outB]; omega, rfl⟩

theorem outsideP_yes (n lo hi : Int) (w : World) (h : n < lo ∨ hi < n) :
    Calls Tryz.prog 53 #[.int .i64 n, .int .i64 lo, .int .i64 hi] w fun e w' => e = .returned (.bool true) ∧ w = w' :=
  (outsideP_any n lo hi w).mono fun _ _ ⟨he, hw⟩ => ⟨by rw [he]; simp [outB, h], hw⟩

theorem outsideP_no (n lo hi : Int) (w : World) (h1 : lo ≤ n) (h2 : n ≤ hi) :
    Calls Tryz.prog 53 #[.int .i64 n, .int .i64 lo, .int .i64 hi] w fun e w' => e = .returned (.bool false) ∧ w = w' :=
  (outsideP_any n lo hi w).mono fun _ _ ⟨he, hw⟩ => ⟨by rw [he]; simp [outB]; omega, hw⟩

set_option maxHeartbeats 800000 in
theorem leapP_any (y : Int) (w : World) (hy : 0 ≤ y) (hy2 : y ≤ 100000) :
    Calls Tryz.prog 232 #[.int .i64 y] w fun e w' => e = .returned (.bool (decide (lp y = 1))) ∧ w = w' := by
  have hc : ((y % 4 == 0) = false ∧ decide (lp y = 1) = false) ∨ (y % 4 = 0 ∧ (y % 100 != 0) = true ∧ decide (lp y = 1) = true) ∨ (y % 4 = 0 ∧ (y % 100 != 0) = false ∧ (y % 400 == 0) = true ∧ decide (lp y = 1) = true) ∨ (y % 4 = 0 ∧ (y % 100 != 0) = false ∧ (y % 400 == 0) = false ∧ decide (lp y = 1) = false) := by
    unfold lp
    by_cases h4 : y % 4 = 0
    · by_cases h1 : y % 100 = 0
      · by_cases h0 : y % 400 = 0
        · exact .inr (.inr (.inl ⟨h4, by simp [h1], by simp [h0], by simp [h4, h0]⟩))
        · exact .inr (.inr (.inr ⟨h4, by simp [h1], by simp [h0], by simp [h1, h0]⟩))
      · exact .inr (.inl ⟨h4, by simp [h1], by simp [h4, h1]⟩)
    · exact .inl ⟨by simp [h4], by simp [h4]⟩
  generalize decide (lp y = 1) = r at hc ⊢
  rcases hc with ⟨h1, rfl⟩ | ⟨h1, h2, rfl⟩ | ⟨h1, h2, h3, rfl⟩ | ⟨h1, h2, h3, rfl⟩
  all_goals
    go_enter Tryz.func232, Tryz.ntmps232
    go_wp2
    go_ret
    exact ⟨by simp [*], rfl⟩

set_option maxHeartbeats 800000 in
theorem before_any (y : Int) (w : World) (hy : 1 ≤ y) (hy2 : y ≤ 100000) :
    Calls Tryz.prog 227 #[.int .i64 y] w fun e w' => e = .returned (.int .i64 (yd y)) ∧ w = w' := by
  go_enter Tryz.func227, Tryz.ntmps227
  go_wp2
  go_ret
  exact ⟨ret_int (by unfold yd; omega), rfl⟩

def lens (y : Int) : Array Value := #[.int .i64 31, .int .i64 (28 + lp y), .int .i64 31, .int .i64 30, .int .i64 31, .int .i64 30, .int .i64 31, .int .i64 31, .int .i64 30, .int .i64 31, .int .i64 30, .int .i64 31]

theorem lens_at (y : Int) : ∀ i : Nat, i < 12 → (lens y)[i]? = some (.int .i64 (mlen y (i + 1)))
  | 0, _ | 1, _ | 2, _ | 3, _ | 4, _ | 5, _ | 6, _ | 7, _ | 8, _ | 9, _ | 10, _ | 11, _ => rfl
  | _ + 12, h => by omega

set_option maxHeartbeats 800000 in
set_option maxRecDepth 100000 in
theorem lengths_any (y : Int) (w : World) (hy : 0 ≤ y) (hy2 : y ≤ 100000) :
    Calls Tryz.prog 226 #[.int .i64 y] w fun e w' => e = .returned (.agg (lens y)) ∧ Below w.heap.size w w' := by
  have hl := leapP_any y
  rcases lp_01 y with h | h
  all_goals
    simp only [h, Int.reduceEq, decide_false, decide_true] at hl
    unfold lens
    rw [h]
    have HL := hide hl
    clear hl h
    go_enter Tryz.func226, Tryz.ntmps226
    go_wp2_with (go_at_call 232; refine (HL.out _ hy hy2).mono ?_; rintro e w' ⟨rfl, rfl⟩)
    go_returns
    exact ⟨rfl, by repeat (first | exact Below.refl _ _ | refine bl_plus ?_ | refine bl_alloc ?_ _ | refine bl_drew ?_)⟩

end Go.Proofs.YtdncmjlakmkfiaaGreatDoor
/-
  WALKS: the program's calendar: DayOf.
-/
namespace Go.Proofs.YtdncmjlakmkfiaaGreatDoor
open Go.RowKit Cal

def DayAtOut (r : Int × Bool) (w : World) (e : Ending) (w' : World) : Prop := e = .returned (.tuple #[.int .i64 r.1, .bool r.2]) ∧ Below w.heap.size w w'

def dayAtR (y m d : Int) : Int × Bool := if 1 ≤ m ∧ m ≤ 12 ∧ 1 ≤ d ∧ d ≤ mlen y m then (num y m d, true) else (0, false)

set_option maxHeartbeats 1600000 in
set_option maxRecDepth 100000 in
theorem dayAt_month (y m d : Int) (w : World) (h : m < 1 ∨ 12 < m) :
    Calls Tryz.prog 222 #[.int .i64 y, .int .i64 m, .int .i64 d] w (DayAtOut (0, false) w) := by
  go_enter Tryz.func222, Tryz.ntmps222
  go_wp2_with (go_at_call 53; refine (outsideP_yes _ _ _ _ h).mono ?_; rintro e w' ⟨rfl, rfl⟩)
  go_returns
  exact ⟨rfl, by repeat (first | exact Below.refl _ _ | refine bl_plus ?_ | refine bl_alloc ?_ _ | refine bl_drew ?_)⟩

set_option maxHeartbeats 3200000 in
set_option maxRecDepth 100000 in
theorem dayAt_in (y : Int) (k : Nat) (d : Int) (w : World) (hy : 1 ≤ y) (hy2 : y ≤ 10000) (hk : k < 12) :
    Calls Tryz.prog 222 #[.int .i64 y, .int .i64 (k + 1), .int .i64 d] w (DayAtOut (dayAtR y (k + 1) d) w) := by
  have hb := mlen_bd y (k + 1)
  have hyb : -1000000 ≤ yd y ∧ yd y ≤ 4000000 := by unfold yd; omega
  have hcb := fun j : Nat => fun (hj : j ≤ 12) => (cum_mono (y := y) (m := 1) (n := j + 1) (by omega) (by omega) (by omega))
  have hcb2 := fun j : Nat => fun (hj : j ≤ 12) => (cum_mono (y := y) (m := j + 1) (n := 13) (by omega) (by omega) (by omega))
  have h13 : cum y 13 ≤ 366 := by rw [cum_13]; have := lp_01 y; omega
  have HCB := hide (And.intro hcb (And.intro hcb2 h13))
  generalize hRR : dayAtR y (k + 1) d = RR
  have HRR := hide hRR
  clear hRR hcb hcb2 h13
  have hm : ∀ i : Nat, i < 12 → 28 ≤ mlen y (i + 1) ∧ mlen y (i + 1) ≤ 31 := fun i _ => mlen_bd y (i + 1)
  have HM := hide hm
  clear hm
  have hl := fun w => lengths_any y w (by omega) (by omega)
  unfold lens at hl
  have HL := hide hl
  clear hl
  have i1 : (k : Int) < 12 := by omega
  have i2 : (0 : Int) ≤ (k : Int) := by omega
  go_enter Tryz.func222, Tryz.ntmps222
  go_upto_region 4 with (first
    | (go_at_call_of 53 (Value.int IntKind.i64 12); refine (outsideP_no _ _ _ _ (by omega) (by omega)).mono ?_; rintro e w' ⟨rfl, rfl⟩)
    | (go_at_call 226; refine (HL.out _).mono ?_; rintro e w' ⟨rfl, hbl⟩; obtain ⟨os1, n1, rfl⟩ := below_plus hbl; clear hbl))
  have hB : Blk ((plus w os1 n1).alloc (.cells #[.int .i64 31, .int .i64 (28 + lp y), .int .i64 31, .int .i64 30, .int .i64 31, .int .i64 30, .int .i64 31, .int .i64 31, .int .i64 30, .int .i64 31, .int .i64 30, .int .i64 31] 263)) (w.heap.size + os1.size) 263 (lens y) := by
    have := Blk.new (plus w os1 n1) 263 (lens y)
    rw [plus_size] at this
    exact this
  have hW : Below w.heap.size w ((plus w os1 n1).alloc (.cells #[.int .i64 31, .int .i64 (28 + lp y), .int .i64 31, .int .i64 30, .int .i64 31, .int .i64 30, .int .i64 31, .int .i64 31, .int .i64 30, .int .i64 31, .int .i64 30, .int .i64 31] 263)) := by repeat (first | exact Below.refl _ _ | refine bl_plus ?_ | refine bl_alloc ?_ _ | refine bl_drew ?_)
  generalize ((plus w os1 n1).alloc (.cells #[.int .i64 31, .int .i64 (28 + lp y), .int .i64 31, .int .i64 30, .int .i64 31, .int .i64 30, .int .i64 31, .int .i64 31, .int .i64 30, .int .i64 31, .int .i64 30, .int .i64 31] 263)) = W at hB hW ⊢
  generalize w.heap.size + os1.size = g at hB ⊢
  have hcell : ∀ i : Nat, i < 12 → W.cell? ⟨g, i, none⟩ = some (.int .i64 (mlen y (i + 1))) := fun i hi => (hB.cell i).trans (lens_at y i hi)
  have HC := hide hcell
  have hc0 := hcell k hk
  clear hcell hB
  by_cases hd : d < 1 ∨ mlen y (k + 1) < d
  · have hr := HRR.out
    unfold dayAtR at hr
    rw [if_neg (show ¬ (1 ≤ (k : Int) + 1 ∧ (k : Int) + 1 ≤ 12 ∧ 1 ≤ d ∧ d ≤ mlen y (k + 1)) by omega)] at hr
    subst hr
    clear HRR
    have hx := fun w => outsideP_yes d 1 (mlen y (k + 1)) w hd
    have HX := hide hx
    clear hx hd
    generalize mlen y (k + 1) = L at *
    go_wp2_with (go_at_call 53; refine (HX.out _).mono ?_; rintro e w' ⟨rfl, rfl⟩)
    go_returns
    exact ⟨rfl, hW⟩
  · have hd1 : 1 ≤ d ∧ d ≤ mlen y (k + 1) := by omega
    have hr := HRR.out
    unfold dayAtR at hr
    rw [if_pos (show 1 ≤ (k : Int) + 1 ∧ (k : Int) + 1 ≤ 12 ∧ 1 ≤ d ∧ d ≤ mlen y (k + 1) by omega)] at hr
    subst hr
    clear HRR
    have hx := fun w => outsideP_no d 1 (mlen y (k + 1)) w hd1.1 hd1.2
    have HX := hide hx
    obtain ⟨d1, d2⟩ := hd1
    have d3 : d ≤ 31 := by omega
    clear hx hd d2
    have hbf := fun w => before_any y w hy (by omega)
    have HBF := hide hbf
    clear hbf
    have hnum : num y (k + 1) d = yd y + cum y (k + 1) + d - 1 := rfl
    have HN := hide hnum
    have h1 := cum_1 y
    have H1 := hide h1
    clear hnum h1
    generalize yd y = Y at *
    generalize hL : mlen y (k + 1) = L at *
    clear hL
    go_wp2_with (first | (go_at_call 53; refine (HX.out _).mono ?_; rintro e w' ⟨rfl, rfl⟩) | (go_at_call 227; refine (HBF.out _).mono ?_; rintro e w' ⟨rfl, rfl⟩))
    go_loop [9, 28] (fun n i => ∃ j : Nat, j ≤ k ∧ i = .int .i64 j ∧ n = .int .i64 (Y + cum y (j + 1) + d - 1)) (fun _ i => k - (intOf i).toNat)
    case atStart => exact ⟨0, Nat.zero_le _, rfl, by have := H1.out; simp [this]⟩
    case round =>
      obtain ⟨j, hj, rfl, rfl⟩ := hrel
      by_cases hlt : j < k
      · have c1 := HC.out j (by omega)
        have hs := cum_succ (y := y) (m := j + 1) (by omega) (by omega)
        have b1 := HCB.out.1 j (by omega)
        have b2 := HCB.out.2.1 j (by omega)
        have b3 := HCB.out.2.2
        have b4 := H1.out
        have b5 := HM.out j (by omega)
        have HS := hide hs
        rw [b4] at b1
        have b6 := Int.le_trans b2 b3
        clear hs b4 b2 b3
        generalize cum y (j + 1) = C at *
        generalize mlen y (j + 1) = M at *
        have i3 : (j : Int) < 12 := by omega
        have i4 : (j : Int) < (k : Int) := by omega
        go_wp2
        go_round
        case rel => exact ⟨j + 1, by omega, by go_num, by rw [show (((j + 1 : Nat) : Int) + 1) = (j : Int) + 1 + 1 by omega, HS.out]; exact congrArg (Value.int .i64) (by omega)⟩
        case measure => simp [intOf]; omega
      · have hjk : j = k := by omega
        subst hjk
        have i4 : ¬ (j : Int) < (j : Int) := by omega
        go_wp2
        go_returns
        refine ⟨?_, hW⟩
        rw [HN.out]
        rfl

def DayOfOut (r : Int × Int) (w : World) (e : Ending) (w' : World) : Prop := e = .returned (.tuple #[.int .i64 r.1, .int .i64 r.2]) ∧ Below w.heap.size w w'

theorem dayAt_any (y m d : Int) (w : World) (hy : 1 ≤ y) (hy2 : y ≤ 10000) :
    Calls Tryz.prog 222 #[.int .i64 y, .int .i64 m, .int .i64 d] w (DayAtOut (dayAtR y m d) w) := by
  by_cases hm : 1 ≤ m ∧ m ≤ 12
  · obtain ⟨k, rfl⟩ : ∃ k : Nat, m = k + 1 := ⟨(m - 1).toNat, by omega⟩
    exact dayAt_in y k d w hy hy2 (by omega)
  · have : dayAtR y m d = (0, false) := if_neg (fun h => hm ⟨h.1, h.2.1⟩)
    rw [this]
    exact dayAt_month y m d w (by omega)

/-- What DayOf hands back. -/
def dayOfR (y m d : Int) : Int × Int := if 2001 ≤ y ∧ y ≤ 9999 ∧ 1 ≤ m ∧ m ≤ 12 ∧ 1 ≤ d ∧ d ≤ mlen y m ∧ num y m d ≤ 100000 then (num y m d, 0) else (0, 2)

theorem num_ge {y m d : Int} (hy : 2001 ≤ y) (h1 : 1 ≤ m) (h2 : m ≤ 12) (h3 : 1 ≤ d) : 0 ≤ num y m d := by
  have h0 := cum_mono (y := y) (m := 1) (n := m) (by omega) h1 (by omega)
  rw [cum_1] at h0
  have := yd_mono hy
  have e : yd 2001 = 0 := by decide
  unfold num
  omega

set_option maxHeartbeats 1600000 in
set_option maxRecDepth 100000 in
theorem dayOf_any (y m d : Int) (w : World) :
    Calls Tryz.prog 214 #[.int .i64 y, .int .i64 m, .int .i64 d] w (DayOfOut (dayOfR y m d) w) := by
  by_cases hy : 2001 ≤ y ∧ y ≤ 9999
  · have hd := fun w => dayAt_any y m d w (by omega) (by omega)
    have hx := fun w => outsideP_no y 2001 9999 w hy.1 hy.2
    by_cases hm : 1 ≤ m ∧ m ≤ 12 ∧ 1 ≤ d ∧ d ≤ mlen y m
    · have hr : dayAtR y m d = (num y m d, true) := if_pos hm
      rw [hr] at hd
      have hge := num_ge hy.1 hm.1 hm.2.1 hm.2.2.1
      have hr2 : dayOfR y m d = if num y m d ≤ 100000 then (num y m d, 0) else (0, 2) := by
        unfold dayOfR
        by_cases h : num y m d ≤ 100000
        · rw [if_pos h, if_pos ⟨hy.1, hy.2, hm.1, hm.2.1, hm.2.2.1, hm.2.2.2, h⟩]
        · rw [if_neg h, if_neg (fun hh => h hh.2.2.2.2.2.2)]
      rw [hr2]
      generalize num y m d = n at *
      have HD := hide hd
      have HX := hide hx
      clear hd hx hr hr2 hm
      by_cases hn : n ≤ 100000
      · rw [if_pos hn]
        go_enter Tryz.func214, Tryz.ntmps214
        go_wp2_with (first | (go_at_call_of 53 (Value.int IntKind.i64 9999); refine (HX.out _).mono ?_; rintro e w' ⟨rfl, rfl⟩) | (go_at_call 222; refine (HD.out _).mono ?_; rintro e w' ⟨rfl, hbl⟩; obtain ⟨os1, n1, rfl⟩ := below_plus hbl; clear hbl) | (go_at_call 53; refine (outsideP_no _ _ _ _ (by omega) (by omega)).mono ?_; rintro e w' ⟨rfl, rfl⟩))
        go_returns
        exact ⟨rfl, by repeat (first | exact Below.refl _ _ | refine bl_plus ?_ | refine bl_alloc ?_ _ | refine bl_drew ?_)⟩
      · rw [if_neg hn]
        go_enter Tryz.func214, Tryz.ntmps214
        go_wp2_with (first | (go_at_call_of 53 (Value.int IntKind.i64 9999); refine (HX.out _).mono ?_; rintro e w' ⟨rfl, rfl⟩) | (go_at_call 222; refine (HD.out _).mono ?_; rintro e w' ⟨rfl, hbl⟩; obtain ⟨os1, n1, rfl⟩ := below_plus hbl; clear hbl) | (go_at_call 53; refine (outsideP_yes _ _ _ _ (by omega)).mono ?_; rintro e w' ⟨rfl, rfl⟩))
        go_returns
        exact ⟨rfl, by repeat (first | exact Below.refl _ _ | refine bl_plus ?_ | refine bl_alloc ?_ _ | refine bl_drew ?_)⟩
    · have hr : dayAtR y m d = (0, false) := if_neg hm
      rw [hr] at hd
      have hr2 : dayOfR y m d = (0, 2) := if_neg (fun hh => hm ⟨hh.2.2.1, hh.2.2.2.1, hh.2.2.2.2.1, hh.2.2.2.2.2.1⟩)
      rw [hr2]
      have HD := hide hd
      have HX := hide hx
      clear hd hx hr hr2 hm
      go_enter Tryz.func214, Tryz.ntmps214
      go_wp2_with (first | (go_at_call_of 53 (Value.int IntKind.i64 9999); refine (HX.out _).mono ?_; rintro e w' ⟨rfl, rfl⟩) | (go_at_call 222; refine (HD.out _).mono ?_; rintro e w' ⟨rfl, hbl⟩; obtain ⟨os1, n1, rfl⟩ := below_plus hbl; clear hbl))
      go_returns
      exact ⟨rfl, by repeat (first | exact Below.refl _ _ | refine bl_plus ?_ | refine bl_alloc ?_ _ | refine bl_drew ?_)⟩
  · have hr2 : dayOfR y m d = (0, 2) := if_neg (fun hh => hy ⟨hh.1, hh.2.1⟩)
    rw [hr2]
    have HX := hide (fun w => outsideP_yes y 2001 9999 w (by omega))
    clear hr2
    go_enter Tryz.func214, Tryz.ntmps214
    go_wp2_with (go_at_call 53; refine (HX.out _).mono ?_; rintro e w' ⟨rfl, rfl⟩)
    go_returns
    exact ⟨rfl, by repeat (first | exact Below.refl _ _ | refine bl_plus ?_ | refine bl_alloc ?_ _ | refine bl_drew ?_)⟩

end Go.Proofs.YtdncmjlakmkfiaaGreatDoor
