/-
  PLAIN: the weeks of a month. WALKS: the small functions of the reference's Grid.
-/
import Derived.Test.YtfklaahakibljaaDayC
import Derived.Test.YtfklaahakibljaaRowI
namespace Go.Proofs.Ytfklaahakibljaa
open Go.RowKit Cal

def dayIn (a b d : Int) : Int := if a ≤ d ∧ d < b then d else -1
def weekRow (a b m : Int) : List Int := (List.range 7).map fun i : Nat => dayIn a b (m + i)
def weekPart (a b m : Int) (k : Nat) : List Int := (List.range 7).map fun i : Nat => if i < k then dayIn a b (m + i) else 0
theorem weekPart_len (a b m : Int) (k : Nat) : (weekPart a b m k).length = 7 := by simp [weekPart]
theorem weekRow_len (a b m : Int) : (weekRow a b m).length = 7 := by simp [weekRow]
theorem weekPart_zero (a b m : Int) : List.replicate 7 0 = weekPart a b m 0 := by
  simp only [weekPart, Nat.not_lt_zero, if_false]
  rfl
theorem weekPart_full (a b m : Int) : weekPart a b m 7 = weekRow a b m := by
  unfold weekPart weekRow
  apply List.map_congr_left
  intro i hi
  rw [if_pos (by simpa using hi)]
theorem weekPart_set (a b m : Int) (k : Nat) : (weekPart a b m k).set k (dayIn a b (m + k)) = weekPart a b m (k + 1) := by
  apply List.ext_getElem?
  intro i
  rw [List.getElem?_set]
  unfold weekPart
  by_cases hik : k = i
  · subst hik
    by_cases hk : k < 7
    · rw [if_pos rfl, if_pos (by simpa using hk)]
      simp [hk]
    · rw [if_pos rfl, if_neg (by simpa using hk), List.getElem?_eq_none (by simp; omega)]
  · rw [if_neg hik]
    by_cases hi : i < 7
    · simp only [List.getElem?_map, List.getElem?_range hi, Option.map_some]
      congr 1
      by_cases h : i < k
      · rw [if_pos h, if_pos (by omega)]
      · rw [if_neg h, if_neg (by omega)]
    · rw [List.getElem?_eq_none (by simp; omega), List.getElem?_eq_none (by simp; omega)]
def weeksTo (a b : Int) (j : Nat) : List (List Int) := (List.range j).map fun i : Nat => weekRow a b (a - a % 7 + 7 * i)
def weekCount (a b : Int) : Nat := ((b - (a - a % 7) + 6) / 7).toNat
theorem weeksTo_succ (a b : Int) (j : Nat) : weeksTo a b (j + 1) = weeksTo a b j ++ [weekRow a b (a - a % 7 + 7 * j)] := by simp [weeksTo, List.range_succ]
theorem weeksTo_len (a b : Int) (j : Nat) : (weeksTo a b j).length = j := by simp [weeksTo]
theorem weeksTo_seven (a b : Int) (j : Nat) : ∀ r ∈ weeksTo a b j, r.length = 7 := by
  intro r hr
  simp only [weeksTo, List.mem_map] at hr
  obtain ⟨i, _, rfl⟩ := hr
  exact weekRow_len _ _ _
theorem weekCount_in {a b : Int} (h : a ≤ b) : b ≤ a - a % 7 + 7 * weekCount a b ∧ a - a % 7 + 7 * weekCount a b < b + 7 := by unfold weekCount; omega

/-- What Grid hands back. -/
def gridR (y m : Int) : List (List Int) × Int :=
  if 2001 ≤ y ∧ y ≤ 9999 ∧ 1 ≤ m ∧ m ≤ 12 ∧ num y m (mlen y m) ≤ 100000 then (weeksTo (num y m 1) (num y m 1 + mlen y m) (weekCount (num y m 1) (num y m 1 + mlen y m)), 0) else ([], 2)
def GridOut (r : List (List Int) × Int) (w : World) (e : Ending) (w' : World) : Prop :=
  ∃ A c, e = .returned (.tuple #[.slice A r.1.length c, .int .i64 r.2]) ∧ RowsAt w' A r.1 ∧ Below w.heap.size w w'
theorem gridOut_err {w w' : World} (hb : Below w.heap.size w w') : GridOut ([], 2) w (.returned (.tuple #[.slice none 0 0, .int .i64 2])) w' := ⟨none, 0, rfl, RowsAt.nil, hb⟩
theorem gridOut_mk {w w' : World} {A : Option Addr} {n c : Nat} {rows : List (List Int)} {v : Value} {c' : Nat} (h : RowsOwn 7 w' w.heap.size v rows) (hv : v = .slice A n c') (h7 : ∀ r ∈ rows, r.length = 7) (hb : Below w.heap.size w w') : GridOut (rows, 0) w (.returned (.tuple #[.slice A n c, .int .i64 0])) w' := by
  subst hv
  have hl := (h.form)
  obtain ⟨A2, c2, he, _⟩ := hl
  injection he with e1 e2 e3
  subst e2
  exact ⟨A, c, rfl, h.at_ h7, hb⟩

theorem span_last {y m : Int} (h1 : 1 ≤ m) (h2 : m ≤ 12) : dateOfR y (m + 1) 1 - 1 = num y m (mlen y m) := by
  have hs := cum_succ (y := y) h1 h2
  by_cases h : m = 12
  · subst h
    rw [show (12 : Int) + 1 = 13 from rfl] at hs ⊢
    rw [dateOfR_13]
    unfold num
    rw [cum_1, yd_succ]
    rw [cum_13] at hs
    omega
  · rw [dateOfR_in (by omega) (by omega)]
    unfold num
    omega
theorem num_last (y m : Int) : num y m (mlen y m) = num y m 1 + mlen y m - 1 := by unfold num; omega

set_option maxHeartbeats 1600000 in
theorem monthSpan_any (y m : Int) (w : World) (hy : 2001 ≤ y) (hy2 : y ≤ 2300) (h1 : 1 ≤ m) (h2 : m ≤ 12) :
    Calls Try.prog 89 #[.int .i64 y, .int .i64 m] w fun e w' => e = .returned (.tuple #[.int .i64 (num y m 1), .int .i64 (num y m (mlen y m))]) ∧ Below w.heap.size w w' := by
  have ha := fun w => dateOf_any y m 1 w hy (by omega) h1 (by omega) (by omega) (by omega)
  have hb := fun w => dateOf_any y (m + 1) 1 w hy (by omega) (by omega) (by omega) (by omega) (by omega)
  rw [dateOfR_in h1 h2] at ha
  have hs := span_last (y := y) h1 h2
  rw [← hs]
  have hbd : -10000000 ≤ dateOfR y (m + 1) 1 ∧ dateOfR y (m + 1) 1 ≤ 10000000 := by
    have h3 := num_last y m
    have h4 : -1000 ≤ yd y ∧ yd y ≤ 200000 := by unfold yd; omega
    have h5 := cum_mono (y := y) (m := 1) (n := m) (by omega) h1 (by omega)
    have h6 := cum_mono (y := y) (m := m) (n := 13) h1 (by omega) (by omega)
    have h7 := mlen_bd y m
    have h8 := lp_01 y
    rw [cum_1] at h5
    rw [cum_13] at h6
    unfold num at hs h3
    omega
  generalize dateOfR y (m + 1) 1 = B at *
  generalize num y m 1 = N at *
  have HA := hide ha
  have HB := hide hb
  clear ha hb hs
  go_enter Try.func89, Try.ntmps89
  go_wp2_with (first
    | (go_at_call 147; ((with_reducible refine (HA.out _).mono ?_); rintro e w' ⟨rfl, hbl⟩; obtain ⟨os1, n1, rfl⟩ := below_plus hbl; clear hbl))
    | (go_at_call 147; ((with_reducible refine (HB.out _).mono ?_); rintro e w' ⟨rfl, hbl⟩; obtain ⟨os2, n2, rfl⟩ := below_plus hbl; clear hbl)))
  go_returns
  exact ⟨rfl, by repeat (first | exact Below.refl _ _ | refine bl_plus ?_ | refine bl_alloc ?_ _ | refine bl_drew ?_)⟩

set_option maxHeartbeats 800000 in
theorem dayOf_ref (n : Int) (w : World) :
    Calls Try.prog 148 #[.int .i64 n] w fun e w' => e = .returned (.tuple #[.int .i64 n, .bool (decide (0 ≤ n ∧ n ≤ 100000))]) ∧ w = w' := by
  have hd := fun w => isDay_any n w
  generalize decide (0 ≤ n ∧ n ≤ 100000) = b at *
  have HD := hide hd
  clear hd
  go_enter Try.func148, Try.ntmps148
  go_wp2_with (go_at_call 91; refine (HD.out _).mono ?_; rintro e w' ⟨rfl, rfl⟩)
  go_returns
  exact ⟨rfl, rfl⟩

def spanR (a b : Int) : Int × Int × Int := if (0 ≤ a ∧ a ≤ 100000) ∧ (0 ≤ b ∧ b ≤ 100000) then (a, b, 0) else (0, 0, 2)
def SpanOut (r : Int × Int × Int) (w : World) (e : Ending) (w' : World) : Prop := e = .returned (.tuple #[.int .i64 r.1, .int .i64 r.2.1, .int .i64 r.2.2]) ∧ w = w'
set_option maxHeartbeats 1600000 in
theorem spanOf_any (a b : Int) (w : World) :
    Calls Try.prog 90 #[.int .i64 a, .int .i64 b] w (SpanOut (spanR a b) w) := by
  have ha := fun w => dayOf_ref a w
  have hb := fun w => dayOf_ref b w
  by_cases h1 : 0 ≤ a ∧ a ≤ 100000
  · by_cases h2 : 0 ≤ b ∧ b ≤ 100000
    · have hr : spanR a b = (a, b, 0) := if_pos ⟨h1, h2⟩
      rw [hr]
      simp only [h1, h2, and_self, decide_true] at ha hb
      have HA := hide ha
      have HB := hide hb
      clear ha hb h1 h2 hr
      go_enter Try.func90, Try.ntmps90
      go_wp2_with (first | (go_at_call 148; ((with_reducible refine (HA.out _).mono ?_); rintro e w' ⟨rfl, rfl⟩)) | (go_at_call 148; ((with_reducible refine (HB.out _).mono ?_); rintro e w' ⟨rfl, rfl⟩)))
      go_returns
      exact ⟨rfl, rfl⟩
    · have hr : spanR a b = (0, 0, 2) := if_neg (fun h => h2 h.2)
      rw [hr]
      simp only [h1, h2, and_self, decide_true, decide_false] at ha hb
      have HA := hide ha
      have HB := hide hb
      clear ha hb h1 h2 hr
      go_enter Try.func90, Try.ntmps90
      go_wp2_with (first | (go_at_call 148; ((with_reducible refine (HA.out _).mono ?_); rintro e w' ⟨rfl, rfl⟩)) | (go_at_call 148; ((with_reducible refine (HB.out _).mono ?_); rintro e w' ⟨rfl, rfl⟩)))
      go_returns
      exact ⟨rfl, rfl⟩
  · have hr : spanR a b = (0, 0, 2) := if_neg (fun h => h1 h.1)
    rw [hr]
    simp only [h1, decide_false] at ha
    generalize decide (0 ≤ b ∧ b ≤ 100000) = q at hb
    have HA := hide ha
    have HB := hide hb
    clear ha hb h1 hr
    go_enter Try.func90, Try.ntmps90
    go_wp2_with (first | (go_at_call 148; ((with_reducible refine (HA.out _).mono ?_); rintro e w' ⟨rfl, rfl⟩)) | (go_at_call 148; ((with_reducible refine (HB.out _).mono ?_); rintro e w' ⟨rfl, rfl⟩)))
    go_returns
    exact ⟨rfl, rfl⟩

end Go.Proofs.Ytfklaahakibljaa
