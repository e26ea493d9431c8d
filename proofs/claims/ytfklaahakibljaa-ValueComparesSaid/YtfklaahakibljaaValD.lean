/-
  WALKS: between two values; days in common.
-/
import Derived.Test.YtfklaahakibljaaValC
namespace Go.Proofs.Ytfklaahakibljaa
open Go.RowKit

def loOk (v x : V) : Prop := x.k = 0 ∨ (x.k = v.k ∧ 0 ≤ cmpV v x)
def hiOk (v x : V) : Prop := x.k = 0 ∨ (x.k = v.k ∧ cmpV v x ≤ 0)
instance (v x : V) : Decidable (loOk v x) := by unfold loOk; infer_instance
instance (v x : V) : Decidable (hiOk v x) := by unfold hiOk; infer_instance
def inV (v lo hi : V) : Bool := decide (loOk v lo) && decide (hiOk v hi)
theorem inV_no1 {v lo hi : V} (h : ¬ loOk v lo) : inV v lo hi = false := by simp [inV, h]
theorem inV_no2 {v lo hi : V} (h : ¬ hiOk v hi) : inV v lo hi = false := by simp [inV, h]
theorem inV_yes {v lo hi : V} (h : loOk v lo) (h2 : hiOk v hi) : inV v lo hi = true := by simp [inV, h, h2]
theorem lo_cases (v x : V) : (x.k = 0 ∧ loOk v x) ∨ (((x.k == 0) = false ∧ (x.k != 0) = true) ∧ ((x.k != v.k) = true ∧ (x.k == v.k) = false) ∧ ¬ loOk v x) ∨ (((x.k == 0) = false ∧ (x.k != 0) = true) ∧ ((x.k != v.k) = false ∧ (x.k == v.k) = true) ∧ cmpV v x < 0 ∧ ¬ loOk v x) ∨ (((x.k == 0) = false ∧ (x.k != 0) = true) ∧ ((x.k != v.k) = false ∧ (x.k == v.k) = true) ∧ 0 ≤ cmpV v x ∧ loOk v x) := by
  unfold loOk
  by_cases h : x.k = 0
  · exact .inl ⟨h, .inl h⟩
  · by_cases h2 : x.k = v.k
    · rw [h2] at h
      by_cases h3 : cmpV v x < 0
      · refine .inr (.inr (.inl ⟨by simp [h2, h], by simp [h2], h3, ?_⟩)); omega
      · refine .inr (.inr (.inr ⟨by simp [h2, h], by simp [h2], by omega, ?_⟩)); omega
    · exact .inr (.inl ⟨by simp [h], by simp [h2], by simp [h, h2]⟩)
theorem hi_cases (v x : V) : (x.k = 0 ∧ hiOk v x) ∨ (((x.k == 0) = false ∧ (x.k != 0) = true) ∧ ((x.k != v.k) = true ∧ (x.k == v.k) = false) ∧ ¬ hiOk v x) ∨ (((x.k == 0) = false ∧ (x.k != 0) = true) ∧ ((x.k != v.k) = false ∧ (x.k == v.k) = true) ∧ 0 < cmpV v x ∧ ¬ hiOk v x) ∨ (((x.k == 0) = false ∧ (x.k != 0) = true) ∧ ((x.k != v.k) = false ∧ (x.k == v.k) = true) ∧ cmpV v x ≤ 0 ∧ hiOk v x) := by
  unfold hiOk
  by_cases h : x.k = 0
  · exact .inl ⟨h, .inl h⟩
  · by_cases h2 : x.k = v.k
    · rw [h2] at h
      by_cases h3 : 0 < cmpV v x
      · refine .inr (.inr (.inl ⟨by simp [h2, h], by simp [h2], h3, ?_⟩)); omega
      · refine .inr (.inr (.inr ⟨by simp [h2, h], by simp [h2], by omega, ?_⟩)); omega
    · exact .inr (.inl ⟨by simp [h], by simp [h2], by simp [h, h2]⟩)

def BoolOut (r : Bool) (w : World) (e : Ending) (w' : World) : Prop := e = .returned (.bool r) ∧ Below w.heap.size w w'

set_option maxHeartbeats 6400000 in
set_option maxRecDepth 100000 in
theorem in_any (v lo hi : V) (A B C : Option Addr) (a b c : Nat) (w : World) (hA : LAt w A v.l) (hB : LAt w B lo.l) (hC : LAt w C hi.l) :
    Calls Try.prog 13 #[v.arg A a, lo.arg B b, hi.arg C c] w (BoolOut (inV v lo hi) w) := by
  have H1 := hide (fun w (hw : Below w.heap.size w w) (hA : LAt w A v.l) (hB : LAt w B lo.l) => compareP v lo A B a b w hA hB)
  have H2 := hide (fun w (hw : Below w.heap.size w w) (hA : LAt w A v.l) (hB : LAt w C hi.l) => compareP v hi A C a c w hA hB)
  generalize hR : inV v lo hi = R
  rcases lo_cases v lo with ⟨h0, hok⟩ | ⟨⟨h0, h1⟩, ⟨h2, h3⟩, hok⟩ | ⟨⟨h0, h1⟩, ⟨h2, h3⟩, h4, hok⟩ | ⟨⟨h0, h1⟩, ⟨h2, h3⟩, h4, hok⟩
  all_goals
    rcases hi_cases v hi with ⟨g0, gok⟩ | ⟨⟨g0, g1⟩, ⟨g2, g3⟩, gok⟩ | ⟨⟨g0, g1⟩, ⟨g2, g3⟩, g4, gok⟩ | ⟨⟨g0, g1⟩, ⟨g2, g3⟩, g4, gok⟩
  all_goals
    first | rw [inV_no1 hok] at hR | rw [inV_no2 gok] at hR | rw [inV_yes hok gok] at hR
    subst hR
    clear hok gok
    generalize cmpV v lo = r1 at *
    generalize cmpV v hi = r2 at *
    obtain ⟨vk, vi, vt, vs, vl⟩ := v
    obtain ⟨lk, li, lt, ls, ll⟩ := lo
    obtain ⟨hk, hi', ht, hs, hl⟩ := hi
    simp only [V.k, V.i, V.t, V.s, V.l, V.arg] at *
    try subst h0
    try subst g0
    have HA := hide hA
    have HB := hide hB
    have HC := hide hC
    clear hA hB hC
    go_enter Try.func13, Try.ntmps13
    go_wp2_with (first
      | (go_at_call 11; ((with_reducible refine (H1.out _ (Below.refl _ _) (HA.out.below (by repeat (first | exact Below.refl _ _ | refine bl_plus ?_ | refine bl_alloc ?_ _ | refine bl_drew ?_))) (HB.out.below (by repeat (first | exact Below.refl _ _ | refine bl_plus ?_ | refine bl_alloc ?_ _ | refine bl_drew ?_)))).mono ?_); rintro e w' ⟨rfl, hb⟩; obtain ⟨os1, n1, rfl⟩ := below_plus hb; clear hb))
      | (go_at_call 11; ((with_reducible refine (H2.out _ (Below.refl _ _) (HA.out.below (by repeat (first | exact Below.refl _ _ | refine bl_plus ?_ | refine bl_alloc ?_ _ | refine bl_drew ?_))) (HC.out.below (by repeat (first | exact Below.refl _ _ | refine bl_plus ?_ | refine bl_alloc ?_ _ | refine bl_drew ?_)))).mono ?_); rintro e w' ⟨rfl, hb⟩; obtain ⟨os2, n2, rfl⟩ := below_plus hb; clear hb)))
    go_ret
    refine ⟨?_, by repeat (first | exact Below.refl _ _ | refine bl_plus ?_ | refine bl_alloc ?_ _ | refine bl_drew ?_)⟩
    first | rfl | exact ret_bool (by simp; omega)

def daysV (v : V) : Int × Int × Bool := if v.k = 4 then (v.i, v.i, true) else if v.k = 5 then (v.i, v.t, true) else (0, 0, false)
def DaysOut (r : Int × Int × Bool) (w : World) (e : Ending) (w' : World) : Prop := e = .returned (.tuple #[.int .i64 r.1, .int .i64 r.2.1, .bool r.2.2]) ∧ Below w.heap.size w w'
def meetsV (p q : Int × Int × Bool) : Bool := p.2.2 && q.2.2 && decide (max p.1 q.1 ≤ min p.2.1 q.2.1)

set_option maxHeartbeats 3200000 in
set_option maxRecDepth 100000 in
theorem days_any (v : V) (A : Option Addr) (a : Nat) (w : World) :
    Calls Try.prog 54 #[v.arg A a] w (DaysOut (daysV v) w) := by
  have hc : (v.k = 4 ∧ daysV v = (v.i, v.i, true)) ∨ (v.k = 5 ∧ daysV v = (v.i, v.t, true)) ∨ ((v.k == 4) = false ∧ (v.k == 5) = false ∧ daysV v = (0, 0, false)) := by
    unfold daysV
    by_cases h4 : v.k = 4
    · exact .inl ⟨h4, by rw [if_pos h4]⟩
    · by_cases h5 : v.k = 5
      · exact .inr (.inl ⟨h5, by rw [if_neg h4, if_pos h5]⟩)
      · exact .inr (.inr ⟨by simp [h4], by simp [h5], by rw [if_neg h4, if_neg h5]⟩)
  generalize daysV v = R at hc
  obtain ⟨vk, vi, vt, vs, vl⟩ := v
  simp only [V.k, V.i, V.t, V.s, V.l, V.arg] at *
  rcases hc with ⟨rfl, rfl⟩ | ⟨rfl, rfl⟩ | ⟨h1, h2, rfl⟩
  iterate 2
    · go_enter Try.func54, Try.ntmps54
      go_wp2_with fail
      go_quiet (fail)
      go_wp2
      go_returns
      exact ⟨rfl, bl_drewN (by repeat (first | exact Below.refl _ _ | refine bl_plus ?_ | refine bl_alloc ?_ _ | refine bl_drew ?_)) _⟩
  · go_enter Try.func54, Try.ntmps54
    go_wp2
    go_returns
    exact ⟨rfl, by repeat (first | exact Below.refl _ _ | refine bl_plus ?_ | refine bl_alloc ?_ _ | refine bl_drew ?_)⟩

set_option maxHeartbeats 3200000 in
set_option maxRecDepth 100000 in
theorem daysOf_any (v : V) (A : Option Addr) (a : Nat) (w : World) :
    Calls Try.prog 55 #[v.arg A a] w (DaysOut (daysV v) w) := by
  have hc : (v.k = 4 ∧ daysV v = (v.i, v.i, true)) ∨ (v.k = 5 ∧ daysV v = (v.i, v.t, true)) ∨ ((v.k == 4) = false ∧ (v.k == 5) = false ∧ daysV v = (0, 0, false)) := by
    unfold daysV
    by_cases h4 : v.k = 4
    · exact .inl ⟨h4, by rw [if_pos h4]⟩
    · by_cases h5 : v.k = 5
      · exact .inr (.inl ⟨h5, by rw [if_neg h4, if_pos h5]⟩)
      · exact .inr (.inr ⟨by simp [h4], by simp [h5], by rw [if_neg h4, if_neg h5]⟩)
  generalize daysV v = R at hc
  obtain ⟨vk, vi, vt, vs, vl⟩ := v
  simp only [V.k, V.i, V.t, V.s, V.l, V.arg] at *
  rcases hc with ⟨rfl, rfl⟩ | ⟨rfl, rfl⟩ | ⟨h1, h2, rfl⟩
  iterate 2
    · go_enter Try.func55, Try.ntmps55
      go_wp2_with fail
      go_quiet (fail)
      go_wp2
      go_returns
      exact ⟨rfl, bl_drewN (by repeat (first | exact Below.refl _ _ | refine bl_plus ?_ | refine bl_alloc ?_ _ | refine bl_drew ?_)) _⟩
  · go_enter Try.func55, Try.ntmps55
    go_wp2
    go_returns
    exact ⟨rfl, by repeat (first | exact Below.refl _ _ | refine bl_plus ?_ | refine bl_alloc ?_ _ | refine bl_drew ?_)⟩

set_option maxHeartbeats 3200000 in
set_option maxRecDepth 100000 in
theorem meets_any (v x : V) (A B : Option Addr) (a b : Nat) (w : World) :
    Calls Try.prog 15 #[v.arg A a, x.arg B b] w (BoolOut (meetsV (daysV v) (daysV x)) w) := by
  have H1 := hide (fun w => days_any v A a w)
  have H2 := hide (fun w => days_any x B b w)
  generalize daysV v = p at H1 ⊢
  generalize daysV x = q at H2 ⊢
  obtain ⟨p1, p2, p3⟩ := p
  obtain ⟨q1, q2, q3⟩ := q
  obtain ⟨vk, vi, vt, vs, vl⟩ := v
  obtain ⟨xk, xi, xt, xs, xl⟩ := x
  simp only [V.k, V.i, V.t, V.s, V.l, V.arg] at *
  have hmx := fun (w : World) ts t x y => run_max_i (P := Try.prog) (w := w) ts t x y
  have hmn := fun (w : World) ts t x y => run_min_i (P := Try.prog) (w := w) ts t x y
  cases p3 <;> cases q3
  all_goals
    go_enter Try.func15, Try.ntmps15
    go_wp2_with (first
      | (go_at_call 54; ((with_reducible refine (H1.out _).mono ?_); rintro e w' ⟨rfl, hb⟩; obtain ⟨os1, n1, rfl⟩ := below_plus hb; clear hb))
      | (go_at_call 54; ((with_reducible refine (H2.out _).mono ?_); rintro e w' ⟨rfl, hb⟩; obtain ⟨os2, n2, rfl⟩ := below_plus hb; clear hb)))
    go_ret
    refine ⟨?_, by repeat (first | exact Below.refl _ _ | refine bl_plus ?_ | refine bl_alloc ?_ _ | refine bl_drew ?_)⟩
    first | rfl | exact ret_bool (by simp [meetsV])

set_option maxHeartbeats 3200000 in
set_option maxRecDepth 100000 in
theorem meetsOf_any (v x : V) (A B : Option Addr) (a b : Nat) (w : World) :
    Calls Try.prog 16 #[v.arg A a, x.arg B b] w (BoolOut (meetsV (daysV v) (daysV x)) w) := by
  have H1 := hide (fun w => daysOf_any v A a w)
  have H2 := hide (fun w => daysOf_any x B b w)
  generalize daysV v = p at H1 ⊢
  generalize daysV x = q at H2 ⊢
  obtain ⟨p1, p2, p3⟩ := p
  obtain ⟨q1, q2, q3⟩ := q
  obtain ⟨vk, vi, vt, vs, vl⟩ := v
  obtain ⟨xk, xi, xt, xs, xl⟩ := x
  simp only [V.k, V.i, V.t, V.s, V.l, V.arg] at *
  have hmx := fun (w : World) ts t x y => run_max_i (P := Try.prog) (w := w) ts t x y
  have hmn := fun (w : World) ts t x y => run_min_i (P := Try.prog) (w := w) ts t x y
  cases p3 <;> cases q3
  all_goals
    go_enter Try.func16, Try.ntmps16
    go_wp2_with (first
      | (go_at_call 55; ((with_reducible refine (H1.out _).mono ?_); rintro e w' ⟨rfl, hb⟩; obtain ⟨os1, n1, rfl⟩ := below_plus hb; clear hb))
      | (go_at_call 55; ((with_reducible refine (H2.out _).mono ?_); rintro e w' ⟨rfl, hb⟩; obtain ⟨os2, n2, rfl⟩ := below_plus hb; clear hb)))
    go_ret
    refine ⟨?_, by repeat (first | exact Below.refl _ _ | refine bl_plus ?_ | refine bl_alloc ?_ _ | refine bl_drew ?_)⟩
    first | rfl | exact ret_bool (by simp [meetsV])

end Go.Proofs.Ytfklaahakibljaa
