/-
  PLAIN AND WALKS: a rule's error, in the program and in the reference.
-/
import Derived.Test.YtjaoiehjhnmahaaGreatDoorRla
set_option linter.all false
namespace Go.Proofs.YtjaoiehjhnmahaaGreatDoor
open Go.RowKit

/-- A rule. -/
structure Rul where
  u : Int
  e : Int
  f : Int
  t : Int
  c : Int
  n : Int
  wd : List Int
  da : List Int
  sk : List Int

def Rul.partsErr (r : Rul) : Int :=
  if (r.wd ≠ [] ∧ r.u ≠ 2 ∧ r.u ≠ 3) ∨ (r.da ≠ [] ∧ (r.u ≠ 3 ∨ r.wd ≠ [])) ∨ ¬ (r.n ≠ 0 ↔ (r.u = 3 ∧ r.wd ≠ [])) then 1 else 0

def Rul.far (r : Rul) : Prop := r.e < 1 ∨ 1000 < r.e ∨ r.f < 0 ∨ 100000 < r.f ∨ r.t < -1 ∨ 100000 < r.t ∨ r.c < 0 ∨ 5000 < r.c

def Rul.err (r : Rul) : Int :=
  if r.u < 1 ∨ 4 < r.u then 10 else
  if r.e < 1 ∨ 1000 < r.e ∨ r.f < 0 ∨ 100000 < r.f ∨ r.t < -1 ∨ 100000 < r.t ∨ r.c < 0 ∨ 5000 < r.c then 2 else
  if r.partsErr ≠ 0 then 1 else
  if rise r.wd 0 6 true ≠ 0 then rise r.wd 0 6 true else
  if rise r.da (-31) 31 false ≠ 0 then rise r.da (-31) 31 false else
  if r.n < -5 ∨ 5 < r.n then 2 else
  if 100 < r.sk.length then 4 else rise r.sk 0 100000 true

/-- A rule as a value, in memory. -/
structure RulAt (w : World) (r : Rul) (v : Value) : Prop where
  ex : ∃ (A B C : Option Addr) (a b c : Nat), v = .agg #[.int .i64 r.u, .int .i64 r.e, .int .i64 r.f, .int .i64 r.t, .int .i64 r.c, .slice A r.wd.length a, .slice B r.da.length b, .int .i64 r.n, .slice C r.sk.length c] ∧
    IntsAt w A r.wd ∧ IntsAt w B r.da ∧ IntsAt w C r.sk ∧ r.wd.length ≤ maxLen ∧ r.da.length ≤ maxLen ∧ r.sk.length ≤ maxLen

theorem RulAt.below {w w' : World} {r : Rul} {v : Value} (h : RulAt w r v) (hb : Below w.heap.size w w') : RulAt w' r v := by
  obtain ⟨A, B, C, a, b, c, rfl, h1, h2, h3, h4⟩ := h.ex
  exact ⟨A, B, C, a, b, c, rfl, h1.below hb, h2.below hb, h3.below hb, h4⟩

theorem Rul.cases1 (r : Rul) : ((r.u < 1 ∨ 4 < r.u) ∧ r.err = 10) ∨ ((1 ≤ r.u ∧ r.u ≤ 4) ∧ (
    ((r.e < 1 ∨ 1000 < r.e) ∧ r.err = 2) ∨ ((1 ≤ r.e ∧ r.e ≤ 1000) ∧ (
    ((r.f < 0 ∨ 100000 < r.f) ∧ r.err = 2) ∨ ((0 ≤ r.f ∧ r.f ≤ 100000) ∧ (
    ((r.t < -1 ∨ 100000 < r.t) ∧ r.err = 2) ∨ ((-1 ≤ r.t ∧ r.t ≤ 100000) ∧ (
    ((r.c < 0 ∨ 5000 < r.c) ∧ r.err = 2) ∨ ((0 ≤ r.c ∧ r.c ≤ 5000) ∧ (
    (r.partsErr = 1 ∧ r.err = 1) ∨ (r.partsErr = 0 ∧ (
    (rise r.wd 0 6 true ≠ 0 ∧ r.err = rise r.wd 0 6 true) ∨ (rise r.wd 0 6 true = 0 ∧ (
    (rise r.da (-31) 31 false ≠ 0 ∧ r.err = rise r.da (-31) 31 false) ∨ (rise r.da (-31) 31 false = 0 ∧ (
    ((r.n < -5 ∨ 5 < r.n) ∧ r.err = 2) ∨ ((-5 ≤ r.n ∧ r.n ≤ 5) ∧ (
    (100 < r.sk.length ∧ r.err = 4) ∨ (r.sk.length ≤ 100 ∧ r.err = rise r.sk 0 100000 true))))))))))))))))))) := by
  have c : ∀ n lo hi : Int, (n < lo ∨ hi < n) ∨ (lo ≤ n ∧ n ≤ hi) := fun n lo hi => by omega
  have hp : r.partsErr = 1 ∨ r.partsErr = 0 := by unfold Rul.partsErr; split <;> simp
  rcases c r.u 1 4 with h | h
  · exact .inl ⟨h, by rw [Rul.err, if_pos h]⟩
  have n1 : ¬ (r.u < 1 ∨ 4 < r.u) := by omega
  refine .inr ⟨h, ?_⟩
  rcases c r.e 1 1000 with h1 | h1
  · exact .inl ⟨h1, by rw [Rul.err, if_neg n1, if_pos (by omega)]⟩
  refine .inr ⟨h1, ?_⟩
  rcases c r.f 0 100000 with h2 | h2
  · exact .inl ⟨h2, by rw [Rul.err, if_neg n1, if_pos (by omega)]⟩
  refine .inr ⟨h2, ?_⟩
  rcases c r.t (-1) 100000 with h3 | h3
  · exact .inl ⟨h3, by rw [Rul.err, if_neg n1, if_pos (by omega)]⟩
  refine .inr ⟨h3, ?_⟩
  rcases c r.c 0 5000 with h4 | h4
  · exact .inl ⟨h4, by rw [Rul.err, if_neg n1, if_pos (by omega)]⟩
  have n2 : ¬ (r.e < 1 ∨ 1000 < r.e ∨ r.f < 0 ∨ 100000 < r.f ∨ r.t < -1 ∨ 100000 < r.t ∨ r.c < 0 ∨ 5000 < r.c) := by omega
  refine .inr ⟨h4, ?_⟩
  rcases hp with h5 | h5
  · exact .inl ⟨h5, by rw [Rul.err, if_neg n1, if_neg n2, if_pos (by omega)]⟩
  refine .inr ⟨h5, ?_⟩
  rcases Decidable.em (rise r.wd 0 6 true = 0) with h6 | h6
  case inr => exact .inl ⟨h6, by rw [Rul.err, if_neg n1, if_neg n2, if_neg (by omega), if_pos h6]⟩
  refine .inr ⟨h6, ?_⟩
  rcases Decidable.em (rise r.da (-31) 31 false = 0) with h7 | h7
  case inr => exact .inl ⟨h7, by rw [Rul.err, if_neg n1, if_neg n2, if_neg (by omega), if_neg (by omega), if_pos h7]⟩
  refine .inr ⟨h7, ?_⟩
  rcases c r.n (-5) 5 with h8 | h8
  · exact .inl ⟨h8, by rw [Rul.err, if_neg n1, if_neg n2, if_neg (by omega), if_neg (by omega), if_neg (by omega), if_pos h8]⟩
  refine .inr ⟨h8, ?_⟩
  by_cases h9 : 100 < r.sk.length
  · exact .inl ⟨h9, by rw [Rul.err, if_neg n1, if_neg n2, if_neg (by omega), if_neg (by omega), if_neg (by omega), if_neg (by omega), if_pos h9]⟩
  · exact .inr ⟨by omega, by rw [Rul.err, if_neg n1, if_neg n2, if_neg (by omega), if_neg (by omega), if_neg (by omega), if_neg (by omega), if_neg h9]⟩

/-- How the parts go together, test by test. -/
theorem Rul.parts_cases (r : Rul) : ∃ lw ld : Nat, r.wd.length = lw ∧ r.da.length = ld ∧
    (((0 < lw ∧ (r.u == 2) = false ∧ (r.u == 3) = false) ∧ r.partsErr = 1) ∨
    ((0 < lw ∧ r.u = 2) ∧ 0 < ld ∧ r.partsErr = 1) ∨ ((0 < lw ∧ r.u = 2) ∧ ld = 0 ∧ r.n = 0 ∧ r.partsErr = 0) ∨ ((0 < lw ∧ r.u = 2) ∧ ld = 0 ∧ (r.n == 0) = false ∧ r.partsErr = 1) ∨
    ((0 < lw ∧ r.u = 3) ∧ 0 < ld ∧ r.partsErr = 1) ∨ ((0 < lw ∧ r.u = 3) ∧ ld = 0 ∧ r.n = 0 ∧ r.partsErr = 1) ∨ ((0 < lw ∧ r.u = 3) ∧ ld = 0 ∧ (r.n == 0) = false ∧ r.partsErr = 0) ∨
    (lw = 0 ∧ 0 < ld ∧ (r.u == 3) = false ∧ r.partsErr = 1) ∨ (lw = 0 ∧ 0 < ld ∧ r.u = 3 ∧ r.n = 0 ∧ r.partsErr = 0) ∨ (lw = 0 ∧ 0 < ld ∧ r.u = 3 ∧ (r.n == 0) = false ∧ r.partsErr = 1) ∨
    (lw = 0 ∧ ld = 0 ∧ r.u = 3 ∧ r.n = 0 ∧ r.partsErr = 0) ∨ (lw = 0 ∧ ld = 0 ∧ r.u = 3 ∧ (r.n == 0) = false ∧ r.partsErr = 1) ∨
    (lw = 0 ∧ ld = 0 ∧ (r.u == 3) = false ∧ r.n = 0 ∧ r.partsErr = 0) ∨ (lw = 0 ∧ ld = 0 ∧ (r.u == 3) = false ∧ (r.n == 0) = false ∧ r.partsErr = 1)) := by
  refine ⟨_, _, rfl, rfl, ?_⟩
  have e1 : r.wd = [] ↔ r.wd.length = 0 := List.length_eq_zero_iff.symm
  have e2 : r.da = [] ↔ r.da.length = 0 := List.length_eq_zero_iff.symm
  unfold Rul.partsErr
  simp only [ne_eq, e1, e2, beq_eq_false_iff_ne]
  by_cases a : r.wd.length = 0 <;> by_cases b : r.da.length = 0 <;> by_cases c : r.u = 3 <;> by_cases d : r.u = 2 <;> by_cases e : r.n = 0 <;> simp [a, b, c, d, e] <;> omega

set_option maxHeartbeats 1600000 in
theorem checkParts_any (r : Rul) (v : Value) (w : World) (h : RulAt w r v) :
    Calls Tryz.prog 104 #[v] w fun e w' => e = .returned (.int .i64 r.partsErr) ∧ Below w.heap.size w w' := by
  obtain ⟨A, B, C, a, b, c, rfl, h1, h2, h3, h4, h5, h6⟩ := h.ex
  unfold maxLen at h4 h5 h6
  obtain ⟨lw, ld, hlw, hld, hc⟩ := r.parts_cases
  rw [hlw] at h4
  rw [hld] at h5
  generalize r.partsErr = P at *
  obtain ⟨u, e, f, t, cc, n, wd, da, sk⟩ := r
  simp only at hlw hld hc h4 h5 h6 ⊢
  rw [hlw, hld]
  clear hlw hld h1 h2 h3
  generalize sk.length = ls at *
  go_enter Tryz.func104, Tryz.ntmps104
  rcases hc with ⟨⟨k1, k2, k3⟩, rfl⟩ | ⟨⟨k1, rfl⟩, k2, rfl⟩ | ⟨⟨k1, rfl⟩, rfl, rfl, rfl⟩ | ⟨⟨k1, rfl⟩, rfl, k2, rfl⟩ | ⟨⟨k1, rfl⟩, k2, rfl⟩ | ⟨⟨k1, rfl⟩, rfl, rfl, rfl⟩ | ⟨⟨k1, rfl⟩, rfl, k2, rfl⟩ | ⟨rfl, k1, k2, rfl⟩ | ⟨rfl, k1, rfl, rfl, rfl⟩ | ⟨rfl, k1, rfl, k2, rfl⟩ | ⟨rfl, rfl, rfl, rfl, rfl⟩ | ⟨rfl, rfl, rfl, k2, rfl⟩ | ⟨rfl, rfl, k1, rfl, rfl⟩ | ⟨rfl, rfl, k1, k2, rfl⟩
  all_goals
    try have q2 : (u != 2) = true := by rw [bne, k2]; rfl
    try have q3 : (u != 3) = true := by first | (rw [bne, k3]; rfl) | (rw [bne, k2]; rfl) | (rw [bne, k1]; rfl)
    try have q9 : (n != 0) = true := by rw [bne, k2]; rfl
    go_wp2
    go_ret
    exact ⟨(by first | rfl | simp [*]), (by repeat (first | exact Below.refl _ _ | refine bl_plus ?_ | refine bl_alloc ?_ _ | refine bl_drew ?_))⟩

theorem checkDayE_yes (d : Int) (w : World) (h : d < 0 ∨ 100000 < d) :
    Calls Tryz.prog 103 #[.int .i64 d] w fun e w' => e = .returned (.int .i64 2) ∧ w = w' := by
  have := checkDay_any d w
  rwa [show dayErr d = 2 from if_pos h] at this

theorem checkDayE_no (d : Int) (w : World) (h : 0 ≤ d) (h1 : d ≤ 100000) :
    Calls Tryz.prog 103 #[.int .i64 d] w fun e w' => e = .returned (.int .i64 0) ∧ w = w' := by
  have := checkDay_any d w
  rwa [show dayErr d = 0 from if_neg (by omega)] at this

set_option maxHeartbeats 3200000 in
set_option maxRecDepth 100000 in
theorem checkRule_any (r : Rul) (v : Value) (w : World) (h : RulAt w r v) :
    Calls Tryz.prog 28 #[v] w fun e w' => e = .returned (.int .i64 r.err) ∧ Below w.heap.size w w' := by
  obtain ⟨A, B, C, a, b, c, rfl, h1, h2, h3, h4, h5, h6⟩ := h.ex
  have hc := r.cases1
  have HP := hide (fun w v h => checkParts_any r v w h)
  have HA := hide h
  have H1 := hide (fun w' hb => checkRising_any A a r.wd 0 6 true w' (h1.below hb) h4)
  have H2 := hide (fun w' hb => checkRising_any B b r.da (-31) 31 false w' (h2.below hb) h5)
  have H3 := hide (fun w' hb => checkRising_any C c r.sk 0 100000 true w' (h3.below hb) h6)
  unfold maxLen at h4 h5 h6
  clear h h1 h2 h3
  generalize r.err = E at *
  generalize r.partsErr = P at *
  generalize rise r.wd 0 6 true = R1 at *
  generalize rise r.da (-31) 31 false = R2 at *
  generalize rise r.sk 0 100000 true = R3 at *
  obtain ⟨u, e, f, t, cc, n, wd, da, sk⟩ := r
  simp only at hc h4 h5 h6 HP HA H1 H2 H3 ⊢
  generalize wd.length = lw at *
  generalize da.length = ld at *
  generalize sk.length = ls at *
  go_enter Tryz.func28, Tryz.ntmps28
  rcases hc with ⟨k1, rfl⟩ | ⟨⟨a1, a2⟩, ⟨k1, rfl⟩ | ⟨⟨b1, b2⟩, ⟨k1, rfl⟩ | ⟨⟨c1, c2⟩, ⟨k1, rfl⟩ | ⟨⟨d1, d2⟩, ⟨k1, rfl⟩ | ⟨⟨e1, e2⟩, ⟨rfl, rfl⟩ | ⟨rfl, ⟨k1, rfl⟩ | ⟨rfl, ⟨k1, rfl⟩ | ⟨rfl, ⟨k1, rfl⟩ | ⟨⟨f1, f2⟩, ⟨k1, rfl⟩ | ⟨k1, rfl⟩⟩⟩⟩⟩⟩⟩⟩⟩⟩
  all_goals
    try have q1 : (R1 != 0) = true := bne_iff_ne.2 k1
    try have q2 : (R2 != 0) = true := bne_iff_ne.2 k1
    go_wp2_with (first
      | (go_at_call 102; first
          | (with_reducible refine Calls.mono (outsideD_yes _ _ _ _ (by omega)) ?_; rintro e w' ⟨rfl, rfl⟩)
          | (with_reducible refine Calls.mono (outsideD_no _ _ _ _ (by omega) (by omega)) ?_; rintro e w' ⟨rfl, rfl⟩))
      | (go_at_call 103; first
          | (with_reducible refine Calls.mono (checkDayE_yes _ _ (by omega)) ?_; rintro e w' ⟨rfl, rfl⟩)
          | (with_reducible refine Calls.mono (checkDayE_no _ _ (by omega) (by omega)) ?_; rintro e w' ⟨rfl, rfl⟩))
      | (go_at_call 104; refine (HP.out _ _ (HA.out.below (by repeat (first | exact Below.refl _ _ | refine bl_plus ?_ | refine bl_alloc ?_ _ | refine bl_drew ?_)))).mono ?_; rintro e w' ⟨rfl, hbl⟩; obtain ⟨os1, n1, rfl⟩ := below_plus hbl; clear hbl)
      | (go_at_call 105; first
          | (with_reducible refine Calls.mono (H1.out _ (by repeat (first | exact Below.refl _ _ | refine bl_plus ?_ | refine bl_alloc ?_ _ | refine bl_drew ?_))) ?_; rintro e w' ⟨rfl, rfl⟩)
          | (with_reducible refine Calls.mono (H2.out _ (by repeat (first | exact Below.refl _ _ | refine bl_plus ?_ | refine bl_alloc ?_ _ | refine bl_drew ?_))) ?_; rintro e w' ⟨rfl, rfl⟩)
          | (with_reducible refine Calls.mono (H3.out _ (by repeat (first | exact Below.refl _ _ | refine bl_plus ?_ | refine bl_alloc ?_ _ | refine bl_drew ?_))) ?_; rintro e w' ⟨rfl, rfl⟩)))
    go_ret
    exact ⟨rfl, (by repeat (first | exact Below.refl _ _ | refine bl_plus ?_ | refine bl_alloc ?_ _ | refine bl_drew ?_))⟩

end Go.Proofs.YtjaoiehjhnmahaaGreatDoor
