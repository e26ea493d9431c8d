/-
  WALKS: graded.
-/
import Derived.Test.YtokghdcfbbogdaaWalkA
import Derived.Deep.DeepCutAuto
import Derived.Test.YtokghdcfbbogdaaWalkC
import Derived.Test.YtokghdcfbbogdaaPlain
import Derived.Test.YtokghdcfbbogdaaBlk
namespace Go.Proofs.Ytokghdcfbbogdaa
open Go.RowKit
attribute [local go_sem high] run_max_i run_min_i

theorem idx5_0 (a0 a1 a2 a3 a4 : Int) (w : World) : (Instr.index 114 (.agg #[.int .i64 a0, .int .i64 a1, .int .i64 a2, .int .i64 a3, .int .i64 a4]) (.int .i64 0)).run Try.prog w = .ok (.int .i64 a0) w := by kernel_rfl
theorem idx5_1 (a0 a1 a2 a3 a4 : Int) (w : World) : (Instr.index 114 (.agg #[.int .i64 a0, .int .i64 a1, .int .i64 a2, .int .i64 a3, .int .i64 a4]) (.int .i64 1)).run Try.prog w = .ok (.int .i64 a1) w := by kernel_rfl
theorem idx5_2 (a0 a1 a2 a3 a4 : Int) (w : World) : (Instr.index 114 (.agg #[.int .i64 a0, .int .i64 a1, .int .i64 a2, .int .i64 a3, .int .i64 a4]) (.int .i64 2)).run Try.prog w = .ok (.int .i64 a2) w := by kernel_rfl
theorem idx5_3 (a0 a1 a2 a3 a4 : Int) (w : World) : (Instr.index 114 (.agg #[.int .i64 a0, .int .i64 a1, .int .i64 a2, .int .i64 a3, .int .i64 a4]) (.int .i64 3)).run Try.prog w = .ok (.int .i64 a3) w := by kernel_rfl
theorem idx5_4 (a0 a1 a2 a3 a4 : Int) (w : World) : (Instr.index 114 (.agg #[.int .i64 a0, .int .i64 a1, .int .i64 a2, .int .i64 a3, .int .i64 a4]) (.int .i64 4)).run Try.prog w = .ok (.int .i64 a4) w := by kernel_rfl
theorem idx3_0 (a0 a1 a2 : Int) (w : World) : (Instr.index 81 (.agg #[.int .i64 a0, .int .i64 a1, .int .i64 a2]) (.int .i64 0)).run Try.prog w = .ok (.int .i64 a0) w := by kernel_rfl
theorem idx3_1 (a0 a1 a2 : Int) (w : World) : (Instr.index 81 (.agg #[.int .i64 a0, .int .i64 a1, .int .i64 a2]) (.int .i64 1)).run Try.prog w = .ok (.int .i64 a1) w := by kernel_rfl
theorem idx3_2 (a0 a1 a2 : Int) (w : World) : (Instr.index 81 (.agg #[.int .i64 a0, .int .i64 a1, .int .i64 a2]) (.int .i64 2)).run Try.prog w = .ok (.int .i64 a2) w := by kernel_rfl
attribute [local go_sem] idx5_0 idx5_1 idx5_2 idx5_3 idx5_4 idx3_0 idx3_1 idx3_2

set_option maxHeartbeats 2000000 in
set_option maxRecDepth 100000 in
theorem graded_any (x : St) (g d : Int) (w : World) (hx : x.Good) (hg : g = 1 ∨ g = 2 ∨ g = 3 ∨ g = 4) (h7 : 0 ≤ d) (h8 : d ≤ 100000) :
    Calls Try.prog 56 #[x.val, .int .i64 g, .int .i64 d] w fun e w' => e = .returned (x.graded g d).val ∧ Below w.heap.size w w' := by
  have hst := fun w => steps_any x d w hx h7 h8
  obtain ⟨S, E, L, hcase, hV⟩ := x.graded_cases g d hg
  rw [hV]
  generalize x.sh d = sh at hst hcase
  generalize x.sg d = sg at hst hcase
  generalize x.se d = se at hst hcase
  clear hV hg
  obtain ⟨bl, no, st, ea, du, la, ti, lp, bu⟩ := x
  obtain ⟨-, -, -, ⟨e1, e2⟩, -, -, -, ⟨t1, t2⟩, ⟨l1, l2⟩⟩ := hx
  simp only [St.val] at hst ⊢
  simp only at e1 e2 t1 t2 l1 l2 hcase
  have H := hide hst
  clear hst
  rcases hcase with ⟨rfl, hs, hS, hE, hL⟩ | ⟨rfl, hs, hS, hE, hL⟩ | ⟨rfl, hS, hE, hL⟩ | ⟨rfl, hS, hE, hL⟩ | ⟨rfl, hS, hE, hL⟩
  all_goals
    have HS := hide hS
    have HE := hide hE
    have HL := hide hL
    clear hS hE hL
    go_enter Try.func56, Try.ntmps56
    go_upto_region 6 with (go_at_call 90; refine (H.out _).mono ?_; rintro e w' ⟨rfl, hb⟩; obtain ⟨os, n, rfl⟩ := below_plus hb; clear hb)
    go_big_region
    go_wp2
    go_returns
    exact ⟨by rw [HS.out, HE.out, HL.out], plus_below ((((Below.refl _ _).alloc (Nat.le_refl _) _).alloc (by simp) _).alloc (by simp; omega) _) (by simp; omega)⟩

end Go.Proofs.Ytokghdcfbbogdaa
/-
  WALKS: the reference's steps; New and NewOf; the names.
-/
namespace Go.Proofs.Ytokghdcfbbogdaa
open Go.RowKit
attribute [local go_sem high] run_max_i run_min_i

set_option maxHeartbeats 400000 in
theorem rsteps_new (x : St) (d : Int) (w : World) (h : x.st = 0) :
    Calls Try.prog 60 #[x.val, .int .i64 d] w fun e w' => e = .returned (.agg #[.int .i64 1, .int .i64 2, .int .i64 4]) ∧ Below w.heap.size w w' := by
  obtain ⟨bl, no, st, ea, du, la, ti, lp, bu⟩ := x
  unfold St.val
  simp only at h
  subst h
  go_enter Try.func60, Try.ntmps60
  go_wp2
  go_returns
  exact ⟨rfl, ((Below.refl _ _).alloc (Nat.le_refl _) _).alloc (by simp) _⟩

set_option maxHeartbeats 1000000 in
theorem rsteps_old (x : St) (d : Int) (w : World) (h1 : 1 ≤ x.st) (h2 : x.st ≤ 3650) (h3 : 130 ≤ x.ea) (h4 : x.ea ≤ 400) (h5 : -1 ≤ x.la) (h6 : x.la ≤ 100000) (h7 : 0 ≤ d) (h8 : d ≤ 100000) :
    Calls Try.prog 60 #[x.val, .int .i64 d] w fun e w' => e = .returned (.agg #[.int .i64 (x.hard d), .int .i64 (x.good d), .int .i64 (x.easy d)]) ∧ Below w.heap.size w w' := by
  obtain ⟨bl, no, st, ea, du, la, ti, lp, bu⟩ := x
  unfold St.hard St.good St.easy St.hard St.good St.hard St.t St.val
  simp only at h1 h2 h3 h4 h5 h6 ⊢
  have hs : (st == 0) = false := by simp; omega
  have hc : (d - la > st + 30 ∧ min (max (d - la) st) (st + 30) = st + 30) ∨ (d - la ≤ st + 30 ∧ d - la < st ∧ min (max (d - la) st) (st + 30) = st) ∨ (d - la ≤ st + 30 ∧ st ≤ d - la ∧ min (max (d - la) st) (st + 30) = d - la) := by omega
  generalize min (max (d - la) st) (st + 30) = t at hc ⊢
  have htb : 0 ≤ t ∧ t ≤ 3680 := by omega
  have p1 := mul_bd (a := ea) (b := t) (m := 400) (n := 3680) (by omega) h4 (by omega) (by omega)
  have p2 := mul_bd (a := 13 * ea) (b := t) (m := 5200) (n := 3680) (by omega) (by omega) (by omega) (by omega)
  obtain ⟨p1, p3⟩ := p1
  obtain ⟨p2, p4⟩ := p2
  rcases hc with ⟨k1, rfl⟩ | ⟨k1, k2, rfl⟩ | ⟨k1, k2, rfl⟩
  all_goals
    go_enter Try.func60, Try.ntmps60
    go_wp2
    go_returns
    exact ⟨rfl, ((Below.refl _ _).alloc (Nat.le_refl _) _).alloc (by simp) _⟩

theorem rsteps_any (x : St) (d : Int) (w : World) (hx : x.Good) (h7 : 0 ≤ d) (h8 : d ≤ 100000) :
    Calls Try.prog 60 #[x.val, .int .i64 d] w fun e w' => e = .returned (.agg #[.int .i64 (x.sh d), .int .i64 (x.sg d), .int .i64 (x.se d)]) ∧ Below w.heap.size w w' := by
  by_cases h : x.st = 0
  · exact (rsteps_new x d w h).mono fun _ _ ⟨he, hw⟩ => ⟨by rw [he]; simp [St.sh, St.sg, St.se, h], hw⟩
  · have := hx.st
    exact (rsteps_old x d w (by omega) this.2 hx.ea.1 hx.ea.2 hx.la.1 hx.la.2 h7 h8).mono fun _ _ ⟨he, hw⟩ => ⟨by rw [he]; simp [St.sh, St.sg, St.se, h], hw⟩

def St.zeroVal : Value := .agg #[.int .i64 0, .int .i64 0, .int .i64 0, .int .i64 0, .int .i64 0, .int .i64 0, .int .i64 0, .int .i64 0, .int .i64 0]

set_option maxHeartbeats 800000 in
theorem new_any (bl no : Int) (w : World) :
    Calls Try.prog 44 #[.int .i64 bl, .int .i64 no] w fun e w' => e = .returned (.tuple #[(St.new bl no).1.val, .int .i64 (St.new bl no).2]) ∧ Below w.heap.size w w' := by
  have hck := fun w => checkState_any (St.fresh bl no) w
  have hfr := fun w => fresh_any bl no w
  unfold St.new
  generalize (St.fresh bl no).err = r at hck ⊢
  simp only [St.fresh, St.val] at hck hfr ⊢
  have H := hide hck
  have HF := hide hfr
  clear hck hfr
  by_cases h : r = 0
  all_goals
    have hb : (r == 0) = decide (r = 0) := by simp [h]
    simp only [h, if_true, if_false, decide_true, decide_false] at hb ⊢
    try subst h
    go_enter Try.func44, Try.ntmps44
    go_wp2_with (first | (go_at_call 85; refine (HF.out _).mono ?_; rintro e w' ⟨rfl, hb⟩; obtain ⟨os, n, rfl⟩ := below_plus hb; clear hb) | (go_at_call 43; refine (H.out _).mono ?_; rintro e w' ⟨rfl, hb⟩; obtain ⟨os, n, rfl⟩ := below_plus hb; clear hb))
    go_returns
    exact ⟨rfl, by repeat (first | exact Below.refl _ _ | refine bl_plus ?_ | refine bl_alloc ?_ _ | refine bl_drew ?_)⟩

set_option maxHeartbeats 800000 in
theorem newOf_any (bl no : Int) (w : World) :
    Calls Try.prog 57 #[.int .i64 bl, .int .i64 no] w fun e w' => e = .returned (.tuple #[(St.new bl no).1.val, .int .i64 (St.new bl no).2]) ∧ Below w.heap.size w w' := by
  have hck := fun w => stateFault_any (St.fresh bl no) w
  unfold St.new
  generalize (St.fresh bl no).err = r at hck ⊢
  simp only [St.fresh, St.val] at hck ⊢
  have H := hide hck
  clear hck
  by_cases h : r = 0
  all_goals
    have hb : (r == 0) = decide (r = 0) := by simp [h]
    simp only [h, if_true, if_false, decide_true, decide_false] at hb ⊢
    try subst h
    go_enter Try.func57, Try.ntmps57
    go_wp2_with (go_at_call 58; refine (H.out _).mono ?_; rintro e w' ⟨rfl, hb⟩; obtain ⟨os, n, rfl⟩ := below_plus hb; clear hb)
    go_returns
    exact ⟨rfl, by repeat (first | exact Below.refl _ _ | refine bl_plus ?_ | refine bl_alloc ?_ _ | refine bl_drew ?_)⟩

/-- What tells a card: block and number. -/
def nameVal (a b : Int) : Value := .agg #[.int .i64 a, .int .i64 b]

set_option maxHeartbeats 400000 in
theorem stateName_any (x : St) (w : World) :
    Calls Try.prog 54 #[x.val] w fun e w' => e = .returned (.agg #[.int .i64 x.bl, .int .i64 x.no]) ∧ Below w.heap.size w w' := by
  unfold St.val
  go_enter Try.func54, Try.ntmps54
  go_wp2
  go_returns
  exact ⟨rfl, by repeat (first | exact Below.refl _ _ | refine bl_plus ?_ | refine bl_alloc ?_ _ | refine bl_drew ?_)⟩

set_option maxHeartbeats 400000 in
theorem reviewName_any (a b c d : Int) (w : World) :
    Calls Try.prog 53 #[.agg #[.int .i64 a, .int .i64 b, .int .i64 c, .int .i64 d]] w fun e w' => e = .returned (.agg #[.int .i64 a, .int .i64 b]) ∧ Below w.heap.size w w' := by
  go_enter Try.func53, Try.ntmps53
  go_wp2
  go_returns
  exact ⟨rfl, by repeat (first | exact Below.refl _ _ | refine bl_plus ?_ | refine bl_alloc ?_ _ | refine bl_drew ?_)⟩

end Go.Proofs.Ytokghdcfbbogdaa
/-
  WALKS: GradeOf, the reference's Grade; Grade itself.
-/
namespace Go.Proofs.Ytokghdcfbbogdaa
open Go.RowKit
attribute [local go_sem high] run_max_i run_min_i
attribute [local go_sem] idx5_0 idx5_1 idx5_2 idx5_3 idx5_4 idx3_0 idx3_1 idx3_2

theorem tup_st {a0 a1 a2 a3 a4 a5 a6 a7 a8 b0 b1 b2 b3 b4 b5 b6 b7 b8 r s : Int} (h0 : a0 = b0) (h1 : a1 = b1) (h2 : a2 = b2) (h3 : a3 = b3) (h4 : a4 = b4) (h5 : a5 = b5) (h6 : a6 = b6) (h7 : a7 = b7) (h8 : a8 = b8) (h : r = s) :
    Ending.returned (.tuple #[.agg #[.int .i64 a0, .int .i64 a1, .int .i64 a2, .int .i64 a3, .int .i64 a4, .int .i64 a5, .int .i64 a6, .int .i64 a7, .int .i64 a8], .int .i64 r]) =
      Ending.returned (.tuple #[.agg #[.int .i64 b0, .int .i64 b1, .int .i64 b2, .int .i64 b3, .int .i64 b4, .int .i64 b5, .int .i64 b6, .int .i64 b7, .int .i64 b8], .int .i64 s]) := by
  subst h0 h1 h2 h3 h4 h5 h6 h7 h8 h; rfl

theorem St.s_pos (x : St) (d : Int) (hx : x.Good) : 1 ≤ x.sh d ∧ 1 ≤ x.sg d ∧ 1 ≤ x.se d := by
  have := hx.st
  have h1 : 1 ≤ x.hard d := by unfold St.hard; omega
  have h2 : 1 ≤ x.good d := by unfold St.good; omega
  have h3 : 1 ≤ x.easy d := by unfold St.easy; omega
  unfold St.sh St.sg St.se
  refine ⟨?_, ?_, ?_⟩ <;> split <;> omega

set_option maxHeartbeats 800000 in
set_option maxRecDepth 100000 in
theorem gradeOf_bad (x : St) (g d : Int) (w : World) (h : x.err ≠ 0) :
    Calls Try.prog 16 #[x.val, .int .i64 g, .int .i64 d] w fun e w' => e = .returned (.tuple #[St.zero.val, .int .i64 x.err]) ∧ Below w.heap.size w w' := by
  have hck := fun w => stateFault_any x w
  generalize x.err = r at hck h ⊢
  obtain ⟨bl, no, st, ea, du, la, ti, lp, bu⟩ := x
  simp only [St.zero, St.val] at hck ⊢
  have H := hide hck
  clear hck
  have hr : (r == 0) = false := by simp [h]
  clear h
  go_enter Try.func16, Try.ntmps16
  go_wp2_with (go_at_call 58; refine (H.out _).mono ?_; rintro e w' ⟨rfl, hb⟩; obtain ⟨os, n, rfl⟩ := below_plus hb; clear hb)
  go_returns
  exact ⟨rfl, by repeat (first | exact Below.refl _ _ | refine bl_plus ?_ | refine bl_alloc ?_ _ | refine bl_drew ?_)⟩

set_option maxHeartbeats 2000000 in
set_option maxRecDepth 100000 in
theorem gradeOf_err (x : St) (g d : Int) (w : World) (h : x.err = 0) (hg : gradeErr x g d ≠ 0) :
    Calls Try.prog 16 #[x.val, .int .i64 g, .int .i64 d] w fun e w' => e = .returned (.tuple #[St.zero.val, .int .i64 (gradeErr x g d)]) ∧ Below w.heap.size w w' := by
  have hck := fun w => stateFault_any x w
  rw [h] at hck
  have hc := gradeErr_cases x g d
  generalize gradeErr x g d = r at hc hg ⊢
  clear h
  obtain ⟨bl, no, st, ea, du, la, ti, lp, bu⟩ := x
  simp only [St.zero, St.val] at hck hc ⊢
  have H := hide hck
  clear hck
  have hc : (g < 1 ∧ r = 10) ∨ (1 ≤ g ∧ 4 < g ∧ r = 10) ∨ ((1 ≤ g ∧ g ≤ 4) ∧ (d < 0 ∨ 100000 < d) ∧ r = 2) ∨ ((1 ≤ g ∧ g ≤ 4) ∧ (0 ≤ d ∧ d ≤ 100000) ∧ d < la ∧ r = 5) := by omega
  clear hg
  rcases hc with ⟨k1, rfl⟩ | ⟨k1, k2, rfl⟩ | ⟨⟨k1, k2⟩, k3, rfl⟩ | ⟨⟨k1, k2⟩, ⟨k3, k4⟩, k5, rfl⟩
  all_goals
    go_enter Try.func16, Try.ntmps16
    go_wp2_with (first | (go_at_call 58; refine (H.out _).mono ?_; rintro e w' ⟨rfl, hb⟩; obtain ⟨os, n, rfl⟩ := below_plus hb; clear hb) | (go_at_call 59; first | (refine (isDay_yes _ _ (by omega) (by omega)).mono ?_; rintro e w' ⟨rfl, rfl⟩) | (refine (isDay_no _ _ (by omega)).mono ?_; rintro e w' ⟨rfl, rfl⟩)))
    go_returns
    exact ⟨rfl, by repeat (first | exact Below.refl _ _ | refine bl_plus ?_ | refine bl_alloc ?_ _ | refine bl_drew ?_)⟩

set_option maxHeartbeats 4000000 in
set_option maxRecDepth 100000 in
theorem gradeOf_ok (x : St) (g d : Int) (w : World) (h : x.err = 0) (hg0 : gradeErr x g d = 0) :
    Calls Try.prog 16 #[x.val, .int .i64 g, .int .i64 d] w fun e w' => e = .returned (.tuple #[(x.graded g d).val, .int .i64 0]) ∧ Below w.heap.size w w' := by
  have hck := fun w => stateFault_any x w
  rw [h] at hck
  have hx := St.good_of_err h
  obtain ⟨hg, h7, h8, hla⟩ := gradeErr_zero hg0
  have hst := fun w => rsteps_any x d w hx h7 h8
  obtain ⟨S, E, L, hcase, hV⟩ := x.graded_cases g d hg
  have hpos := x.s_pos d hx
  rw [hV]
  generalize x.sh d = sh at hst hcase hpos
  generalize x.sg d = sg at hst hcase hpos
  generalize x.se d = se at hst hcase hpos
  clear hV hg h hg0
  obtain ⟨bl, no, st, ea, du, la, ti, lp, bu⟩ := x
  obtain ⟨-, -, ⟨st1, st2⟩, ⟨e1, e2⟩, -, ⟨la1, la2⟩, -, ⟨t1, t2⟩, ⟨l1, l2⟩⟩ := hx
  obtain ⟨p1, p2, p3⟩ := hpos
  simp only [St.val] at hst hck ⊢
  simp only at e1 e2 t1 t2 l1 l2 la1 la2 st1 st2 hcase hla
  have H := hide hst
  have HC := hide hck
  clear hst hck
  rcases hcase with ⟨rfl, hs, hS, hE, hL⟩ | ⟨rfl, hs, hS, hE, hL⟩ | ⟨rfl, hS, hE, hL⟩ | ⟨rfl, hS, hE, hL⟩ | ⟨rfl, hS, hE, hL⟩
  all_goals
    have HS := hide hS
    have HE := hide hE
    have HL := hide hL
    clear hS hE hL
    go_enter Try.func16, Try.ntmps16
    go_wp2_with (first | (go_at_call 60; refine (H.out _).mono ?_; rintro e w' ⟨rfl, hb⟩; obtain ⟨os, n, rfl⟩ := below_plus hb; clear hb) | (go_at_call 58; refine (HC.out _).mono ?_; rintro e w' ⟨rfl, hb⟩; obtain ⟨os, n, rfl⟩ := below_plus hb; clear hb) | (go_at_call 59; refine (isDay_yes _ _ (by omega) (by omega)).mono ?_; rintro e w' ⟨rfl, rfl⟩))
    first | (go_big_region; go_wp2) | skip
    go_returns
    exact ⟨by rw [HS.out, HE.out, HL.out]; exact tup_st rfl rfl (by omega) (by omega) (by omega) rfl rfl (by omega) rfl rfl, by repeat (first | exact Below.refl _ _ | refine bl_plus ?_ | refine bl_alloc ?_ _ | refine bl_drew ?_)⟩

theorem gradeOf_any (x : St) (g d : Int) (w : World) :
    Calls Try.prog 16 #[x.val, .int .i64 g, .int .i64 d] w fun e w' => e = .returned (.tuple #[(x.grade g d).1.val, .int .i64 (x.grade g d).2]) ∧ Below w.heap.size w w' := by
  unfold St.grade
  by_cases h : x.err = 0
  · by_cases hg : gradeErr x g d = 0
    · simp only [h, hg, if_true]; exact gradeOf_ok x g d w h hg
    · simp only [h, hg, if_true, if_false]; exact gradeOf_err x g d w h hg
  · simp only [h, if_false]; exact gradeOf_bad x g d w h

end Go.Proofs.Ytokghdcfbbogdaa
