/-
  WALKS: the reference's steps; New and NewOf; the names.
-/
import Derived.Test.YtokghdcfbbogdaaWalkD
import Derived.Test.YtokghdcfbbogdaaWalkC
import Derived.Test.YtokghdcfbbogdaaPlainb
import Derived.Test.YtokghdcfbbogdaaBlkb
namespace Go.Proofs.Ytokghdcfbbogdaa
open Go.RowKit
attribute [local go_sem high] run_max_i run_min_i

set_option maxHeartbeats 400000 in
theorem rsteps_new (x : St) (d : Int) (w : World) (h : x.st = 0) :
    Calls Try.prog 60 #[x.val, .int .i64 d] w fun e w' => e = .returned (.agg #[.int .i64 1, .int .i64 2, .int .i64 4]) ∧ Below w.heap.size w w' := by
  obtain ⟨bl, no, st, ea, du, la, ti, lp, bu⟩ := x
  unfold St.val
  simp only at h
  subst h
  go_enter Try.func60, Try.ntmps60
  go_wp2
  go_returns
  exact ⟨rfl, ((Below.refl _ _).alloc (Nat.le_refl _) _).alloc (by simp) _⟩

set_option maxHeartbeats 1000000 in
theorem rsteps_old (x : St) (d : Int) (w : World) (h1 : 1 ≤ x.st) (h2 : x.st ≤ 3650) (h3 : 130 ≤ x.ea) (h4 : x.ea ≤ 400) (h5 : -1 ≤ x.la) (h6 : x.la ≤ 100000) (h7 : 0 ≤ d) (h8 : d ≤ 100000) :
    Calls Try.prog 60 #[x.val, .int .i64 d] w fun e w' => e = .returned (.agg #[.int .i64 (x.hard d), .int .i64 (x.good d), .int .i64 (x.easy d)]) ∧ Below w.heap.size w w' := by
  obtain ⟨bl, no, st, ea, du, la, ti, lp, bu⟩ := x
  unfold St.hard St.good St.easy St.hard St.good St.hard St.t St.val
  simp only at h1 h2 h3 h4 h5 h6 ⊢
  have hs : (st == 0) = false := by simp; omega
  have hc : (d - la > st + 30 ∧ min (max (d - la) st) (st + 30) = st + 30) ∨ (d - la ≤ st + 30 ∧ d - la < st ∧ min (max (d - la) st) (st + 30) = st) ∨ (d - la ≤ st + 30 ∧ st ≤ d - la ∧ min (max (d - la) st) (st + 30) = d - la) := by omega
  generalize min (max (d - la) st) (st + 30) = t at hc ⊢
  have htb : 0 ≤ t ∧ t ≤ 3680 := by omega
  have p1 := mul_bd (a := ea) (b := t) (m := 400) (n := 3680) (by omega) h4 (by omega) (by omega)
  have p2 := mul_bd (a := 13 * ea) (b := t) (m := 5200) (n := 3680) (by omega) (by omega) (by omega) (by omega)
  obtain ⟨p1, p3⟩ := p1
  obtain ⟨p2, p4⟩ := p2
  rcases hc with ⟨k1, rfl⟩ | ⟨k1, k2, rfl⟩ | ⟨k1, k2, rfl⟩
  all_goals
    go_enter Try.func60, Try.ntmps60
    go_wp2
    go_returns
    exact ⟨rfl, ((Below.refl _ _).alloc (Nat.le_refl _) _).alloc (by simp) _⟩

theorem rsteps_any (x : St) (d : Int) (w : World) (hx : x.Good) (h7 : 0 ≤ d) (h8 : d ≤ 100000) :
    Calls Try.prog 60 #[x.val, .int .i64 d] w fun e w' => e = .returned (.agg #[.int .i64 (x.sh d), .int .i64 (x.sg d), .int .i64 (x.se d)]) ∧ Below w.heap.size w w' := by
  by_cases h : x.st = 0
  · exact (rsteps_new x d w h).mono fun _ _ ⟨he, hw⟩ => ⟨by rw [he]; simp [St.sh, St.sg, St.se, h], hw⟩
  · have := hx.st
    exact (rsteps_old x d w (by omega) this.2 hx.ea.1 hx.ea.2 hx.la.1 hx.la.2 h7 h8).mono fun _ _ ⟨he, hw⟩ => ⟨by rw [he]; simp [St.sh, St.sg, St.se, h], hw⟩

def St.zeroVal : Value := .agg #[.int .i64 0, .int .i64 0, .int .i64 0, .int .i64 0, .int .i64 0, .int .i64 0, .int .i64 0, .int .i64 0, .int .i64 0]

set_option maxHeartbeats 800000 in
theorem new_any (bl no : Int) (w : World) :
    Calls Try.prog 44 #[.int .i64 bl, .int .i64 no] w fun e w' => e = .returned (.tuple #[(St.new bl no).1.val, .int .i64 (St.new bl no).2]) ∧ Below w.heap.size w w' := by
  have hck := fun w => checkState_any (St.fresh bl no) w
  have hfr := fun w => fresh_any bl no w
  unfold St.new
  generalize (St.fresh bl no).err = r at hck ⊢
  simp only [St.fresh, St.val] at hck hfr ⊢
  have H := hide hck
  have HF := hide hfr
  clear hck hfr
  by_cases h : r = 0
  all_goals
    have hb : (r == 0) = decide (r = 0) := by simp [h]
    simp only [h, if_true, if_false, decide_true, decide_false] at hb ⊢
    try subst h
    go_enter Try.func44, Try.ntmps44
    go_wp2_with (first | (go_at_call 85; refine (HF.out _).mono ?_; rintro e w' ⟨rfl, hb⟩; obtain ⟨os, n, rfl⟩ := below_plus hb; clear hb) | (go_at_call 43; refine (H.out _).mono ?_; rintro e w' ⟨rfl, hb⟩; obtain ⟨os, n, rfl⟩ := below_plus hb; clear hb))
    go_returns
    exact ⟨rfl, by repeat (first | exact Below.refl _ _ | refine bl_plus ?_ | refine bl_alloc ?_ _ | refine bl_drew ?_)⟩

set_option maxHeartbeats 800000 in
theorem newOf_any (bl no : Int) (w : World) :
    Calls Try.prog 57 #[.int .i64 bl, .int .i64 no] w fun e w' => e = .returned (.tuple #[(St.new bl no).1.val, .int .i64 (St.new bl no).2]) ∧ Below w.heap.size w w' := by
  have hck := fun w => stateFault_any (St.fresh bl no) w
  unfold St.new
  generalize (St.fresh bl no).err = r at hck ⊢
  simp only [St.fresh, St.val] at hck ⊢
  have H := hide hck
  clear hck
  by_cases h : r = 0
  all_goals
    have hb : (r == 0) = decide (r = 0) := by simp [h]
    simp only [h, if_true, if_false, decide_true, decide_false] at hb ⊢
    try subst h
    go_enter Try.func57, Try.ntmps57
    go_wp2_with (go_at_call 58; refine (H.out _).mono ?_; rintro e w' ⟨rfl, hb⟩; obtain ⟨os, n, rfl⟩ := below_plus hb; clear hb)
    go_returns
    exact ⟨rfl, by repeat (first | exact Below.refl _ _ | refine bl_plus ?_ | refine bl_alloc ?_ _ | refine bl_drew ?_)⟩

/-- What tells a card: block and number. -/
def nameVal (a b : Int) : Value := .agg #[.int .i64 a, .int .i64 b]

set_option maxHeartbeats 400000 in
theorem stateName_any (x : St) (w : World) :
    Calls Try.prog 54 #[x.val] w fun e w' => e = .returned (.agg #[.int .i64 x.bl, .int .i64 x.no]) ∧ Below w.heap.size w w' := by
  unfold St.val
  go_enter Try.func54, Try.ntmps54
  go_wp2
  go_returns
  exact ⟨rfl, by repeat (first | exact Below.refl _ _ | refine bl_plus ?_ | refine bl_alloc ?_ _ | refine bl_drew ?_)⟩

set_option maxHeartbeats 400000 in
theorem reviewName_any (a b c d : Int) (w : World) :
    Calls Try.prog 53 #[.agg #[.int .i64 a, .int .i64 b, .int .i64 c, .int .i64 d]] w fun e w' => e = .returned (.agg #[.int .i64 a, .int .i64 b]) ∧ Below w.heap.size w w' := by
  go_enter Try.func53, Try.ntmps53
  go_wp2
  go_returns
  exact ⟨rfl, by repeat (first | exact Below.refl _ _ | refine bl_plus ?_ | refine bl_alloc ?_ _ | refine bl_drew ?_)⟩

end Go.Proofs.Ytokghdcfbbogdaa
