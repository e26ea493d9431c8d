/-
  WALKS: Grade; Chances and the reference's.
-/
import Derived.Test.YtokghdcfbbogdaaWalkF
import Derived.Test.YtokghdcfbbogdaaInts
import Derived.Deep.DeepCutAuto
namespace Go.Proofs.Ytokghdcfbbogdaa
open Go.RowKit

set_option maxHeartbeats 1600000 in
set_option maxRecDepth 100000 in
theorem grade_any (x : St) (g d : Int) (w : World) :
    Calls Try.prog 15 #[x.val, .int .i64 g, .int .i64 d] w fun e w' => e = .returned (.tuple #[(x.grade g d).1.val, .int .i64 (x.grade g d).2]) ∧ Below w.heap.size w w' := by
  have hck := fun w => checkState_any x w
  have hcg := fun w => checkGrade_any x g d w
  by_cases h : x.err = 0
  · rw [h] at hck
    by_cases hg : gradeErr x g d = 0
    · obtain ⟨g1, d1, d2, d3⟩ := gradeErr_zero hg
      have hgd := fun w => graded_any x g d w (St.good_of_err h) g1 d1 d2
      have hR : x.grade g d = (x.graded g d, 0) := by simp [St.grade, h, hg]
      rw [hR]
      rw [hg] at hcg
      clear hR h hg g1 d1 d2 d3
      generalize x.graded g d = y at hgd ⊢
      simp only [St.val] at hck hcg hgd ⊢
      have H1 := hide hck
      have H2 := hide hcg
      have H3 := hide hgd
      clear hck hcg hgd
      go_enter Try.func15, Try.ntmps15
      go_wp2_with (first | (go_at_call 43; refine (H1.out _).mono ?_; rintro e w' ⟨rfl, hb⟩; obtain ⟨os, n, rfl⟩ := below_plus hb; clear hb) | (go_at_call 55; refine (H2.out _).mono ?_; rintro e w' ⟨rfl, hb⟩; obtain ⟨os, n, rfl⟩ := below_plus hb; clear hb) | (go_at_call 56; refine (H3.out _).mono ?_; rintro e w' ⟨rfl, hb⟩; obtain ⟨os, n, rfl⟩ := below_plus hb; clear hb))
      go_returns
      exact ⟨rfl, by repeat (first | exact Below.refl _ _ | refine bl_plus ?_ | refine bl_alloc ?_ _ | refine bl_drew ?_)⟩
    · have hR : x.grade g d = (St.zero, gradeErr x g d) := by simp [St.grade, h, hg]
      rw [hR]
      clear hR h
      generalize gradeErr x g d = r at hcg hg ⊢
      have hr : (r == 0) = false := by simp [hg]
      simp only [St.zero, St.val] at hck hcg ⊢
      have H1 := hide hck
      have H2 := hide hcg
      clear hck hcg hg
      go_enter Try.func15, Try.ntmps15
      go_wp2_with (first | (go_at_call 43; refine (H1.out _).mono ?_; rintro e w' ⟨rfl, hb⟩; obtain ⟨os, n, rfl⟩ := below_plus hb; clear hb) | (go_at_call 55; refine (H2.out _).mono ?_; rintro e w' ⟨rfl, hb⟩; obtain ⟨os, n, rfl⟩ := below_plus hb; clear hb))
      go_returns
      exact ⟨rfl, by repeat (first | exact Below.refl _ _ | refine bl_plus ?_ | refine bl_alloc ?_ _ | refine bl_drew ?_)⟩
  · have hR : x.grade g d = (St.zero, x.err) := by simp [St.grade, h]
    rw [hR]
    clear hR hcg
    generalize x.err = r at hck h ⊢
    have hr : (r == 0) = false := by simp [h]
    simp only [St.zero, St.val] at hck ⊢
    have H1 := hide hck
    clear hck h
    go_enter Try.func15, Try.ntmps15
    go_wp2_with (go_at_call 43; refine (H1.out _).mono ?_; rintro e w' ⟨rfl, hb⟩; obtain ⟨os, n, rfl⟩ := below_plus hb; clear hb)
    go_returns
    exact ⟨rfl, by repeat (first | exact Below.refl _ _ | refine bl_plus ?_ | refine bl_alloc ?_ _ | refine bl_drew ?_)⟩

theorem field_du (a0 a1 a2 a3 a4 a5 a6 a7 a8 : Int) (w : World) : (Instr.field 24 (.agg #[.int .i64 a0, .int .i64 a1, .int .i64 a2, .int .i64 a3, .int .i64 a4, .int .i64 a5, .int .i64 a6, .int .i64 a7, .int .i64 a8]) 4).run Try.prog w = .ok (.int .i64 a4) w := by kernel_rfl
attribute [local go_sem] field_du

/-- The day on which a card is due behind the grade k + 1. -/
def dueOf (x : St) (d : Int) (k : Nat) : Int := (x.graded ((k : Int) + 1) d).du
def dues (x : St) (d : Int) (k : Nat) : List Int := (List.range k).map (dueOf x d)
theorem dues_succ (x : St) (d : Int) (k : Nat) : dues x d (k + 1) = dues x d k ++ [dueOf x d k] := by simp [dues, List.range_succ]
theorem dues_len (x : St) (d : Int) (k : Nat) : (dues x d k).length = k := by simp [dues]

/-- Chances: the days and the error. -/
def chances (x : St) (d : Int) : List Int × Int :=
  if x.err = 0 then (if gradeErr x 1 d = 0 then (dues x d 4, 0) else ([], gradeErr x 1 d)) else ([], x.err)

theorem gradeErr_one {x : St} {d : Int} (h : gradeErr x 1 d = 0) (g : Int) (h1 : 1 ≤ g) (h2 : g ≤ 4) : gradeErr x g d = 0 := by
  obtain ⟨_, d1, d2, d3⟩ := gradeErr_zero h
  unfold gradeErr
  rw [if_neg (by omega), if_neg (by omega), if_neg (by omega)]

set_option maxHeartbeats 1600000 in
set_option maxRecDepth 100000 in
theorem chances_ok (x : St) (d : Int) (w : World) (h : x.err = 0) (hg : gradeErr x 1 d = 0) :
    Calls Try.prog 17 #[x.val, .int .i64 d] w fun e w' => ∃ A c, e = .returned (.tuple #[.slice A 4 c, .int .i64 0]) ∧ IntsAt w' A (dues x d 4) ∧ Below w.heap.size w w' := by
  have hck := fun w => checkState_any x w
  have hcg := fun w => checkGrade_any x 1 d w
  rw [h] at hck
  rw [hg] at hcg
  obtain ⟨_, d1, d2, d3⟩ := gradeErr_zero hg
  have hx := St.good_of_err h
  have hgd := fun (k : Nat) (hk : k < 4) w => graded_any x ((k : Int) + 1) d w hx (by omega) d1 d2
  simp only [St.val] at hck hcg hgd ⊢
  have H1 := hide hck
  have H2 := hide hcg
  have G := hide hgd
  clear hck hcg hgd h hg hx d3
  have hmk : ∀ w, (Instr.makeSlice 31 (.int .i64 0) (.int .i64 4)).run Try.prog w = .ok (.slice (some ⟨w.heap.size, 0, none⟩) 0 4) (w.alloc (.cells #[.int .i64 0, .int .i64 0, .int .i64 0, .int .i64 0] 3)) := fun _ => by kernel_rfl
  go_enter Try.func17, Try.ntmps17
  go_wp2_with (first | (go_at_call 43; refine (H1.out _).mono ?_; rintro e w' ⟨rfl, hb⟩; obtain ⟨os, n, rfl⟩ := below_plus hb; clear hb) | (go_at_call 55; refine (H2.out _).mono ?_; rintro e w' ⟨rfl, hb⟩; obtain ⟨os1, n1, rfl⟩ := below_plus hb; clear hb))
  go_loopw [9, 8] (fun i v wr => ∃ (k : Nat) (os' : Array Obj) (n' : Nat), k ≤ 4 ∧ i = .int .i64 ((k : Int) + 1) ∧ wr = plus (w.alloc (.cells #[.int .i64 x.bl, .int .i64 x.no, .int .i64 x.st, .int .i64 x.ea, .int .i64 x.du, .int .i64 x.la, .int .i64 x.ti, .int .i64 x.lp, .int .i64 x.bu] 24)) os' n' ∧ wr.ownsRow (w.heap.size + 1) 3 1 v k ((dues x d k).map (Value.int .i64)))
    (fun i _ _ => 5 - (intOf i).toNat)
  case atStart => exact ⟨0, _, _, by omega, rfl, by rw [plus_plus, plus_alloc], by simpa [dues, plus_size] using own_made (base := w.heap.size + 1) (w := plus (plus (w.alloc (.cells #[.int .i64 x.bl, .int .i64 x.no, .int .i64 x.st, .int .i64 x.ea, .int .i64 x.du, .int .i64 x.la, .int .i64 x.ti, .int .i64 x.lp, .int .i64 x.bu] 24)) os n) os1 n1) (e := 3) (cs := #[.int .i64 0, .int .i64 0, .int .i64 0, .int .i64 0]) (cap := 4) rfl (by simp [maxLen]) (by simp [plus_size]; omega)⟩
  case round =>
    obtain ⟨k, os', n', hk, rfl, rfl, hown⟩ := hrel
    by_cases hlt : k < 4
    · go_wp2_with (first | (go_at_call 56; refine (G.out k hlt _).mono ?_; rintro e w' ⟨rfl, hb⟩; obtain ⟨os2, n2, rfl⟩ := below_plus hb; clear hb) | (at_builtin; refine wpList_append_int rfl (.tmp 26) (.tmp 32) rfl (w.heap.size + 1) _ _ (dues x d k) _ _ rfl (own_plus hown) rfl (by simp [plus_size]) (by omega) (by simp [plus_size]; omega) ?_; intro v' w1 hown1 hb1; obtain ⟨os3, n3, rfl⟩ := over_plus (L := w.alloc (.cells #[.int .i64 x.bl, .int .i64 x.no, .int .i64 x.st, .int .i64 x.ea, .int .i64 x.du, .int .i64 x.la, .int .i64 x.ti, .int .i64 x.lp, .int .i64 x.bu] 24)) (by simp) (by repeat (first | exact Below.refl _ _ | refine bl_plus ?_ | refine bl_alloc ?_ _ | refine bl_drew ?_)) hb1; clear hb1))
      go_roundw
      case rel => exact ⟨k + 1, _, _, hlt, by go_num, rfl, by rw [dues_succ]; exact hown1⟩
      case measure => simp [intOf]; omega
    · have hk4 : k = 4 := by omega
      subst hk4
      obtain ⟨A, c, rfl, _, _, _⟩ := own_form hown
      have hI := intsAt_of_own hown
      have HI := hide hI
      clear hI hown
      go_wp2
      go_returns
      exact ⟨A, c, rfl, HI.out, by repeat (first | exact Below.refl _ _ | refine bl_plus ?_ | refine bl_alloc ?_ _ | refine bl_drew ?_)⟩

set_option maxHeartbeats 800000 in
set_option maxRecDepth 100000 in
theorem chances_bad (x : St) (d : Int) (w : World) (h : x.err ≠ 0) :
    Calls Try.prog 17 #[x.val, .int .i64 d] w fun e w' => e = .returned (.tuple #[.slice none 0 0, .int .i64 x.err]) ∧ Below w.heap.size w w' := by
  have hck := fun w => checkState_any x w
  generalize x.err = r at hck h ⊢
  simp only [St.val] at hck ⊢
  have hr : (r == 0) = false := by simp [h]
  have H1 := hide hck
  clear hck h
  go_enter Try.func17, Try.ntmps17
  go_wp2_with ((go_at_call 43; refine (H1.out _).mono ?_; rintro e w' ⟨rfl, hb⟩; obtain ⟨os, n, rfl⟩ := below_plus hb; clear hb))
  go_returns
  exact ⟨rfl, by repeat (first | exact Below.refl _ _ | refine bl_plus ?_ | refine bl_alloc ?_ _ | refine bl_drew ?_)⟩

set_option maxHeartbeats 800000 in
set_option maxRecDepth 100000 in
theorem chances_err (x : St) (d : Int) (w : World) (h : x.err = 0) (hg : gradeErr x 1 d ≠ 0) :
    Calls Try.prog 17 #[x.val, .int .i64 d] w fun e w' => e = .returned (.tuple #[.slice none 0 0, .int .i64 (gradeErr x 1 d)]) ∧ Below w.heap.size w w' := by
  have hck := fun w => checkState_any x w
  have hcg := fun w => checkGrade_any x 1 d w
  rw [h] at hck
  generalize gradeErr x 1 d = r at hcg hg ⊢
  simp only [St.val] at hck hcg ⊢
  have hr : (r == 0) = false := by simp [hg]
  have H1 := hide hck
  have H2 := hide hcg
  clear hck hcg h hg
  go_enter Try.func17, Try.ntmps17
  go_wp2_with (first | (go_at_call 43; refine (H1.out _).mono ?_; rintro e w' ⟨rfl, hb⟩; obtain ⟨os, n, rfl⟩ := below_plus hb; clear hb) | (go_at_call 55; refine (H2.out _).mono ?_; rintro e w' ⟨rfl, hb⟩; obtain ⟨os1, n1, rfl⟩ := below_plus hb; clear hb))
  go_returns
  exact ⟨rfl, by repeat (first | exact Below.refl _ _ | refine bl_plus ?_ | refine bl_alloc ?_ _ | refine bl_drew ?_)⟩

theorem chances_any (x : St) (d : Int) (w : World) :
    Calls Try.prog 17 #[x.val, .int .i64 d] w fun e w' => ∃ A c, e = .returned (.tuple #[.slice A (chances x d).1.length c, .int .i64 (chances x d).2]) ∧ IntsAt w' A (chances x d).1 ∧ Below w.heap.size w w' := by
  unfold chances
  by_cases h : x.err = 0
  · by_cases hg : gradeErr x 1 d = 0
    · simp only [h, hg, if_true, dues_len]; exact chances_ok x d w h hg
    · simp only [h, hg, if_true, if_false, List.length_nil]
      exact (chances_err x d w h hg).mono fun _ _ ⟨he, hb⟩ => ⟨none, 0, he, IntsAt.nil, hb⟩
  · simp only [h, if_false, List.length_nil]
    exact (chances_bad x d w h).mono fun _ _ ⟨he, hb⟩ => ⟨none, 0, he, IntsAt.nil, hb⟩

set_option maxHeartbeats 1600000 in
set_option maxRecDepth 100000 in
theorem chancesOf_ok (x : St) (d : Int) (w : World) (h : x.err = 0) (hg : gradeErr x 1 d = 0) :
    Calls Try.prog 18 #[x.val, .int .i64 d] w fun e w' => ∃ A c, e = .returned (.tuple #[.slice A 4 c, .int .i64 0]) ∧ IntsAt w' A (dues x d 4) ∧ Below w.heap.size w w' := by
  have hgd : ∀ (k : Nat) (_ : k < 4) (w : World), Calls Try.prog 16 #[x.val, .int .i64 ((k : Int) + 1), .int .i64 d] w fun e w' => e = .returned (.tuple #[(x.graded ((k : Int) + 1) d).val, .int .i64 0]) ∧ Below w.heap.size w w' := by
    intro k hk w
    have := gradeOf_any x ((k : Int) + 1) d w
    have hR : x.grade ((k : Int) + 1) d = (x.graded ((k : Int) + 1) d, 0) := by simp [St.grade, h, gradeErr_one hg ((k : Int) + 1) (by omega) (by omega)]
    rwa [hR] at this
  simp only [St.val] at hgd ⊢
  have G := hide hgd
  clear hgd h hg
  go_enter Try.func18, Try.ntmps18
  go_wp2
  go_loopw [7, 6] (fun i v wr => ∃ (k : Nat) (os' : Array Obj) (n' : Nat), k ≤ 4 ∧ i = .int .i64 ((k : Int) + 1) ∧ wr = plus (w.alloc (.cells #[.int .i64 x.bl, .int .i64 x.no, .int .i64 x.st, .int .i64 x.ea, .int .i64 x.du, .int .i64 x.la, .int .i64 x.ti, .int .i64 x.lp, .int .i64 x.bu] 24)) os' n' ∧ wr.ownsRow (w.heap.size + 1) 3 1 v k ((dues x d k).map (Value.int .i64)))
    (fun i _ _ => 5 - (intOf i).toNat)
  case atStart => exact ⟨0, _, _, by omega, rfl, plus_nil.symm, own_none⟩
  case round =>
    obtain ⟨k, os', n', hk, rfl, rfl, hown⟩ := hrel
    by_cases hlt : k < 4
    · go_wp2_with (first | (go_at_call 16; refine (G.out k hlt _).mono ?_; rintro e w' ⟨rfl, hb⟩; obtain ⟨os2, n2, rfl⟩ := below_plus hb; clear hb) | (at_builtin; refine wpList_append_int rfl (.tmp 24) (.tmp 27) rfl (w.heap.size + 1) _ _ (dues x d k) _ _ rfl ((own_plus hown).alloc _) rfl (by simp [plus_size]) (by omega) (by simp [plus_size]; omega) ?_; intro v' w1 hown1 hb1; obtain ⟨os3, n3, rfl⟩ := over_plus (L := w.alloc (.cells #[.int .i64 x.bl, .int .i64 x.no, .int .i64 x.st, .int .i64 x.ea, .int .i64 x.du, .int .i64 x.la, .int .i64 x.ti, .int .i64 x.lp, .int .i64 x.bu] 24)) (by simp) (by repeat (first | exact Below.refl _ _ | refine bl_plus ?_ | refine bl_alloc ?_ _ | refine bl_drew ?_)) hb1; clear hb1))
      go_roundw
      case rel => exact ⟨k + 1, _, _, hlt, by go_num, rfl, by rw [dues_succ]; exact hown1⟩
      case measure => simp [intOf]; omega
    · have hk4 : k = 4 := by omega
      subst hk4
      obtain ⟨A, c, rfl, _, _, _⟩ := own_form hown
      have hI := intsAt_of_own hown
      have HI := hide hI
      clear hI hown
      go_wp2
      go_returns
      exact ⟨A, c, rfl, HI.out, by repeat (first | exact Below.refl _ _ | refine bl_plus ?_ | refine bl_alloc ?_ _ | refine bl_drew ?_)⟩

set_option maxHeartbeats 800000 in
set_option maxRecDepth 100000 in
theorem chancesOf_err (x : St) (d : Int) (w : World) (h : (x.grade 1 d).2 ≠ 0) :
    Calls Try.prog 18 #[x.val, .int .i64 d] w fun e w' => e = .returned (.tuple #[.slice none 0 0, .int .i64 (x.grade 1 d).2]) ∧ Below w.heap.size w w' := by
  have hgd := fun w => gradeOf_any x 1 d w
  generalize x.grade 1 d = p at hgd h ⊢
  obtain ⟨y, r⟩ := p
  simp only [St.val] at hgd h ⊢
  have hr : (r == 0) = false := by simp [h]
  have G := hide hgd
  clear hgd h
  go_enter Try.func18, Try.ntmps18
  go_wp2
  refine wp_loop_rounds 1 ?_
  rw [rounds_succ]
  go_wp2_with ((go_at_call 16; refine (G.out _).mono ?_; rintro e w' ⟨rfl, hb⟩; obtain ⟨os2, n2, rfl⟩ := below_plus hb; clear hb))
  go_returns
  exact ⟨rfl, by repeat (first | exact Below.refl _ _ | refine bl_plus ?_ | refine bl_alloc ?_ _ | refine bl_drew ?_)⟩

theorem chancesOf_any (x : St) (d : Int) (w : World) :
    Calls Try.prog 18 #[x.val, .int .i64 d] w fun e w' => ∃ A c, e = .returned (.tuple #[.slice A (chances x d).1.length c, .int .i64 (chances x d).2]) ∧ IntsAt w' A (chances x d).1 ∧ Below w.heap.size w w' := by
  unfold chances
  by_cases h : x.err = 0
  · by_cases hg : gradeErr x 1 d = 0
    · simp only [h, hg, if_true, dues_len]; exact chancesOf_ok x d w h hg
    · simp only [h, hg, if_true, if_false, List.length_nil]
      have hR : x.grade 1 d = (St.zero, gradeErr x 1 d) := by simp [St.grade, h, hg]
      have := chancesOf_err x d w (by rw [hR]; exact hg)
      rw [hR] at this
      exact this.mono fun _ _ ⟨he, hb⟩ => ⟨none, 0, he, IntsAt.nil, hb⟩
  · simp only [h, if_false, List.length_nil]
    have hR : x.grade 1 d = (St.zero, x.err) := by simp [St.grade, h]
    have := chancesOf_err x d w (by rw [hR]; exact h)
    rw [hR] at this
    exact this.mono fun _ _ ⟨he, hb⟩ => ⟨none, 0, he, IntsAt.nil, hb⟩

end Go.Proofs.Ytokghdcfbbogdaa
