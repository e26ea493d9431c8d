/-
  PLAIN: New, Grade and Replay as Lean functions.
-/
import Derived.Test.YtokghdcfbbogdaaPlain
namespace Go.Proofs.Ytokghdcfbbogdaa

/-- New: the state and the error. -/
def St.new (bl no : Int) : St × Int := if (St.fresh bl no).err = 0 then (St.fresh bl no, 0) else (St.zero, (St.fresh bl no).err)

/-- Grade: the state and the error. -/
def St.grade (x : St) (g d : Int) : St × Int :=
  if x.err = 0 then (if gradeErr x g d = 0 then (x.graded g d, 0) else (St.zero, gradeErr x g d)) else (St.zero, x.err)

theorem St.far_of_err {x : St} (h : x.err = 0) : x.far = false := by
  unfold St.err at h
  by_cases hf : x.far = true
  · rw [if_pos hf] at h; omega
  · simpa using hf
theorem St.good_of_err {x : St} (h : x.err = 0) : x.Good := St.good_of_far (St.far_of_err h)

theorem gradeErr_zero {x : St} {g d : Int} (h : gradeErr x g d = 0) : (g = 1 ∨ g = 2 ∨ g = 3 ∨ g = 4) ∧ 0 ≤ d ∧ d ≤ 100000 ∧ x.la ≤ d := by
  unfold gradeErr at h
  split at h
  · omega
  · split at h
    · omega
    · split at h
      · omega
      · omega

theorem gradeErr_cases (x : St) (g d : Int) : ((g < 1 ∨ 4 < g) ∧ gradeErr x g d = 10) ∨ ((1 ≤ g ∧ g ≤ 4) ∧ (d < 0 ∨ 100000 < d) ∧ gradeErr x g d = 2) ∨ ((1 ≤ g ∧ g ≤ 4) ∧ (0 ≤ d ∧ d ≤ 100000) ∧ d < x.la ∧ gradeErr x g d = 5) ∨ ((1 ≤ g ∧ g ≤ 4) ∧ (0 ≤ d ∧ d ≤ 100000) ∧ x.la ≤ d ∧ gradeErr x g d = 0) := by
  unfold gradeErr; split <;> (try split) <;> (try split) <;> omega

end Go.Proofs.Ytokghdcfbbogdaa
