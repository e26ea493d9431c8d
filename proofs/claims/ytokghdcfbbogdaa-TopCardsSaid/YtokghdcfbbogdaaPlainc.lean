/-
  PLAIN: Replay as a Lean function; what a grade keeps.
-/
import Derived.Test.YtokghdcfbbogdaaPlainb
namespace Go.Proofs.Ytokghdcfbbogdaa

/-- A review. -/
structure Rv where
  bl : Int
  no : Int
  gr : Int
  da : Int

def replayFrom (x : St) (i : Int) : List Rv → St × Int × Int
  | [] => (x, 0, 0)
  | r :: rs => if r.bl = x.bl ∧ r.no = x.no then (if gradeErr x r.gr r.da = 0 then replayFrom (x.graded r.gr r.da) (i + 1) rs else (St.zero, i, gradeErr x r.gr r.da)) else replayFrom x (i + 1) rs

def replay (bl no : Int) (l : List Rv) : St × Int × Int :=
  if (St.new bl no).2 = 0 then (if l.length > 20000 then (St.zero, 0, 4) else replayFrom (St.new bl no).1 0 l) else (St.zero, 0, (St.new bl no).2)

theorem St.err_graded {x : St} {g d : Int} (h : x.err = 0) (hg : gradeErr x g d = 0) : (x.graded g d).err = 0 := by
  have hx := St.good_of_err h
  obtain ⟨g1, d1, d2, d3⟩ := gradeErr_zero hg
  have hill : x.ill = false := by
    unfold St.err at h
    rw [St.far_of_err h] at h
    by_cases hi : x.ill = true
    · rw [hi] at h; simp at h
    · simpa using hi
  have hpos : 0 ≤ x.sh d ∧ 0 ≤ x.sg d ∧ 0 ≤ x.se d := by
    have := hx.st
    have h1 : 1 ≤ x.hard d := by unfold St.hard; omega
    have h2 : 1 ≤ x.good d := by unfold St.good; omega
    have h3 : 1 ≤ x.easy d := by unfold St.easy; omega
    unfold St.sh St.sg St.se
    refine ⟨?_, ?_, ?_⟩ <;> split <;> omega
  obtain ⟨S, E, L, hcase, hV⟩ := x.graded_cases g d g1
  have hS : 0 ≤ S := by
    obtain ⟨p1, p2, p3⟩ := hpos
    rcases hcase with ⟨_, _, hS, _⟩ | ⟨_, _, hS, _⟩ | ⟨_, hS, _⟩ | ⟨_, hS, _⟩ | ⟨_, hS, _⟩ <;> rw [hS] <;> omega
  have hL : (L = x.lp ∨ L = min (x.lp + 1) 20000) := by
    rcases hcase with ⟨_, _, _, _, h⟩ | ⟨_, _, _, _, h⟩ | ⟨_, _, _, h⟩ | ⟨_, _, _, h⟩ | ⟨_, _, _, h⟩ <;> simp [h]
  rw [hV]
  clear hcase hV hpos
  obtain ⟨bl, no, st, ea, du, la, ti, lp, bu⟩ := x
  obtain ⟨⟨a1, a2⟩, ⟨a3, a4⟩, ⟨a5, a6⟩, ⟨a7, a8⟩, ⟨a9, b1⟩, ⟨b2, b3⟩, ⟨b4, b5⟩, ⟨b6, b7⟩, ⟨b8, b9⟩⟩ := hx
  simp only [St.ill, decide_eq_false_iff_not] at *
  have hill2 : lp ≤ ti := by omega
  clear hill h hg
  have hfar : St.far ⟨bl, no, min S 3650, min (max E 130) 400, min (d + max (min S 3650) 1) 100000, d, min (ti + 1) 20000, L, -1⟩ = false := by
    simp only [St.far, decide_eq_false_iff_not]
    rcases hL with rfl | rfl <;> omega
  have hil : St.ill ⟨bl, no, min S 3650, min (max E 130) 400, min (d + max (min S 3650) 1) 100000, d, min (ti + 1) 20000, L, -1⟩ = false := by
    simp only [St.ill, decide_eq_false_iff_not]
    rcases hL with rfl | rfl <;> omega
  simp [St.err, hfar, hil]

theorem St.graded_bl (x : St) (g d : Int) : (x.graded g d).bl = x.bl := rfl
theorem St.graded_no (x : St) (g d : Int) : (x.graded g d).no = x.no := rfl

theorem St.new_ok {bl no : Int} (h : (St.new bl no).2 = 0) : (St.new bl no).1 = St.fresh bl no ∧ (St.fresh bl no).err = 0 := by
  unfold St.new at h ⊢
  by_cases hf : (St.fresh bl no).err = 0
  · simp [hf]
  · rw [if_neg hf] at h; exact absurd h hf
theorem St.new_bad {bl no : Int} (h : (St.new bl no).2 ≠ 0) : (St.new bl no).1 = St.zero := by
  unfold St.new at h ⊢
  by_cases hf : (St.fresh bl no).err = 0
  · simp [hf] at h
  · rw [if_neg hf]

end Go.Proofs.Ytokghdcfbbogdaa
