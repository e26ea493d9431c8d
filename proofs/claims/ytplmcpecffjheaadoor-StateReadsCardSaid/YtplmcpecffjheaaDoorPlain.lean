/-
  PLAIN: what the functions of package card compute, as Lean functions on integers; no program in sight.
-/
import Derived.RowKit
namespace Go.Proofs.YtplmcpecffjheaaDoor

/-- A card's state. -/
structure St where
  bl : Int
  no : Int
  st : Int
  ea : Int
  du : Int
  la : Int
  ti : Int
  lp : Int
  bu : Int

namespace St
def zero : St := ⟨0, 0, 0, 0, 0, 0, 0, 0, 0⟩
end St

def outB (n lo hi : Int) : Bool := decide (n < lo ∨ hi < n)

/-- Beyond its bounds. -/
def St.far (x : St) : Bool :=
  decide (x.bl < 1 ∨ 1000000 < x.bl ∨ x.no < 1 ∨ 20 < x.no ∨ x.st < 0 ∨ 3650 < x.st ∨ x.ea < 130 ∨ 400 < x.ea ∨
    x.du < -1 ∨ 100000 < x.du ∨ x.la < -1 ∨ 100000 < x.la ∨ x.bu < -1 ∨ 100000 < x.bu ∨
    x.ti < 0 ∨ 20000 < x.ti ∨ x.lp < 0 ∨ 20000 < x.lp)

/-- Not of its form. -/
def St.ill (x : St) : Bool :=
  decide ((x.du = -1 ∧ ¬ x.la = -1) ∨ (¬ x.du = -1 ∧ x.la = -1) ∨ (x.ti = 0 ∧ ¬ x.du = -1) ∨ (¬ x.ti = 0 ∧ x.du = -1) ∨ (x.ti = 0 ∧ 0 < x.st) ∨ x.du < x.la ∨ x.ti < x.lp)

def St.err (x : St) : Int := if x.far then 2 else if x.ill then 1 else 0

def St.fresh (bl no : Int) : St := ⟨bl, no, 0, 250, -1, -1, 0, 0, -1⟩

/-- The steps of the grades Hard, Good, Easy, of a state that is not new. -/
def St.t (x : St) (day : Int) : Int := min (max (day - x.la) x.st) (x.st + 30)
def St.hard (x : St) (day : Int) : Int := max (x.st + 1) (12 * x.t day / 10)
def St.good (x : St) (day : Int) : Int := max (x.hard day + 1) (x.ea * x.t day / 100)
def St.easy (x : St) (day : Int) : Int := max (x.good day + 1) (13 * x.ea * x.t day / 1000)
def St.stepOf (x : St) (g day : Int) : Int :=
  if g = 1 then 0 else if x.st = 0 then (if g = 2 then 1 else if g = 3 then 2 else 4) else if g = 2 then x.hard day else if g = 3 then x.good day else x.easy day
def easeOf (g : Int) : Int := if g = 1 then -20 else if g = 2 then -15 else if g = 3 then 0 else 15
def St.graded (x : St) (g day : Int) : St :=
  { x with
    lp := if g = 1 ∧ 0 < x.st then min (x.lp + 1) 20000 else x.lp
    st := min (x.stepOf g day) 3650
    ea := min (max (x.ea + easeOf g) 130) 400
    ti := min (x.ti + 1) 20000
    la := day
    bu := -1
    du := min (day + max (min (x.stepOf g day) 3650) 1) 100000 }

def gradeErr (x : St) (g day : Int) : Int :=
  if g < 1 ∨ 4 < g then 10 else if day < 0 ∨ 100000 < day then 2 else if day < x.la then 5 else 0

/-- A state within its bounds, in the form that a walk wants. -/
structure St.Good (x : St) : Prop where
  bl : 1 ≤ x.bl ∧ x.bl ≤ 1000000
  no : 1 ≤ x.no ∧ x.no ≤ 20
  st : 0 ≤ x.st ∧ x.st ≤ 3650
  ea : 130 ≤ x.ea ∧ x.ea ≤ 400
  du : -1 ≤ x.du ∧ x.du ≤ 100000
  la : -1 ≤ x.la ∧ x.la ≤ 100000
  bu : -1 ≤ x.bu ∧ x.bu ≤ 100000
  ti : 0 ≤ x.ti ∧ x.ti ≤ 20000
  lp : 0 ≤ x.lp ∧ x.lp ≤ 20000

theorem St.good_of_far {x : St} (h : x.far = false) : x.Good := by
  simp only [St.far, decide_eq_false_iff_not] at h
  constructor <;> omega

/-- Which bound is the first that is passed. -/
theorem St.cases14 (x : St) : (x.bl < 1) ∨ (1000000 < x.bl) ∨
    ((1 ≤ x.bl ∧ x.bl ≤ 1000000) ∧ ((x.no < 1) ∨ (20 < x.no) ∨
    ((1 ≤ x.no ∧ x.no ≤ 20) ∧ ((x.st < 0) ∨ (3650 < x.st) ∨
    ((0 ≤ x.st ∧ x.st ≤ 3650) ∧ ((x.ea < 130) ∨ (400 < x.ea) ∨
    ((130 ≤ x.ea ∧ x.ea ≤ 400) ∧ ((x.du < -1 ∨ 100000 < x.du) ∨
    ((-1 ≤ x.du ∧ x.du ≤ 100000) ∧ ((x.la < -1 ∨ 100000 < x.la) ∨
    ((-1 ≤ x.la ∧ x.la ≤ 100000) ∧ ((x.bu < -1 ∨ 100000 < x.bu) ∨
    ((-1 ≤ x.bu ∧ x.bu ≤ 100000) ∧ ((x.ti < 0 ∨ 20000 < x.ti) ∨
    ((0 ≤ x.ti ∧ x.ti ≤ 20000) ∧ ((x.lp < 0 ∨ 20000 < x.lp) ∨
    (0 ≤ x.lp ∧ x.lp ≤ 20000))))))))))))))))) := by
  have c : ∀ n lo hi : Int, n < lo ∨ hi < n ∨ (lo ≤ n ∧ n ≤ hi) := fun n lo hi => by omega
  have d : ∀ n lo hi : Int, (n < lo ∨ hi < n) ∨ (lo ≤ n ∧ n ≤ hi) := fun n lo hi => by omega
  rcases c x.bl 1 1000000 with h | h | h
  · exact .inl h
  · exact .inr (.inl h)
  refine .inr (.inr ⟨h, ?_⟩)
  rcases c x.no 1 20 with h | h | h
  · exact .inl h
  · exact .inr (.inl h)
  refine .inr (.inr ⟨h, ?_⟩)
  rcases c x.st 0 3650 with h | h | h
  · exact .inl h
  · exact .inr (.inl h)
  refine .inr (.inr ⟨h, ?_⟩)
  rcases c x.ea 130 400 with h | h | h
  · exact .inl h
  · exact .inr (.inl h)
  refine .inr (.inr ⟨h, ?_⟩)
  rcases d x.du (-1) 100000 with h | h
  · exact .inl h
  refine .inr ⟨h, ?_⟩
  rcases d x.la (-1) 100000 with h | h
  · exact .inl h
  refine .inr ⟨h, ?_⟩
  rcases d x.bu (-1) 100000 with h | h
  · exact .inl h
  refine .inr ⟨h, ?_⟩
  rcases d x.ti 0 20000 with h | h
  · exact .inl h
  refine .inr ⟨h, ?_⟩
  exact d x.lp 0 20000

/-- Which test of the form is the first that fails. -/
theorem St.forms (x : St) :
    ((x.du == -1) = true ∧ (x.la == -1) = false ∧ x.ill = true) ∨ ((x.du == -1) = false ∧ (x.la == -1) = true ∧ x.ill = true) ∨
    ((x.du == -1) = true ∧ (x.la == -1) = true ∧ (x.ti == 0) = false ∧ x.ill = true) ∨ ((x.du == -1) = false ∧ (x.la == -1) = false ∧ (x.ti == 0) = true ∧ x.ill = true) ∨
    ((x.du == -1) = true ∧ (x.la == -1) = true ∧ (x.ti == 0) = true ∧ 0 < x.st ∧ x.ill = true) ∨
    ((x.du == -1) = false ∧ (x.la == -1) = false ∧ (x.ti == 0) = false ∧ x.du < x.la ∧ x.ill = true) ∨
    ((x.du == -1) = true ∧ (x.la == -1) = true ∧ (x.ti == 0) = true ∧ x.st ≤ 0 ∧ x.la ≤ x.du ∧ x.ti < x.lp ∧ x.ill = true) ∨
    ((x.du == -1) = false ∧ (x.la == -1) = false ∧ (x.ti == 0) = false ∧ x.la ≤ x.du ∧ x.ti < x.lp ∧ x.ill = true) ∨
    ((x.du == -1) = true ∧ (x.la == -1) = true ∧ (x.ti == 0) = true ∧ x.st ≤ 0 ∧ x.la ≤ x.du ∧ x.lp ≤ x.ti ∧ x.ill = false) ∨
    ((x.du == -1) = false ∧ (x.la == -1) = false ∧ (x.ti == 0) = false ∧ x.la ≤ x.du ∧ x.lp ≤ x.ti ∧ x.ill = false) := by
  obtain ⟨bl, no, st, ea, du, la, ti, lp, bu⟩ := x
  simp only [St.ill, beq_iff_eq, beq_eq_false_iff_ne, decide_eq_true_eq, decide_eq_false_iff_not, ne_eq]
  by_cases a : du = -1 <;> by_cases b : la = -1 <;> by_cases c : ti = 0 <;> simp [a, b, c] <;> omega

def St.sh (x : St) (d : Int) : Int := if x.st = 0 then 1 else x.hard d
def St.sg (x : St) (d : Int) : Int := if x.st = 0 then 2 else x.good d
def St.se (x : St) (d : Int) : Int := if x.st = 0 then 4 else x.easy d

/-- What a grade turns: the step S, the ease E, the lapses L. -/
theorem St.graded_cases (x : St) (g d : Int) (hg : g = 1 ∨ g = 2 ∨ g = 3 ∨ g = 4) : ∃ S E L : Int,
    ((g = 1 ∧ x.st ≤ 0 ∧ S = 0 ∧ E = x.ea + -20 ∧ L = x.lp) ∨ (g = 1 ∧ 0 < x.st ∧ S = 0 ∧ E = x.ea + -20 ∧ L = min (x.lp + 1) 20000) ∨
      (g = 2 ∧ S = x.sh d ∧ E = x.ea + -15 ∧ L = x.lp) ∨ (g = 3 ∧ S = x.sg d ∧ E = x.ea ∧ L = x.lp) ∨ (g = 4 ∧ S = x.se d ∧ E = x.ea + 15 ∧ L = x.lp)) ∧
    x.graded g d = ⟨x.bl, x.no, min S 3650, min (max E 130) 400, min (d + max (min S 3650) 1) 100000, d, min (x.ti + 1) 20000, L, -1⟩ := by
  obtain ⟨bl, no, st, ea, du, la, ti, lp, bu⟩ := x
  rcases hg with rfl | rfl | rfl | rfl
  · by_cases h : 0 < st
    · exact ⟨_, _, _, .inr (.inl ⟨rfl, h, rfl, rfl, rfl⟩), by simp [St.graded, St.stepOf, easeOf, h]⟩
    · exact ⟨_, _, _, .inl ⟨rfl, by simp only; omega, rfl, rfl, rfl⟩, by simp [St.graded, St.stepOf, easeOf, h]⟩
  · exact ⟨_, _, _, .inr (.inr (.inl ⟨rfl, rfl, rfl, rfl⟩)), by simp [St.graded, St.stepOf, easeOf, St.sh]⟩
  · exact ⟨_, _, _, .inr (.inr (.inr (.inl ⟨rfl, rfl, rfl, rfl⟩))), by simp [St.graded, St.stepOf, easeOf, St.sg]⟩
  · exact ⟨_, _, _, .inr (.inr (.inr (.inr ⟨rfl, rfl, rfl, rfl⟩))), by simp [St.graded, St.stepOf, easeOf, St.se]⟩

end Go.Proofs.YtplmcpecffjheaaDoor
/-
  PLAIN: New, Grade and Replay as Lean functions.
-/
namespace Go.Proofs.YtplmcpecffjheaaDoor

/-- New: the state and the error. -/
def St.new (bl no : Int) : St × Int := if (St.fresh bl no).err = 0 then (St.fresh bl no, 0) else (St.zero, (St.fresh bl no).err)

/-- Grade: the state and the error. -/
def St.grade (x : St) (g d : Int) : St × Int :=
  if x.err = 0 then (if gradeErr x g d = 0 then (x.graded g d, 0) else (St.zero, gradeErr x g d)) else (St.zero, x.err)

theorem St.far_of_err {x : St} (h : x.err = 0) : x.far = false := by
  unfold St.err at h
  by_cases hf : x.far = true
  · rw [if_pos hf] at h; omega
  · simpa using hf
theorem St.good_of_err {x : St} (h : x.err = 0) : x.Good := St.good_of_far (St.far_of_err h)

theorem gradeErr_zero {x : St} {g d : Int} (h : gradeErr x g d = 0) : (g = 1 ∨ g = 2 ∨ g = 3 ∨ g = 4) ∧ 0 ≤ d ∧ d ≤ 100000 ∧ x.la ≤ d := by
  unfold gradeErr at h
  split at h
  · omega
  · split at h
    · omega
    · split at h
      · omega
      · omega

theorem gradeErr_cases (x : St) (g d : Int) : ((g < 1 ∨ 4 < g) ∧ gradeErr x g d = 10) ∨ ((1 ≤ g ∧ g ≤ 4) ∧ (d < 0 ∨ 100000 < d) ∧ gradeErr x g d = 2) ∨ ((1 ≤ g ∧ g ≤ 4) ∧ (0 ≤ d ∧ d ≤ 100000) ∧ d < x.la ∧ gradeErr x g d = 5) ∨ ((1 ≤ g ∧ g ≤ 4) ∧ (0 ≤ d ∧ d ≤ 100000) ∧ x.la ≤ d ∧ gradeErr x g d = 0) := by
  unfold gradeErr; split <;> (try split) <;> (try split) <;> omega

end Go.Proofs.YtplmcpecffjheaaDoor
/-
  PLAIN: Replay as a Lean function; what a grade keeps.
-/
namespace Go.Proofs.YtplmcpecffjheaaDoor

/-- A review. -/
structure Rv where
  bl : Int
  no : Int
  gr : Int
  da : Int

def replayFrom (x : St) (i : Int) : List Rv → St × Int × Int
  | [] => (x, 0, 0)
  | r :: rs => if r.bl = x.bl ∧ r.no = x.no then (if gradeErr x r.gr r.da = 0 then replayFrom (x.graded r.gr r.da) (i + 1) rs else (St.zero, i, gradeErr x r.gr r.da)) else replayFrom x (i + 1) rs

def replay (bl no : Int) (l : List Rv) : St × Int × Int :=
  if (St.new bl no).2 = 0 then (if l.length > 20000 then (St.zero, 0, 4) else replayFrom (St.new bl no).1 0 l) else (St.zero, 0, (St.new bl no).2)

theorem St.err_graded {x : St} {g d : Int} (h : x.err = 0) (hg : gradeErr x g d = 0) : (x.graded g d).err = 0 := by
  have hx := St.good_of_err h
  obtain ⟨g1, d1, d2, d3⟩ := gradeErr_zero hg
  have hill : x.ill = false := by
    unfold St.err at h
    rw [St.far_of_err h] at h
    by_cases hi : x.ill = true
    · rw [hi] at h; simp at h
    · simpa using hi
  have hpos : 0 ≤ x.sh d ∧ 0 ≤ x.sg d ∧ 0 ≤ x.se d := by
    have := hx.st
    have h1 : 1 ≤ x.hard d := by unfold St.hard; omega
    have h2 : 1 ≤ x.good d := by unfold St.good; omega
    have h3 : 1 ≤ x.easy d := by unfold St.easy; omega
    unfold St.sh St.sg St.se
    refine ⟨?_, ?_, ?_⟩ <;> split <;> omega
  obtain ⟨S, E, L, hcase, hV⟩ := x.graded_cases g d g1
  have hS : 0 ≤ S := by
    obtain ⟨p1, p2, p3⟩ := hpos
    rcases hcase with ⟨_, _, hS, _⟩ | ⟨_, _, hS, _⟩ | ⟨_, hS, _⟩ | ⟨_, hS, _⟩ | ⟨_, hS, _⟩ <;> rw [hS] <;> omega
  have hL : (L = x.lp ∨ L = min (x.lp + 1) 20000) := by
    rcases hcase with ⟨_, _, _, _, h⟩ | ⟨_, _, _, _, h⟩ | ⟨_, _, _, h⟩ | ⟨_, _, _, h⟩ | ⟨_, _, _, h⟩ <;> simp [h]
  rw [hV]
  clear hcase hV hpos
  obtain ⟨bl, no, st, ea, du, la, ti, lp, bu⟩ := x
  obtain ⟨⟨a1, a2⟩, ⟨a3, a4⟩, ⟨a5, a6⟩, ⟨a7, a8⟩, ⟨a9, b1⟩, ⟨b2, b3⟩, ⟨b4, b5⟩, ⟨b6, b7⟩, ⟨b8, b9⟩⟩ := hx
  simp only [St.ill, decide_eq_false_iff_not] at *
  have hill2 : lp ≤ ti := by omega
  clear hill h hg
  have hfar : St.far ⟨bl, no, min S 3650, min (max E 130) 400, min (d + max (min S 3650) 1) 100000, d, min (ti + 1) 20000, L, -1⟩ = false := by
    simp only [St.far, decide_eq_false_iff_not]
    rcases hL with rfl | rfl <;> omega
  have hil : St.ill ⟨bl, no, min S 3650, min (max E 130) 400, min (d + max (min S 3650) 1) 100000, d, min (ti + 1) 20000, L, -1⟩ = false := by
    simp only [St.ill, decide_eq_false_iff_not]
    rcases hL with rfl | rfl <;> omega
  simp [St.err, hfar, hil]

theorem St.graded_bl (x : St) (g d : Int) : (x.graded g d).bl = x.bl := rfl
theorem St.graded_no (x : St) (g d : Int) : (x.graded g d).no = x.no := rfl

theorem St.new_ok {bl no : Int} (h : (St.new bl no).2 = 0) : (St.new bl no).1 = St.fresh bl no ∧ (St.fresh bl no).err = 0 := by
  unfold St.new at h ⊢
  by_cases hf : (St.fresh bl no).err = 0
  · simp [hf]
  · rw [if_neg hf] at h; exact absurd h hf
theorem St.new_bad {bl no : Int} (h : (St.new bl no).2 ≠ 0) : (St.new bl no).1 = St.zero := by
  unfold St.new at h ⊢
  by_cases hf : (St.fresh bl no).err = 0
  · simp [hf] at h
  · rw [if_neg hf]

end Go.Proofs.YtplmcpecffjheaaDoor
