/-
  PLAIN: one state of a row of states set anew; GradeAt and Bury as Lean functions.
-/
import Derived.Test.YtokghdcfbbogdaaClone
namespace Go.Proofs.Ytokghdcfbbogdaa
open Go.RowKit

/-- A row of states. -/
def RowOf (cs : Array Value) (xs : List St) : Prop := ∀ j i (_ : j < xs.length), i < 9 → cs[j * 9 + i]? = (stCells xs[j])[i]?

theorem own_bare {w : World} {base n : Nat} {e : TypeId} {v : Value} {xs : List St} (h : w.ownsRow base e 9 v n (flat xs)) (hn : 0 < n) :
    ∃ g cs cap, v = .slice (some ⟨g, 0, none⟩) n cap ∧ base ≤ g ∧ Blk w g e cs ∧ n ≤ cap ∧ cap ≤ maxLen ∧ RowOf cs xs := by
  rcases h.2 with ⟨_, h0⟩ | ⟨g, cap, cur, hv, hb, hh, h1, h2, h3, h4⟩
  · omega
  · refine ⟨g, cur, cap, hv, hb, hh, h1, h2, fun j i hj hi => ?_⟩
    have hl := h.1
    rw [flat_len] at hl
    have := flat_get xs j i hj hi
    rw [← h4, List.getElem?_take_of_lt (by omega)] at this
    simpa using this

theorem get_set_ne {cs : Array Value} {p q : Nat} {v : Value} (h : p ≠ q) : (cs.setIfInBounds p v)[q]? = cs[q]? := by
  rw [Array.getElem?_setIfInBounds, if_neg h]
theorem get_set_eq {cs : Array Value} {p : Nat} {v u : Value} (h : cs[p]? = some u) : (cs.setIfInBounds p v)[p]? = some v := by
  have hl : p < cs.size := by
    rcases Nat.lt_or_ge p cs.size with h' | h'
    · exact h'
    · rw [Array.getElem?_eq_none h'] at h; cases h
  rw [Array.getElem?_setIfInBounds, if_pos rfl, if_pos hl]

theorem RowOf.at_ {cs : Array Value} {xs : List St} (h : RowOf cs xs) {k : Nat} (hk : k < xs.length) {x : St} (hx : xs[k] = x) :
    cs[k * 9]? = some (.int .i64 x.bl) ∧ cs[k * 9 + 1]? = some (.int .i64 x.no) ∧ cs[k * 9 + 2]? = some (.int .i64 x.st) ∧ cs[k * 9 + 3]? = some (.int .i64 x.ea) ∧ cs[k * 9 + 4]? = some (.int .i64 x.du) ∧
    cs[k * 9 + 5]? = some (.int .i64 x.la) ∧ cs[k * 9 + 6]? = some (.int .i64 x.ti) ∧ cs[k * 9 + 7]? = some (.int .i64 x.lp) ∧ cs[k * 9 + 8]? = some (.int .i64 x.bu) := by
  subst hx
  exact ⟨h k 0 hk (by omega), h k 1 hk (by omega), h k 2 hk (by omega), h k 3 hk (by omega), h k 4 hk (by omega), h k 5 hk (by omega), h k 6 hk (by omega), h k 7 hk (by omega), h k 8 hk (by omega)⟩

/-- A state stored into its place. -/
theorem RowOf.set9 {cs : Array Value} {xs : List St} (h : RowOf cs xs) {k : Nat} (hk : k < xs.length) (y : St) :
    RowOf (((((((((cs.setIfInBounds (k * 9) (.int .i64 y.bl)).setIfInBounds (k * 9 + 1) (.int .i64 y.no)).setIfInBounds (k * 9 + 2) (.int .i64 y.st)).setIfInBounds (k * 9 + 3) (.int .i64 y.ea)).setIfInBounds (k * 9 + 4) (.int .i64 y.du)).setIfInBounds (k * 9 + 5) (.int .i64 y.la)).setIfInBounds (k * 9 + 6) (.int .i64 y.ti)).setIfInBounds (k * 9 + 7) (.int .i64 y.lp)).setIfInBounds (k * 9 + 8) (.int .i64 y.bu)) (xs.set k y) := by
  intro j i hj hi
  have hj' : j < xs.length := by simpa using hj
  by_cases hjk : j = k
  · subst hjk
    rw [List.getElem_set_self]
    obtain ⟨a0, a1, a2, a3, a4, a5, a6, a7, a8⟩ := h.at_ hk rfl
    match i, hi with
    | 0, _ =>
      rw [get_set_ne (by omega), get_set_ne (by omega), get_set_ne (by omega), get_set_ne (by omega), get_set_ne (by omega), get_set_ne (by omega), get_set_ne (by omega), get_set_ne (by omega)]
      exact get_set_eq a0
    | 1, _ => rw [get_set_ne (by omega), get_set_ne (by omega), get_set_ne (by omega), get_set_ne (by omega), get_set_ne (by omega), get_set_ne (by omega), get_set_ne (by omega), get_set_eq (u := .int .i64 xs[j].no) (by rw [get_set_ne (by omega)]; exact a1)]; rfl
    | 2, _ => rw [get_set_ne (by omega), get_set_ne (by omega), get_set_ne (by omega), get_set_ne (by omega), get_set_ne (by omega), get_set_ne (by omega), get_set_eq (u := .int .i64 xs[j].st) (by rw [get_set_ne (by omega), get_set_ne (by omega)]; exact a2)]; rfl
    | 3, _ => rw [get_set_ne (by omega), get_set_ne (by omega), get_set_ne (by omega), get_set_ne (by omega), get_set_ne (by omega), get_set_eq (u := .int .i64 xs[j].ea) (by rw [get_set_ne (by omega), get_set_ne (by omega), get_set_ne (by omega)]; exact a3)]; rfl
    | 4, _ => rw [get_set_ne (by omega), get_set_ne (by omega), get_set_ne (by omega), get_set_ne (by omega), get_set_eq (u := .int .i64 xs[j].du) (by rw [get_set_ne (by omega), get_set_ne (by omega), get_set_ne (by omega), get_set_ne (by omega)]; exact a4)]; rfl
    | 5, _ => rw [get_set_ne (by omega), get_set_ne (by omega), get_set_ne (by omega), get_set_eq (u := .int .i64 xs[j].la) (by rw [get_set_ne (by omega), get_set_ne (by omega), get_set_ne (by omega), get_set_ne (by omega), get_set_ne (by omega)]; exact a5)]; rfl
    | 6, _ => rw [get_set_ne (by omega), get_set_ne (by omega), get_set_eq (u := .int .i64 xs[j].ti) (by rw [get_set_ne (by omega), get_set_ne (by omega), get_set_ne (by omega), get_set_ne (by omega), get_set_ne (by omega), get_set_ne (by omega)]; exact a6)]; rfl
    | 7, _ => rw [get_set_ne (by omega), get_set_eq (u := .int .i64 xs[j].lp) (by rw [get_set_ne (by omega), get_set_ne (by omega), get_set_ne (by omega), get_set_ne (by omega), get_set_ne (by omega), get_set_ne (by omega), get_set_ne (by omega)]; exact a7)]; rfl
    | 8, _ => rw [get_set_eq (u := .int .i64 xs[j].bu) (by rw [get_set_ne (by omega), get_set_ne (by omega), get_set_ne (by omega), get_set_ne (by omega), get_set_ne (by omega), get_set_ne (by omega), get_set_ne (by omega), get_set_ne (by omega)]; exact a8)]; rfl
  · rw [List.getElem_set_ne (fun e => hjk e.symm), get_set_ne (by omega), get_set_ne (by omega), get_set_ne (by omega), get_set_ne (by omega), get_set_ne (by omega), get_set_ne (by omega), get_set_ne (by omega), get_set_ne (by omega), get_set_ne (by omega)]
    exact h j i hj' hi

/-- The last field of a state stored. -/
theorem RowOf.set_bu {cs : Array Value} {xs : List St} (h : RowOf cs xs) {k : Nat} (hk : k < xs.length) (d : Int) :
    RowOf (cs.setIfInBounds (k * 9 + 8) (.int .i64 d)) (xs.set k { xs[k] with bu := d }) := by
  intro j i hj hi
  have hj' : j < xs.length := by simpa using hj
  by_cases hjk : j = k
  · subst hjk
    rw [List.getElem_set_self]
    obtain ⟨a0, a1, a2, a3, a4, a5, a6, a7, a8⟩ := h.at_ hk rfl
    match i, hi with
    | 0, _ => rw [get_set_ne (by omega)]; exact a0
    | 1, _ => rw [get_set_ne (by omega)]; exact a1
    | 2, _ => rw [get_set_ne (by omega)]; exact a2
    | 3, _ => rw [get_set_ne (by omega)]; exact a3
    | 4, _ => rw [get_set_ne (by omega)]; exact a4
    | 5, _ => rw [get_set_ne (by omega)]; exact a5
    | 6, _ => rw [get_set_ne (by omega)]; exact a6
    | 7, _ => rw [get_set_ne (by omega)]; exact a7
    | 8, _ => rw [get_set_eq a8]; rfl
  · rw [List.getElem_set_ne (fun e => hjk e.symm), get_set_ne (by omega)]
    exact h j i hj' hi

def gradeAt (xs : List St) (p g d : Int) : List St × Int :=
  if statesErr xs = 0 then (if p < 0 ∨ (xs.length : Int) ≤ p then ([], 7) else
    match xs[p.toNat]? with
    | none => ([], 7)
    | some x => if (x.grade g d).2 = 0 then (xs.set p.toNat (x.grade g d).1, 0) else ([], (x.grade g d).2)) else ([], statesErr xs)

def bury (xs : List St) (p d : Int) : List St × Int :=
  if statesErr xs = 0 then (if p < 0 ∨ (xs.length : Int) ≤ p then ([], 7) else if d < 0 ∨ 100000 < d then ([], 2) else
    match xs[p.toNat]? with
    | none => ([], 7)
    | some x => (xs.set p.toNat { x with bu := d }, 0)) else ([], statesErr xs)

theorem len_of_statesErr {xs : List St} (h : statesErr xs = 0) : xs.length ≤ 5000 := by
  unfold statesErr at h
  by_cases hl : 5000 < xs.length
  · rw [if_pos hl] at h; omega
  · omega

end Go.Proofs.Ytokghdcfbbogdaa
