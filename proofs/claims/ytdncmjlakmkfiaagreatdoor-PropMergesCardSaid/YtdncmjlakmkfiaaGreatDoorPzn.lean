/-
  WALKS: Put and PutOf.
-/
import Derived.Test.YtdncmjlakmkfiaaGreatDoorPzm
import Derived.Test.YtdncmjlakmkfiaaGreatDoorPpc
set_option linter.all false
namespace Go.Proofs.YtdncmjlakmkfiaaGreatDoor
open Go.RowKit Go.Lib

/-- What is wrong ahead of a change. -/
def preErr (x : ByteArray) (e : Int) (l : List PR) : Int := if propsErr l ≠ 0 then propsErr l else if nameErr x ≠ 0 then 3 else e

def PutIs (x : ByteArray) (v : V) (l r : List PR) (E : Int) : Prop :=
  (preErr x v.err l ≠ 0 ∧ r = [] ∧ E = preErr x v.err l) ∨ (preErr x v.err l = 0 ∧ ∃ r', WithIs x v l r' ∧ ((20 < r'.length ∧ r = [] ∧ E = 4) ∨ (r'.length ≤ 20 ∧ r = r' ∧ E = 0)))

theorem preErr_zero {x : ByteArray} {e : Int} {l : List PR} (h : preErr x e l = 0) : propsErr l = 0 := by
  unfold preErr at h
  by_cases hp : propsErr l = 0
  · exact hp
  · rw [if_pos hp] at h; exact h

theorem PutIs.same {x : ByteArray} {v : V} {l r r' : List PR} {E E' : Int} (h1 : PutIs x v l r E) (h2 : PutIs x v l r' E') : r = r' ∧ E = E' := by
  rcases h1 with ⟨h1, rfl, rfl⟩ | ⟨h1, q, hq, hr⟩
  · rcases h2 with ⟨h2, rfl, rfl⟩ | ⟨h2, _⟩
    · exact ⟨rfl, rfl⟩
    · exact absurd h2 h1
  · rcases h2 with ⟨h2, _⟩ | ⟨_, q', hq', hr'⟩
    · exact absurd h1 h2
    · have := hq.same (named_of (preErr_zero h1)).1 hq'
      subst this
      rcases hr with ⟨a, rfl, rfl⟩ | ⟨a, rfl, rfl⟩ <;> rcases hr' with ⟨b, rfl, rfl⟩ | ⟨b, rfl, rfl⟩
      · exact ⟨rfl, rfl⟩
      · omega
      · omega
      · exact ⟨rfl, rfl⟩

theorem PutIs.big {x : ByteArray} {v : V} {l r : List PR} (h : preErr x v.err l = 0) (hw : WithIs x v l r) (h20 : 20 < r.length) : PutIs x v l [] 4 := .inr ⟨h, r, hw, .inl ⟨h20, rfl, rfl⟩⟩

theorem PutIs.ok {x : ByteArray} {v : V} {l r : List PR} (h : preErr x v.err l = 0) (hw : WithIs x v l r) (h20 : r.length ≤ 20) : PutIs x v l r 0 := .inr ⟨h, r, hw, .inr ⟨h20, rfl, rfl⟩⟩

/-- A list and a number are handed back. -/
def POut (P : List PR → Int → Prop) (w : World) (e : Ending) (w' : World) : Prop :=
  ∃ A c r E, e = .returned (.tuple #[.slice A r.length c, .int .i64 E]) ∧ PsAt w' A r ∧ P r E ∧ Below w.heap.size w w'

theorem psAt_nil (w : World) : PsAt w none [] := ⟨by simp, fun h => absurd h (by simp)⟩

end Go.Proofs.YtdncmjlakmkfiaaGreatDoor
