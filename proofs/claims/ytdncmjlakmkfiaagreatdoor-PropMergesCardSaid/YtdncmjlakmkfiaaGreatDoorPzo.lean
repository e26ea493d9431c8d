/-
  WALKS: Drop and DropOf.
-/
import Derived.Test.YtdncmjlakmkfiaaGreatDoorPzn
import Derived.Test.YtdncmjlakmkfiaaGreatDoorPph
set_option linter.all false
namespace Go.Proofs.YtdncmjlakmkfiaaGreatDoor
open Go.RowKit Go.Lib

def DropIs (x : ByteArray) (l r : List PR) (E : Int) : Prop :=
  (preErr x 0 l ≠ 0 ∧ r = [] ∧ E = preErr x 0 l) ∨ (preErr x 0 l = 0 ∧ ((firstIdx (prIs l x) l.length = none ∧ r = [] ∧ E = 7) ∨ (firstIdx (prIs l x) l.length ≠ none ∧ r = othersR x l ∧ E = 0)))

theorem DropIs.same {x : ByteArray} {l r r' : List PR} {E E' : Int} (h1 : DropIs x l r E) (h2 : DropIs x l r' E') : r = r' ∧ E = E' := by
  rcases h1 with ⟨h1, rfl, rfl⟩ | ⟨h1, ⟨a, rfl, rfl⟩ | ⟨a, rfl, rfl⟩⟩ <;> rcases h2 with ⟨h2, rfl, rfl⟩ | ⟨h2, ⟨b, rfl, rfl⟩ | ⟨b, rfl, rfl⟩⟩
  all_goals first | exact ⟨rfl, rfl⟩ | exact absurd h1 h2 | exact absurd h2 h1 | exact absurd a b | exact absurd b a

theorem lAt_nil (w : World) : LAt w none [] := ⟨by simp, fun h => absurd h (by simp)⟩

theorem withIs_zero {x : ByteArray} {l r : List PR} (h : WithIs x (.mk 0 0 0 ⟨#[]⟩ []) l r) : r = othersR x l := by
  rcases h with ⟨_, h⟩ | ⟨h, _⟩
  · exact h
  · exact absurd rfl h

end Go.Proofs.YtdncmjlakmkfiaaGreatDoor
