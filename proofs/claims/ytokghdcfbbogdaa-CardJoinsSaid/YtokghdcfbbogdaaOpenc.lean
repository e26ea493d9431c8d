/-
  OPENING: a list of states that comes in, and the bounds of what gradeAt and bury hand back.
-/
import Derived.Test.YtokghdcfbbogdaaRows
import Derived.Test.YtokghdcfbbogdaaRow
import Derived.Test.YtokghdcfbbogdaaClone
namespace Go.Proofs.Ytokghdcfbbogdaa
open Go.ChangeShapes Go.WideShapes Go.ChangeAt Go.Deep Go.RowKit

section
variable {H : Type} {enc : TypeId × Value → H} {w : World} {base : Nat} {held : Bool}
set_option maxRecDepth 100000 in
/-- A list of states that comes in. -/
theorem open_states {v : Value} {d : DataW H} {ps : List MemPlace} {r : Reach} {b0 : Nat} (hv : Value.okWide Try.prog w r b0 36 v) (h : DataW.Trod enc Try.prog w base (fun _ => true) held 36 v d ps) :
    ∃ (A : Option Addr) (xs : List St) (cap : Nat), v = .slice A xs.length cap ∧ xs.length ≤ cap ∧ cap ≤ maxLen ∧ (A = none → xs = [] ∧ cap = 0) ∧ StsAt w A xs := by
  obtain ⟨A, len, cap, rfl, h1, h2, h3, h4⟩ := open_int_slice Try.underlying36 Try.underlying24 (by kernel_rfl) (by kernel_rfl) (K := 9) rfl
    (by kernel_rfl) hv h
  by_cases hlen : 0 < len
  · obtain ⟨b, off, hA, hb, hc⟩ := h4 (by decide) hlen
    obtain ⟨l, hl, hq⟩ := list_of (Q := fun i (x : St) => StCells w b (off + i * 9) x) len (fun i hi => by
      obtain ⟨n0, c0, _⟩ := hc i hi 0 (by decide)
      obtain ⟨n1, c1, _⟩ := hc i hi 1 (by decide)
      obtain ⟨n2, c2, _⟩ := hc i hi 2 (by decide)
      obtain ⟨n3, c3, _⟩ := hc i hi 3 (by decide)
      obtain ⟨n4, c4, _⟩ := hc i hi 4 (by decide)
      obtain ⟨n5, c5, _⟩ := hc i hi 5 (by decide)
      obtain ⟨n6, c6, _⟩ := hc i hi 6 (by decide)
      obtain ⟨n7, c7, _⟩ := hc i hi 7 (by decide)
      obtain ⟨n8, c8, _⟩ := hc i hi 8 (by decide)
      exact ⟨⟨n0, n1, n2, n3, n4, n5, n6, n7, n8⟩, c0, c1, c2, c3, c4, c5, c6, c7, c8⟩)
    subst hl
    exact ⟨A, l, cap, rfl, h1, h2, fun h => by have := h3 h; exact ⟨List.length_eq_zero_iff.1 this.1, this.2⟩, fun _ => ⟨b, off, hA, hb, hq⟩⟩
  · have : len = 0 := by omega
    subst this
    exact ⟨A, [], cap, rfl, h1, h2, fun h => ⟨rfl, (h3 h).2⟩, fun h => absurd h (by simp)⟩
end

theorem gradeAt_len (xs : List St) (p g d : Int) (h : xs.length ≤ maxLen) : (gradeAt xs p g d).1.length ≤ maxLen := by
  unfold gradeAt
  split
  · split
    · simp
    · split
      · simp
      · split
        · simpa using h
        · simp
  · simp
theorem bury_len (xs : List St) (p d : Int) (h : xs.length ≤ maxLen) : (bury xs p d).1.length ≤ maxLen := by
  unfold bury
  split
  · split
    · simp
    · split
      · simp
      · split
        · simp
        · simpa using h
  · simp
end Go.Proofs.Ytokghdcfbbogdaa
