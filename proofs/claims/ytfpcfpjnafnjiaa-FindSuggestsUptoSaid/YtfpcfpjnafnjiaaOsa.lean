/-
  PLAIN: the distance of two byte strings by steps (with exchanges of neighbours), its bounds, and its step under a ceiling; no program in sight.
-/
import Derived.RowKit
set_option linter.all false
namespace Go.Proofs.Ytfpcfpjnafnjiaa
namespace Osa

/-- The distance of the first i bytes of one string and the first j of another. -/
def D (a b : Nat → UInt8) : Nat → Nat → Nat
  | 0, j => j
  | i + 1, 0 => i + 1
  | i + 1, j + 1 =>
    if 1 ≤ i ∧ 1 ≤ j ∧ a i = b (j - 1) ∧ a (i - 1) = b j then
      min (min (min (D a b i (j + 1) + 1) (D a b (i + 1) j + 1)) (D a b i j + if a i = b j then 0 else 1)) (D a b (i - 1) (j - 1) + 1)
    else min (min (D a b i (j + 1) + 1) (D a b (i + 1) j + 1)) (D a b i j + if a i = b j then 0 else 1)
termination_by i j => i + j

variable {a b : Nat → UInt8}
theorem D_0 (j : Nat) : D a b 0 j = j := by rw [D]
theorem D_i0 (i : Nat) : D a b i 0 = i := by cases i <;> rw [D]
theorem D_lower : ∀ n i j, i + j ≤ n → i ≤ D a b i j + j ∧ j ≤ D a b i j + i
  | 0, i, j, h => by
    have h1 : i = 0 := by omega
    have h2 : j = 0 := by omega
    subst h1 h2
    omega
  | n + 1, 0, j, h => by rw [D_0]; omega
  | n + 1, i + 1, 0, h => by rw [D_i0]; omega
  | n + 1, i + 1, j + 1, h => by
    have h1 := D_lower n i (j + 1) (by omega)
    have h2 := D_lower n (i + 1) j (by omega)
    have h3 := D_lower n i j (by omega)
    have h4 := D_lower n (i - 1) (j - 1) (by omega)
    rw [D]
    split
    · split <;> omega
    · split <;> omega
theorem lower (i j : Nat) : i ≤ D a b i j + j ∧ j ≤ D a b i j + i := D_lower (i + j) i j (Nat.le_refl _)
theorem D_upper : ∀ n i j, i + j ≤ n → D a b i j ≤ max i j
  | 0, i, j, h => by
    have h1 : i = 0 := by omega
    have h2 : j = 0 := by omega
    subst h1 h2
    rw [D_0]; omega
  | n + 1, 0, j, h => by rw [D_0]; omega
  | n + 1, i + 1, 0, h => by rw [D_i0]; omega
  | n + 1, i + 1, j + 1, h => by
    have h3 := D_upper n i j (by omega)
    rw [D]
    split
    · split <;> omega
    · split <;> omega
theorem upper (i j : Nat) : D a b i j ≤ max i j := D_upper (i + j) i j (Nat.le_refl _)

/-- The distance under a ceiling. -/
def C (a b : Nat → UInt8) (far : Nat) (i j : Nat) : Nat := min (D a b i j) far
/-- One step under the ceiling, out of four distances under it. -/
theorem C_succ (far i j : Nat) : C a b far (i + 1) (j + 1) =
    min (if 1 ≤ i ∧ 1 ≤ j ∧ a i = b (j - 1) ∧ a (i - 1) = b j then min (min (min (C a b far i (j + 1)) (C a b far (i + 1) j) + 1) (C a b far i j + if a i = b j then 0 else 1)) (C a b far (i - 1) (j - 1) + 1)
      else min (min (C a b far i (j + 1)) (C a b far (i + 1) j) + 1) (C a b far i j + if a i = b j then 0 else 1)) far := by
  unfold C
  rw [D]
  split
  · split <;> omega
  · split <;> omega
theorem C_far {far i j : Nat} (h : i + far ≤ j ∨ j + far ≤ i) : C a b far i j = far := by
  have := lower (a := a) (b := b) i j
  unfold C
  omega

end Osa
end Go.Proofs.Ytfpcfpjnafnjiaa
