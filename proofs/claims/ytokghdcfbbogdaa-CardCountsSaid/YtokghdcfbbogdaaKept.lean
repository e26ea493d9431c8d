/-
  PLAIN: what Kept counts.
-/
import Derived.Test.YtokghdcfbbogdaaWalkJ
namespace Go.Proofs.Ytokghdcfbbogdaa
open Go.RowKit

/-- How many of the reviews lie between two days; of these, how many are good. -/
def keptAll (a b : Int) : List Rv → Nat
  | [] => 0
  | r :: rs => (if r.da < a ∨ b < r.da then 0 else 1) + keptAll a b rs
def keptGood (a b : Int) : List Rv → Nat
  | [] => 0
  | r :: rs => (if r.da < a ∨ b < r.da then 0 else if 1 < r.gr then 1 else 0) + keptGood a b rs

theorem keptAll_le (a b : Int) (rs : List Rv) : keptAll a b rs ≤ rs.length := by
  induction rs with
  | nil => exact Nat.le_refl _
  | cons r rs ih => simp only [keptAll, List.length_cons]; split <;> omega
theorem keptGood_le (a b : Int) (rs : List Rv) : keptGood a b rs ≤ rs.length := by
  induction rs with
  | nil => exact Nat.le_refl _
  | cons r rs ih => simp only [keptGood, List.length_cons]; split <;> (try split) <;> omega

def kept (a b : Int) (rs : List Rv) : Int × Int × Int := if 20000 < rs.length then (0, 0, 4) else if b < a then (0, 0, 5) else (keptGood a b rs, keptAll a b rs, 0)

theorem keptAll_take (a b : Int) (rs : List Rv) (k : Nat) (h : k < rs.length) : keptAll a b (rs.take (k + 1)) = keptAll a b (rs.take k) + (if rs[k].da < a ∨ b < rs[k].da then 0 else 1) := by
  induction rs generalizing k with
  | nil => simp at h
  | cons r rs ih =>
    cases k with
    | zero => simp [keptAll]
    | succ k =>
      have := ih k (by simpa using h)
      simp only [List.take_succ_cons, keptAll, List.getElem_cons_succ]
      omega
theorem keptGood_take (a b : Int) (rs : List Rv) (k : Nat) (h : k < rs.length) : keptGood a b (rs.take (k + 1)) = keptGood a b (rs.take k) + (if rs[k].da < a ∨ b < rs[k].da then 0 else if 1 < rs[k].gr then 1 else 0) := by
  induction rs generalizing k with
  | nil => simp at h
  | cons r rs ih =>
    cases k with
    | zero => simp [keptGood]
    | succ k =>
      have := ih k (by simpa using h)
      simp only [List.take_succ_cons, keptGood, List.getElem_cons_succ]
      omega
end Go.Proofs.Ytokghdcfbbogdaa
