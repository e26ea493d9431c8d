/-
  PLAIN: the places of the states that a test picks out.
-/
import Derived.Test.YtokghdcfbbogdaaSet
import Derived.Test.YtokghdcfbbogdaaWalkS
namespace Go.Proofs.Ytokghdcfbbogdaa
open Go.RowKit

/-- The places below k of the states that pass. -/
def pick (p : St → Bool) (xs : List St) : Nat → List Int
  | 0 => []
  | k + 1 => match xs[k]? with
    | none => pick p xs k
    | some x => if p x = true then pick p xs k ++ [(k : Int)] else pick p xs k

theorem pick_yes {p : St → Bool} {xs : List St} {k : Nat} {x : St} (h : xs[k]? = some x) (hp : p x = true) : pick p xs (k + 1) = pick p xs k ++ [(k : Int)] := by simp [pick, h, hp]
theorem pick_no {p : St → Bool} {xs : List St} {k : Nat} {x : St} (h : xs[k]? = some x) (hp : p x = false) : pick p xs (k + 1) = pick p xs k := by simp [pick, h, hp]
theorem pick_le (p : St → Bool) (xs : List St) (k : Nat) : (pick p xs k).length ≤ k := by
  induction k with
  | zero => exact Nat.le_refl _
  | succ k ih =>
    unfold pick
    split
    · omega
    · split
      · simp; omega
      · omega

def leeches (xs : List St) (m : Int) : List Int × Int := if statesErr xs = 0 then (if m < 1 then ([], 2) else (pick (fun x => decide (m ≤ x.lp)) xs xs.length, 0)) else ([], statesErr xs)
end Go.Proofs.Ytokghdcfbbogdaa
