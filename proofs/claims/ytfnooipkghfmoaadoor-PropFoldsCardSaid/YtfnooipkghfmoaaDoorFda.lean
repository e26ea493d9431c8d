/-
  PLAIN: values whose items lie in blocks that were there at the start; their order.
-/
import Derived.Test.YtfnooipkghfmoaaDoorSrK
import Derived.Test.YtfnooipkghfmoaaDoorStab
import Derived.Test.YtfnooipkghfmoaaDoorVlg
import Derived.Test.YtfnooipkghfmoaaDoorCpv
set_option linter.all false
namespace Go.Proofs.YtfnooipkghfmoaaDoor
open Go.RowKit Go.Shelf Go.Lib Go.Sort

/-- A value whose items lie in the blocks that w0 has. -/
def In0 (w0 : World) : Type := { q : CVal // LIn w0 (fun b => b < w0.heap.size) q.A q.x.l }
theorem lIn_nil (w : World) (P : Nat → Prop) (A : Option Addr) : LIn w P A [] := ⟨by simp, fun h => absurd h (by simp)⟩
instance (w0 : World) : Inhabited (In0 w0) := ⟨⟨⟨.mk 0 0 0 ⟨#[]⟩ [], none, 0⟩, lIn_nil w0 _ none⟩⟩
section
variable {w0 : World}
def In0.cells (q : In0 w0) : List Value := q.1.cells
def In0.v (q : In0 w0) : V := q.1.x
def cf0 (a b : In0 w0) : Int := cmpV a.1.x b.1.x
def flat0 (xs : List (In0 w0)) : List Value := xs.flatMap In0.cells
/-- The values as slices.SortStableFunc lays them. -/
def stL (xs : List (In0 w0)) : List (In0 w0) := (stableF (ltOf cf0) xs.toArray).toList
theorem stL_len (xs : List (In0 w0)) : (stL xs).length = xs.length := by
  unfold stL
  rw [Array.length_toList, stableF_size]
  simp
theorem In0.at_ {W : World} (q : In0 w0) (hsame : ∀ b, b < w0.heap.size → W.heap[b]? = w0.heap[b]?) (hW : w0.heap.size ≤ W.heap.size) : LAt W q.1.A q.1.x.l :=
  ((q.2.frame (w' := W) hsame).mono (fun b hb => Nat.lt_of_lt_of_le hb hW)).at_ (fun _ h => h)
end

end Go.Proofs.YtfnooipkghfmoaaDoor
