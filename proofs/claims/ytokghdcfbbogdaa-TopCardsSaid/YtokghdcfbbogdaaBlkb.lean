/-
  WORDS FOR MEMORY, MORE: sums that the walk compares.
-/
import Derived.Test.YtokghdcfbbogdaaBlk
namespace Go.Proofs.Ytokghdcfbbogdaa
open Go.RowKit

@[go_sem] theorem lt_more1 {a b c0 : Nat} (h : a < b) : a < b + c0 := by omega
@[go_sem] theorem lt_more2 {a b c0 c1 : Nat} (h : a < b) : a < b + c0 + c1 := by omega
@[go_sem] theorem lt_more3 {a b c0 c1 c2 : Nat} (h : a < b) : a < b + c0 + c1 + c2 := by omega
@[go_sem] theorem lt_more4 {a b c0 c1 c2 c3 : Nat} (h : a < b) : a < b + c0 + c1 + c2 + c3 := by omega
@[go_sem] theorem lt_more5 {a b c0 c1 c2 c3 c4 : Nat} (h : a < b) : a < b + c0 + c1 + c2 + c3 + c4 := by omega
@[go_sem] theorem lt_more6 {a b c0 c1 c2 c3 c4 c5 : Nat} (h : a < b) : a < b + c0 + c1 + c2 + c3 + c4 + c5 := by omega
@[go_sem] theorem lt_more7 {a b c0 c1 c2 c3 c4 c5 c6 : Nat} (h : a < b) : a < b + c0 + c1 + c2 + c3 + c4 + c5 + c6 := by omega
@[go_sem] theorem lt_more8 {a b c0 c1 c2 c3 c4 c5 c6 c7 : Nat} (h : a < b) : a < b + c0 + c1 + c2 + c3 + c4 + c5 + c6 + c7 := by omega
@[go_sem] theorem lt_more9 {a b c0 c1 c2 c3 c4 c5 c6 c7 c8 : Nat} (h : a < b) : a < b + c0 + c1 + c2 + c3 + c4 + c5 + c6 + c7 + c8 := by omega
@[go_sem] theorem lt_more10 {a b c0 c1 c2 c3 c4 c5 c6 c7 c8 c9 : Nat} (h : a < b) : a < b + c0 + c1 + c2 + c3 + c4 + c5 + c6 + c7 + c8 + c9 := by omega
@[go_sem] theorem lt_more11 {a b c0 c1 c2 c3 c4 c5 c6 c7 c8 c9 c10 : Nat} (h : a < b) : a < b + c0 + c1 + c2 + c3 + c4 + c5 + c6 + c7 + c8 + c9 + c10 := by omega
@[go_sem] theorem lt_more12 {a b c0 c1 c2 c3 c4 c5 c6 c7 c8 c9 c10 c11 : Nat} (h : a < b) : a < b + c0 + c1 + c2 + c3 + c4 + c5 + c6 + c7 + c8 + c9 + c10 + c11 := by omega

/-! What is new lies above what was. -/
theorem bl_alloc {a w : World} (h : Below a.heap.size a w) (o : Obj) : Below a.heap.size a (w.alloc o) := h.alloc h.size o
theorem bl_plus {a w : World} {os : Array Obj} {n : Nat} (h : Below a.heap.size a w) : Below a.heap.size a (plus w os n) := plus_below h h.size
theorem bl_drew {a w : World} (h : Below a.heap.size a w) : Below a.heap.size a w.drew := h.drew
theorem bl_drewN {a w : World} (h : Below a.heap.size a w) (n : Nat) : Below a.heap.size a (w.drewN n) := ⟨h.os, h.tape, h.output, h.size, h.block⟩
theorem bl_trans {a w w' : World} (h : Below a.heap.size a w) (k : Below w.heap.size w w') : Below a.heap.size a w' := h.trans (k.mono h.size)

end Go.Proofs.Ytokghdcfbbogdaa
