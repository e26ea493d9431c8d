/-
  PLAIN: a world with draws and blocks behind it.
-/
import Derived.Test.YtfpcfpjnafnjiaaBlk
import Derived.Shelf.SlSortCmp.Insertion
set_option linter.all false
namespace Go.Proofs.Ytfpcfpjnafnjiaa
open Go.RowKit Go.Shelf

/-- A world with draws and blocks behind it. -/
def Grows (w w' : World) : Prop := ∃ q os, w' = Sort.grow (w.drewN q) os
theorem Grows.refl (w : World) : Grows w w := ⟨0, #[], by simp [Sort.grow, World.drewN]⟩
theorem Grows.alloc {a w : World} (h : Grows a w) (o : Obj) : Grows a (w.alloc o) := by
  obtain ⟨q, os, rfl⟩ := h
  exact ⟨q, os.push o, by simp [Sort.grow, World.alloc]⟩
theorem Grows.drew {a w : World} (h : Grows a w) : Grows a w.drew := by
  obtain ⟨q, os, rfl⟩ := h
  exact ⟨q + 1, os, rfl⟩
theorem Grows.drewN {a w : World} (h : Grows a w) (n : Nat) : Grows a (w.drewN n) := by
  obtain ⟨q, os, rfl⟩ := h
  exact ⟨q + n, os, by simp [Sort.grow, World.drewN, Nat.add_assoc]⟩
theorem Grows.of {w : World} {os : Array Obj} {n : Nat} (h : w.drawn ≤ n) : Grows w (plus w os n) := ⟨n - w.drawn, os, by
  unfold plus Sort.grow World.drewN
  rw [show w.drawn + (n - w.drawn) = n by omega]⟩
theorem Grows.trans {a b c : World} (h : Grows a b) (g : Grows b c) : Grows a c := by
  obtain ⟨q, os, rfl⟩ := h
  obtain ⟨q2, os2, rfl⟩ := g
  exact ⟨q + q2, os ++ os2, by simp [Sort.grow, World.drewN, Nat.add_assoc]⟩
theorem Grows.below {a b : World} (h : Grows a b) : Below a.heap.size a b := by
  obtain ⟨q, os, rfl⟩ := h
  exact (show Below a.heap.size a (plus a os (a.drawn + q)) from bl_plus (Below.refl _ _))
theorem Grows.le {a b : World} (h : Grows a b) : a.drawn ≤ b.drawn := by
  obtain ⟨q, os, rfl⟩ := h
  exact Nat.le_add_right _ _
theorem Grows.mk {a b : World} (h : Below a.heap.size a b) (h2 : a.drawn ≤ b.drawn) : Grows a b := by
  obtain ⟨os, n, rfl⟩ := below_plus h
  exact Grows.of h2

end Go.Proofs.Ytfpcfpjnafnjiaa
