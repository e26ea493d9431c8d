/-
  WORDS FOR MEMORY: a world in which one old block alone is turned.
-/
import Derived.Test.YtdncmjlakmkfiaaGreatDoorInts
set_option linter.all false
namespace Go.Proofs.YtdncmjlakmkfiaaGreatDoor
open Go.RowKit

/-- A world in which one old block alone is turned. -/
structure Trn (p : Nat) (w w' : World) : Prop where
  os : w'.os = w.os
  tape : w'.tape = w.tape
  output : w'.output = w.output
  size : w.heap.size ≤ w'.heap.size
  same : ∀ b, b < w.heap.size → b ≠ p → w'.heap[b]? = w.heap[b]?

theorem Trn.refl (p : Nat) (w : World) : Trn p w w := ⟨rfl, rfl, rfl, Nat.le_refl _, fun _ _ _ => rfl⟩

theorem Trn.trans {p : Nat} {a b c : World} (h1 : Trn p a b) (h2 : Trn p b c) : Trn p a c :=
  ⟨h2.os.trans h1.os, h2.tape.trans h1.tape, h2.output.trans h1.output, Nat.le_trans h1.size h2.size, fun x hx hn => (h2.same x (Nat.lt_of_lt_of_le hx h1.size) hn).trans (h1.same x hx hn)⟩

theorem Trn.of_below {p : Nat} {w w' : World} (h : Below w.heap.size w w') : Trn p w w' := ⟨h.os, h.tape, h.output, h.size, fun b hb _ => h.block b hb⟩

theorem Trn.below {p B : Nat} {a w w' : World} (h : Trn p w w') (hp : B ≤ p) (hb : Below B a w) (hB : B ≤ w.heap.size) : Below B a w' :=
  ⟨h.os.trans hb.os, h.tape.trans hb.tape, h.output.trans hb.output, Nat.le_trans hb.size h.size, fun k hk => (h.same k (by omega) (by omega)).trans (hb.block k hk)⟩

theorem Trn.set {p i : Nat} (w : World) (v : Value) : Trn p w (w.setCell ⟨p, i, none⟩ v) :=
  ⟨rfl, rfl, rfl, by simp [World.setCell], fun b _ hn => Below.heap_setCell w _ v b hn⟩

theorem Trn.drew {p : Nat} {w w' : World} (h : Trn p w w') : Trn p w w'.drew := ⟨h.os, h.tape, h.output, h.size, h.same⟩

theorem Trn.alloc {p : Nat} {w w' : World} (h : Trn p w w') (o : Obj) : Trn p w (w'.alloc o) :=
  ⟨h.os, h.tape, h.output, by rw [World.size_alloc]; have := h.size; omega, fun b hb hn => (Below.heap_alloc w' o b (Nat.lt_of_lt_of_le hb h.size)).trans (h.same b hb hn)⟩

theorem Trn.plus {p : Nat} {w w' : World} (h : Trn p w w') (os : Array Obj) (n : Nat) : Trn p w (plus w' os n) :=
  h.trans (Trn.of_below (bl_plus (Below.refl _ _)))

theorem Trn.set_ {p i : Nat} {w w' : World} (h : Trn p w w') (v : Value) : Trn p w (w'.setCell ⟨p, i, none⟩ v) := h.trans (Trn.set w' v)

theorem Trn.blk {p g : Nat} {w w' : World} {t : TypeId} {cs : Array Value} (h : Trn p w w') (hb : Blk w g t cs) (hg : g ≠ p) : Blk w' g t cs := (h.same g hb.lt hg).trans hb

/-- What is turned in no old block. -/
theorem Trn.sub {p : Nat} {w0 w w' : World} (h : Trn p w w') (h0 : Trn p w0 w) : Trn p w0 w' := h0.trans h

end Go.Proofs.YtdncmjlakmkfiaaGreatDoor
