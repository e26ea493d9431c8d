/-
  WORDS FOR MEMORY: a reader of words; a world in which one old block alone is turned.
-/
import Derived.Test.YtjaoiehjhnmahaaGreatDoorInts
import Derived.Test.YtjaoiehjhnmahaaGreatDoorRrs
set_option linter.all false
namespace Go.Proofs.YtjaoiehjhnmahaaGreatDoor
open Go.RowKit

/-- A world in which one old block alone is turned. -/
structure Trn (p : Nat) (w w' : World) : Prop where
  os : w'.os = w.os
  tape : w'.tape = w.tape
  output : w'.output = w.output
  size : w.heap.size ≤ w'.heap.size
  same : ∀ b, b < w.heap.size → b ≠ p → w'.heap[b]? = w.heap[b]?
theorem Trn.refl (p : Nat) (w : World) : Trn p w w := ⟨rfl, rfl, rfl, Nat.le_refl _, fun _ _ _ => rfl⟩
theorem Trn.trans {p : Nat} {a b c : World} (h1 : Trn p a b) (h2 : Trn p b c) : Trn p a c :=
  ⟨h2.os.trans h1.os, h2.tape.trans h1.tape, h2.output.trans h1.output, Nat.le_trans h1.size h2.size, fun x hx hn => (h2.same x (Nat.lt_of_lt_of_le hx h1.size) hn).trans (h1.same x hx hn)⟩
theorem Trn.of_below {p : Nat} {w w' : World} (h : Below w.heap.size w w') : Trn p w w' := ⟨h.os, h.tape, h.output, h.size, fun b hb _ => h.block b hb⟩
theorem Trn.below {p B : Nat} {a w w' : World} (h : Trn p w w') (hp : B ≤ p) (hb : Below B a w) (hB : B ≤ w.heap.size) : Below B a w' :=
  ⟨h.os.trans hb.os, h.tape.trans hb.tape, h.output.trans hb.output, Nat.le_trans hb.size h.size, fun k hk => (h.same k (by omega) (by omega)).trans (hb.block k hk)⟩
theorem Trn.set {p i : Nat} (w : World) (v : Value) : Trn p w (w.setCell ⟨p, i, none⟩ v) :=
  ⟨rfl, rfl, rfl, by simp [World.setCell], fun b _ hn => Below.heap_setCell w _ v b hn⟩
theorem Trn.drew {p : Nat} {w w' : World} (h : Trn p w w') : Trn p w w'.drew := ⟨h.os, h.tape, h.output, h.size, h.same⟩
theorem Trn.alloc {p : Nat} {w w' : World} (h : Trn p w w') (o : Obj) : Trn p w (w'.alloc o) :=
  ⟨h.os, h.tape, h.output, by rw [World.size_alloc]; have := h.size; omega, fun b hb hn => (Below.heap_alloc w' o b (Nat.lt_of_lt_of_le hb h.size)).trans (h.same b hb hn)⟩
theorem Trn.plus {p : Nat} {w w' : World} (h : Trn p w w') (os : Array Obj) (n : Nat) : Trn p w (plus w' os n) :=
  h.trans (Trn.of_below (bl_plus (Below.refl _ _)))
theorem Trn.set_ {p i : Nat} {w w' : World} (h : Trn p w w') (v : Value) : Trn p w (w'.setCell ⟨p, i, none⟩ v) := h.trans (Trn.set w' v)
theorem Trn.blk {p g : Nat} {w w' : World} {t : TypeId} {cs : Array Value} (h : Trn p w w') (hb : Blk w g t cs) (hg : g ≠ p) : Blk w' g t cs := (h.same g hb.lt hg).trans hb
/-- What is turned in no old block. -/
theorem Trn.sub {p : Nat} {w0 w w' : World} (h : Trn p w w') (h0 : Trn p w0 w) : Trn p w0 w' := h0.trans h

/-- A reader of words at p: the words to come, and its flag; all of it lies below B. -/
structure Rd (T : TypeId) (w : World) (p B : Nat) (L : List ByteArray) (f : Bool) : Prop where
  ex : ∃ b o c, Blk w p T #[.slice (some ⟨b, o, none⟩) L.length c, .bool f] ∧ b ≠ p ∧ b < B ∧ L.length ≤ c ∧ c ≤ 4294967296 ∧ ∀ k (h : k < L.length), w.cell? ⟨b, o + k, none⟩ = some (.string L[k])
  lt : p < B
  le : B ≤ w.heap.size
  sz : ∀ x ∈ L, x.size ≤ 2000
theorem Rd.below {T : TypeId} {w w' : World} {p B : Nat} {L : List ByteArray} {f : Bool} (h : Rd T w p B L f) (hb : Below B w w') : Rd T w' p B L f := by
  obtain ⟨⟨b, o, c, h1, h2, h3, h4, h5, h6⟩, h7, h8, h9⟩ := h
  exact ⟨⟨b, o, c, h1.below hb h7, h2, h3, h4, h5, fun k hk => (hb.cell (p := ⟨b, o + k, none⟩) h3).trans (h6 k hk)⟩, h7, Nat.le_trans h8 hb.size, h9⟩
theorem Rd.below_ {T : TypeId} {w w' : World} {p B : Nat} {L : List ByteArray} {f : Bool} (h : Rd T w p B L f) (hb : Below w.heap.size w w') : Rd T w' p B L f := h.below (hb.mono h.le)
/-- The flag is set. -/
theorem Rd.flag {T : TypeId} {w : World} {p B : Nat} {L : List ByteArray} {f : Bool} (h : Rd T w p B L f) (f' : Bool) : Rd T (w.setCell ⟨p, 1, none⟩ (.bool f')) p B L f' := by
  obtain ⟨⟨b, o, c, h1, h2, h3, h4, h5, h6⟩, h7, h8, h9⟩ := h
  refine ⟨⟨b, o, c, h1.set_ 1 _, h2, h3, h4, h5, fun k hk => ?_⟩, h7, by simpa [World.setCell] using h8, h9⟩
  rw [← h6 k hk]
  exact World.cell?_of_block (Below.heap_setCell w _ _ b h2)
/-- The next word is behind. -/
theorem Rd.next {T : TypeId} {w : World} {p B b o c : Nat} {x : ByteArray} {r : List ByteArray} {f : Bool} (h1 : Blk w p T #[.slice (some ⟨b, o, none⟩) (r.length + 1) c, .bool f]) (h2 : b ≠ p) (h3 : b < B) (h4 : r.length + 1 ≤ c) (h5 : c ≤ 4294967296)
    (h6 : ∀ k (h : k < (x :: r).length), w.cell? ⟨b, o + k, none⟩ = some (.string (x :: r)[k])) (h7 : p < B) (h8 : B ≤ w.heap.size) (h9 : ∀ y ∈ x :: r, y.size ≤ 2000) :
    Rd T (w.setCell ⟨p, 0, none⟩ (.slice (some ⟨b, o + 1, none⟩) r.length (c - 1))) p B r f := by
  refine ⟨⟨b, o + 1, c - 1, h1.set_ 0 _, h2, h3, by omega, by omega, fun k hk => ?_⟩, h7, by simpa [World.setCell] using h8, fun y hy => h9 y (by simp [hy])⟩
  have := h6 (k + 1) (by simp; omega)
  rw [List.getElem_cons_succ] at this
  rw [← this, show o + 1 + k = o + (k + 1) by omega]
  exact World.cell?_of_block (Below.heap_setCell w _ _ b h2)
/-- The last word is behind. -/
theorem Rd.next0 {T : TypeId} {w : World} {p B b o c : Nat} {x : ByteArray} {r : List ByteArray} {f : Bool} (h1 : Blk w p T #[.slice (some ⟨b, o, none⟩) (r.length + 1) c, .bool f]) (h2 : b ≠ p) (h3 : b < B) (h4 : r.length = 0) (h7 : p < B) (h8 : B ≤ w.heap.size) (h9 : ∀ y ∈ x :: r, y.size ≤ 2000) :
    Rd T (w.setCell ⟨p, 0, none⟩ (.slice (some ⟨b, o, none⟩) r.length 0)) p B r f :=
  ⟨⟨b, o, 0, h1.set_ 0 _, h2, h3, by omega, by omega, fun k hk => absurd hk (by omega)⟩, h7, by simpa [World.setCell] using h8, fun y hy => h9 y (by simp [hy])⟩

theorem lit_ne {x s : ByteArray} (h : x ≠ s) : (x.toList == s.toList) = false := beq_eq_false_iff_ne.2 fun e => h ((Lib.bytes_beq_iff _ _).1 (beq_iff_eq.2 e))

end Go.Proofs.YtjaoiehjhnmahaaGreatDoor
