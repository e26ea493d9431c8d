/-
  WORDS FOR MEMORY: a block that is known whole (after the guide's own words), hiding, the builtins max and min, no program in sight.
-/
import Derived.WalkKit
import Derived.Below
import Derived.Laws.OwnMore
import Derived.Deep.Draws
import Derived.Laws.Rows
set_option linter.all false
namespace Go.Proofs.YtioppoaijehicaaGreatDoor
open Go.RowKit

theorem hide {p : Prop} (h : p) : Hid p := h

/-- What lay before a call lies there still. -/
theorem bcell {W w1 : World} (hb : Below W.heap.size W w1) : (∀ b o, b < W.heap.size → w1.cell? ⟨b, o, none⟩ = W.cell? ⟨b, o, none⟩) ∧ (∀ b o, b < W.heap.size → w1.frozen? ⟨b, o, none⟩ = W.frozen? ⟨b, o, none⟩) :=
  ⟨fun b o h => hb.cell (p := ⟨b, o, none⟩) h, fun b o h => hb.frozen (p := ⟨b, o, none⟩) h⟩

def Blk (w : World) (g : Nat) (t : TypeId) (cs : Array Value) : Prop := w.heap[g]? = some (.cells cs t (0, 0))

section
variable {w w' : World} {g : Nat} {t : TypeId} {cs : Array Value}

theorem Blk.lt (h : Blk w g t cs) : g < w.heap.size := by
  rcases Nat.lt_or_ge g w.heap.size with hlt | hge
  · exact hlt
  · unfold Blk at h; rw [Array.getElem?_eq_none hge] at h; cases h

theorem Blk.cell (h : Blk w g t cs) (i : Nat) : w.cell? ⟨g, i, none⟩ = cs[i]? := cell_of_row w g i cs t (0, 0) h

theorem Blk.frozen (h : Blk w g t cs) (i : Nat) : w.frozen? ⟨g, i, none⟩ = false := by
  unfold Blk at h
  simp [World.frozen?, h]

theorem Blk.new (w : World) (t : TypeId) (cs : Array Value) : Blk (w.alloc (.cells cs t)) w.heap.size t cs := heap_alloc_new w _

theorem Blk.drew (h : Blk w g t cs) : Blk w.drew g t cs := h

theorem Blk.drewN (h : Blk w g t cs) (n : Nat) : Blk (w.drewN n) g t cs := h

theorem Blk.alloc (h : Blk w g t cs) (o : Obj) : Blk (w.alloc o) g t cs := (Below.heap_alloc w o g h.lt).trans h

theorem Blk.set_ (h : Blk w g t cs) (i : Nat) (u : Value) : Blk (w.setCell ⟨g, i, none⟩ u) g t (cs.setIfInBounds i u) := by
  unfold Blk at h ⊢
  simp [World.setCell, Array.getElem?_modify, h]

theorem Blk.far (h : Blk w g t cs) {p : Addr} (hp : g ≠ p.block) (u : Value) : Blk (w.setCell p u) g t cs := (Below.heap_setCell w p u g hp).trans h

theorem Blk.below {B : Nat} (h : Blk w g t cs) (hb : Below B w w') (hg : g < B) : Blk w' g t cs := (hb.block g hg).trans h

theorem Blk.grown {row : Option Nat} (h : Blk w g t cs) (hb : w.grownBy w' row) (hg : some g ≠ row) : Blk w' g t cs := (hb.block g h.lt hg).trans h

theorem Blk.ne_ {g' : Nat} {t' : TypeId} {cs' : Array Value} (h : Blk w g t cs) (h' : Blk w g' t' cs') (hne : t ≠ t') : g ≠ g' := by
  rintro rfl
  unfold Blk at h h'
  rw [h] at h'
  injection h' with h'
  injection h' with _ ht
  exact hne ht
end

/-! ### A world that is another one, with new blocks behind it -/

/-- The world w with the blocks os behind its own. -/
def plus (w : World) (os : Array Obj) (n : Nat) : World := { w with heap := w.heap ++ os, drawn := n }

theorem below_plus {W w' : World} (hb : Below W.heap.size W w') : ∃ os n, w' = plus W os n := by
  obtain ⟨h1, h2, h3, h4, h5⟩ := hb
  refine ⟨w'.heap.extract W.heap.size w'.heap.size, w'.drawn, ?_⟩
  cases w' with
  | mk heap tape drawn os output =>
    unfold plus
    simp only at h1 h2 h3 h4 h5 ⊢
    subst h1 h2 h3
    congr 1
    apply Array.ext_getElem?
    intro i
    rw [Array.getElem?_append]
    split
    · rename_i hi; exact h5 i hi
    · rename_i hi
      rw [Array.getElem?_extract]
      split
      · congr 1; omega
      · rw [Array.getElem?_eq_none]; omega

section
variable {w : World} {os : Array Obj} {n : Nat}

@[go_sem] theorem plus_size : (plus w os n).heap.size = w.heap.size + os.size := by simp [plus]

theorem plus_heap {b : Nat} (h : b < w.heap.size) : (plus w os n).heap[b]? = w.heap[b]? := by
  simp only [plus, Array.getElem?_append]
  rw [if_pos h]

@[go_sem] theorem plus_cell {b o : Nat} (h : b < w.heap.size) : (plus w os n).cell? ⟨b, o, none⟩ = w.cell? ⟨b, o, none⟩ := World.cell?_of_block (w := w) (plus_heap h)

@[go_sem] theorem plus_frozen {b o : Nat} (h : b < w.heap.size) : (plus w os n).frozen? ⟨b, o, none⟩ = w.frozen? ⟨b, o, none⟩ := World.frozen?_of_block (w := w) (plus_heap h)

@[go_sem] theorem plus_setCell {b o : Nat} {v : Value} (h : b < w.heap.size) : (plus w os n).setCell ⟨b, o, none⟩ v = plus (w.setCell ⟨b, o, none⟩ v) os n := by
  simp only [World.setCell, plus]
  congr 1
  apply Array.ext_getElem?
  intro i
  simp only [Array.getElem?_modify, Array.getElem?_append, Array.size_modify]
  by_cases hi : i < w.heap.size
  · simp [hi]
  · rw [if_neg (by omega)]; simp [hi]

@[go_sem] theorem plus_drew : (plus w os n).drew = plus w os (n + 1) := rfl

@[go_sem] theorem drew_plus : plus w.drew os n = plus w os n := rfl

theorem plus_alloc (o : Obj) : (plus w os n).alloc o = plus w (os.push o) n := by
  simp [plus, World.alloc]

theorem plus_plus {os' : Array Obj} {n' : Nat} : plus (plus w os n) os' n' = plus w (os ++ os') n' := by
  simp [plus, Array.append_assoc]

theorem plus_nil : plus w #[] w.drawn = w := by simp [plus]

theorem plus_below {B : Nat} {a : World} (h : Below B a w) (hB : B ≤ w.heap.size) : Below B a (plus w os n) :=
  h.trans ⟨rfl, rfl, rfl, by rw [plus_size]; omega, fun k hk => plus_heap (by omega)⟩

theorem Blk.plus {g : Nat} {t : TypeId} {cs : Array Value} (h : Blk w g t cs) : Blk (plus w os n) g t cs := (plus_heap h.lt).trans h
end

theorem le_plus {m : Nat} {w : World} {os : Array Obj} {n : Nat} (h : m ≤ w.heap.size) : m ≤ (plus w os n).heap.size := by rw [plus_size]; omega

theorem le_alloc {m : Nat} {w : World} (h : m ≤ w.heap.size) (o : Obj) : m ≤ (w.alloc o).heap.size := by rw [World.size_alloc]; omega

theorem le_setCell {m : Nat} {w : World} (h : m ≤ w.heap.size) (a : Addr) (v : Value) : m ≤ (w.setCell a v).heap.size := by simp [World.setCell]; omega

/-- A block of nine cells: each of them. -/
theorem Blk.nine {w : World} {g : Nat} {t : TypeId} {a0 a1 a2 a3 a4 a5 a6 a7 a8 : Value} (h : Blk w g t #[a0, a1, a2, a3, a4, a5, a6, a7, a8]) :
    w.cell? ⟨g, 0, none⟩ = some a0 ∧ w.cell? ⟨g, 1, none⟩ = some a1 ∧ w.cell? ⟨g, 2, none⟩ = some a2 ∧ w.cell? ⟨g, 3, none⟩ = some a3 ∧ w.cell? ⟨g, 4, none⟩ = some a4 ∧
    w.cell? ⟨g, 5, none⟩ = some a5 ∧ w.cell? ⟨g, 6, none⟩ = some a6 ∧ w.cell? ⟨g, 7, none⟩ = some a7 ∧ w.cell? ⟨g, 8, none⟩ = some a8 ∧ (∀ i, w.frozen? ⟨g, i, none⟩ = false) ∧ g < w.heap.size :=
  ⟨h.cell 0, h.cell 1, h.cell 2, h.cell 3, h.cell 4, h.cell 5, h.cell 6, h.cell 7, h.cell 8, h.frozen, h.lt⟩

/-- The builtins max and min as Lean's. -/
theorem run_max_i {P : Program} {w : World} (ts : Array TypeId) (t : TypeId) (x y : Int) : (Builtin.max_ ts t #[.int .i64 x, .int .i64 y]).run P w = .ok (.int .i64 (max x y)) w := by
  rw [run_max_int2]; congr 2; rw [Int.max_def]; by_cases h : y > x
  · rw [if_pos h, if_pos (by omega)]
  · rw [if_neg h]; split
    · omega
    · rfl

theorem run_min_i {P : Program} {w : World} (ts : Array TypeId) (t : TypeId) (x y : Int) : (Builtin.min_ ts t #[.int .i64 x, .int .i64 y]).run P w = .ok (.int .i64 (min x y)) w := by
  rw [run_min_int2]; congr 2; rw [Int.min_def]; by_cases h : y < x
  · rw [if_pos h, if_neg (by omega)]
  · rw [if_neg h]; split
    · rfl
    · omega

theorem mul_bd {a b m n : Int} (h1 : 0 ≤ a) (h2 : a ≤ m) (h3 : 0 ≤ b) (h4 : b ≤ n) : 0 ≤ a * b ∧ a * b ≤ m * n :=
  ⟨Int.mul_nonneg h1 h3, Int.mul_le_mul h2 h4 h3 (by omega)⟩

theorem ret_int {k : IntKind} {a b : Int} (h : a = b) : Ending.returned (.int k a) = .returned (.int k b) := by rw [h]

theorem ret_bool {a b : Bool} (h : a = b) : Ending.returned (.bool a) = .returned (.bool b) := by rw [h]

end Go.Proofs.YtioppoaijehicaaGreatDoor
/-
  WORDS FOR MEMORY, MORE: sums that the walk compares.
-/
namespace Go.Proofs.YtioppoaijehicaaGreatDoor
open Go.RowKit

@[go_sem] theorem lt_more1 {a b c0 : Nat} (h : a < b) : a < b + c0 := by omega

@[go_sem] theorem lt_more2 {a b c0 c1 : Nat} (h : a < b) : a < b + c0 + c1 := by omega

@[go_sem] theorem lt_more3 {a b c0 c1 c2 : Nat} (h : a < b) : a < b + c0 + c1 + c2 := by omega

@[go_sem] theorem lt_more4 {a b c0 c1 c2 c3 : Nat} (h : a < b) : a < b + c0 + c1 + c2 + c3 := by omega

@[go_sem] theorem lt_more5 {a b c0 c1 c2 c3 c4 : Nat} (h : a < b) : a < b + c0 + c1 + c2 + c3 + c4 := by omega

@[go_sem] theorem lt_more6 {a b c0 c1 c2 c3 c4 c5 : Nat} (h : a < b) : a < b + c0 + c1 + c2 + c3 + c4 + c5 := by omega

@[go_sem] theorem lt_more7 {a b c0 c1 c2 c3 c4 c5 c6 : Nat} (h : a < b) : a < b + c0 + c1 + c2 + c3 + c4 + c5 + c6 := by omega

@[go_sem] theorem lt_more8 {a b c0 c1 c2 c3 c4 c5 c6 c7 : Nat} (h : a < b) : a < b + c0 + c1 + c2 + c3 + c4 + c5 + c6 + c7 := by omega

@[go_sem] theorem lt_more9 {a b c0 c1 c2 c3 c4 c5 c6 c7 c8 : Nat} (h : a < b) : a < b + c0 + c1 + c2 + c3 + c4 + c5 + c6 + c7 + c8 := by omega

@[go_sem] theorem lt_more10 {a b c0 c1 c2 c3 c4 c5 c6 c7 c8 c9 : Nat} (h : a < b) : a < b + c0 + c1 + c2 + c3 + c4 + c5 + c6 + c7 + c8 + c9 := by omega

@[go_sem] theorem lt_more11 {a b c0 c1 c2 c3 c4 c5 c6 c7 c8 c9 c10 : Nat} (h : a < b) : a < b + c0 + c1 + c2 + c3 + c4 + c5 + c6 + c7 + c8 + c9 + c10 := by omega

@[go_sem] theorem lt_more12 {a b c0 c1 c2 c3 c4 c5 c6 c7 c8 c9 c10 c11 : Nat} (h : a < b) : a < b + c0 + c1 + c2 + c3 + c4 + c5 + c6 + c7 + c8 + c9 + c10 + c11 := by omega

/-! What is new lies above what was. -/
theorem bl_alloc {a w : World} (h : Below a.heap.size a w) (o : Obj) : Below a.heap.size a (w.alloc o) := h.alloc h.size o

theorem bl_plus {a w : World} {os : Array Obj} {n : Nat} (h : Below a.heap.size a w) : Below a.heap.size a (plus w os n) := plus_below h h.size

theorem bl_drew {a w : World} (h : Below a.heap.size a w) : Below a.heap.size a w.drew := h.drew

theorem bl_drewN {a w : World} (h : Below a.heap.size a w) (n : Nat) : Below a.heap.size a (w.drewN n) := ⟨h.os, h.tape, h.output, h.size, h.block⟩

theorem bl_trans {a w w' : World} (h : Below a.heap.size a w) (k : Below w.heap.size w w') : Below a.heap.size a w' := h.trans (k.mono h.size)

end Go.Proofs.YtioppoaijehicaaGreatDoor
