/-
  WORDS FOR MEMORY: a block that is known whole (after the guide's own words), hiding, the builtins max and min, no program in sight.
-/
import Derived.WalkKit
import Derived.Below
import Derived.Laws.OwnMore
import Derived.Deep.Draws
import Derived.Laws.Rows
import Derived.Test.YtioppoaijehicaaGreatDoorRows
import Derived.WalkSpells
import Derived.WalkLawsBesides
import Derived.Handy
import Derived.Deep.QuietTactic
import Derived.BigQuiet
set_option linter.all false
namespace Go.Proofs.YtioppoaijehicaaGreatDoor
open Go.RowKit

theorem hide {p : Prop} (h : p) : Hid p := h

/-- What lay before a call lies there still. -/
theorem bcell {W w1 : World} (hb : Below W.heap.size W w1) : (∀ b o, b < W.heap.size → w1.cell? ⟨b, o, none⟩ = W.cell? ⟨b, o, none⟩) ∧ (∀ b o, b < W.heap.size → w1.frozen? ⟨b, o, none⟩ = W.frozen? ⟨b, o, none⟩) :=
  ⟨fun b o h => hb.cell (p := ⟨b, o, none⟩) h, fun b o h => hb.frozen (p := ⟨b, o, none⟩) h⟩

def Blk (w : World) (g : Nat) (t : TypeId) (cs : Array Value) : Prop := w.heap[g]? = some (.cells cs t (0, 0))

section
variable {w w' : World} {g : Nat} {t : TypeId} {cs : Array Value}

theorem Blk.lt (h : Blk w g t cs) : g < w.heap.size := by
  rcases Nat.lt_or_ge g w.heap.size with hlt | hge
  · exact hlt
  · unfold Blk at h; rw [Array.getElem?_eq_none hge] at h; cases h

theorem Blk.cell (h : Blk w g t cs) (i : Nat) : w.cell? ⟨g, i, none⟩ = cs[i]? := cell_of_row w g i cs t (0, 0) h

theorem Blk.frozen (h : Blk w g t cs) (i : Nat) : w.frozen? ⟨g, i, none⟩ = false := by
  unfold Blk at h
  simp [World.frozen?, h]

theorem Blk.new (w : World) (t : TypeId) (cs : Array Value) : Blk (w.alloc (.cells cs t)) w.heap.size t cs := heap_alloc_new w _

theorem Blk.drew (h : Blk w g t cs) : Blk w.drew g t cs := h

theorem Blk.drewN (h : Blk w g t cs) (n : Nat) : Blk (w.drewN n) g t cs := h

theorem Blk.alloc (h : Blk w g t cs) (o : Obj) : Blk (w.alloc o) g t cs := (Below.heap_alloc w o g h.lt).trans h

theorem Blk.set_ (h : Blk w g t cs) (i : Nat) (u : Value) : Blk (w.setCell ⟨g, i, none⟩ u) g t (cs.setIfInBounds i u) := by
  unfold Blk at h ⊢
  simp [World.setCell, Array.getElem?_modify, h]

theorem Blk.far (h : Blk w g t cs) {p : Addr} (hp : g ≠ p.block) (u : Value) : Blk (w.setCell p u) g t cs := (Below.heap_setCell w p u g hp).trans h

theorem Blk.below {B : Nat} (h : Blk w g t cs) (hb : Below B w w') (hg : g < B) : Blk w' g t cs := (hb.block g hg).trans h

theorem Blk.grown {row : Option Nat} (h : Blk w g t cs) (hb : w.grownBy w' row) (hg : some g ≠ row) : Blk w' g t cs := (hb.block g h.lt hg).trans h

theorem Blk.ne_ {g' : Nat} {t' : TypeId} {cs' : Array Value} (h : Blk w g t cs) (h' : Blk w g' t' cs') (hne : t ≠ t') : g ≠ g' := by
  rintro rfl
  unfold Blk at h h'
  rw [h] at h'
  injection h' with h'
  injection h' with _ ht
  exact hne ht
end

/-! ### A world that is another one, with new blocks behind it -/

/-- The world w with the blocks os behind its own. -/
def plus (w : World) (os : Array Obj) (n : Nat) : World := { w with heap := w.heap ++ os, drawn := n }

theorem below_plus {W w' : World} (hb : Below W.heap.size W w') : ∃ os n, w' = plus W os n := by
  obtain ⟨h1, h2, h3, h4, h5⟩ := hb
  refine ⟨w'.heap.extract W.heap.size w'.heap.size, w'.drawn, ?_⟩
  cases w' with
  | mk heap tape drawn os output =>
    unfold plus
    simp only at h1 h2 h3 h4 h5 ⊢
    subst h1 h2 h3
    congr 1
    apply Array.ext_getElem?
    intro i
    rw [Array.getElem?_append]
    split
    · rename_i hi; exact h5 i hi
    · rename_i hi
      rw [Array.getElem?_extract]
      split
      · congr 1; omega
      · rw [Array.getElem?_eq_none]; omega

section
variable {w : World} {os : Array Obj} {n : Nat}

@[go_sem] theorem plus_size : (plus w os n).heap.size = w.heap.size + os.size := by simp [plus]

theorem plus_heap {b : Nat} (h : b < w.heap.size) : (plus w os n).heap[b]? = w.heap[b]? := by
  simp only [plus, Array.getElem?_append]
  rw [if_pos h]

@[go_sem] theorem plus_cell {b o : Nat} (h : b < w.heap.size) : (plus w os n).cell? ⟨b, o, none⟩ = w.cell? ⟨b, o, none⟩ := World.cell?_of_block (w := w) (plus_heap h)

@[go_sem] theorem plus_frozen {b o : Nat} (h : b < w.heap.size) : (plus w os n).frozen? ⟨b, o, none⟩ = w.frozen? ⟨b, o, none⟩ := World.frozen?_of_block (w := w) (plus_heap h)

@[go_sem] theorem plus_setCell {b o : Nat} {v : Value} (h : b < w.heap.size) : (plus w os n).setCell ⟨b, o, none⟩ v = plus (w.setCell ⟨b, o, none⟩ v) os n := by
  simp only [World.setCell, plus]
  congr 1
  apply Array.ext_getElem?
  intro i
  simp only [Array.getElem?_modify, Array.getElem?_append, Array.size_modify]
  by_cases hi : i < w.heap.size
  · simp [hi]
  · rw [if_neg (by omega)]; simp [hi]

@[go_sem] theorem plus_drew : (plus w os n).drew = plus w os (n + 1) := rfl

@[go_sem] theorem drew_plus : plus w.drew os n = plus w os n := rfl

theorem plus_alloc (o : Obj) : (plus w os n).alloc o = plus w (os.push o) n := by
  simp [plus, World.alloc]

theorem plus_plus {os' : Array Obj} {n' : Nat} : plus (plus w os n) os' n' = plus w (os ++ os') n' := by
  simp [plus, Array.append_assoc]

theorem plus_nil : plus w #[] w.drawn = w := by simp [plus]

theorem plus_below {B : Nat} {a : World} (h : Below B a w) (hB : B ≤ w.heap.size) : Below B a (plus w os n) :=
  h.trans ⟨rfl, rfl, rfl, by rw [plus_size]; omega, fun k hk => plus_heap (by omega)⟩

theorem Blk.plus {g : Nat} {t : TypeId} {cs : Array Value} (h : Blk w g t cs) : Blk (plus w os n) g t cs := (plus_heap h.lt).trans h
end

theorem le_plus {m : Nat} {w : World} {os : Array Obj} {n : Nat} (h : m ≤ w.heap.size) : m ≤ (plus w os n).heap.size := by rw [plus_size]; omega

theorem le_alloc {m : Nat} {w : World} (h : m ≤ w.heap.size) (o : Obj) : m ≤ (w.alloc o).heap.size := by rw [World.size_alloc]; omega

theorem le_setCell {m : Nat} {w : World} (h : m ≤ w.heap.size) (a : Addr) (v : Value) : m ≤ (w.setCell a v).heap.size := by simp [World.setCell]; omega

/-- A block of nine cells: each of them. -/
theorem Blk.nine {w : World} {g : Nat} {t : TypeId} {a0 a1 a2 a3 a4 a5 a6 a7 a8 : Value} (h : Blk w g t #[a0, a1, a2, a3, a4, a5, a6, a7, a8]) :
    w.cell? ⟨g, 0, none⟩ = some a0 ∧ w.cell? ⟨g, 1, none⟩ = some a1 ∧ w.cell? ⟨g, 2, none⟩ = some a2 ∧ w.cell? ⟨g, 3, none⟩ = some a3 ∧ w.cell? ⟨g, 4, none⟩ = some a4 ∧
    w.cell? ⟨g, 5, none⟩ = some a5 ∧ w.cell? ⟨g, 6, none⟩ = some a6 ∧ w.cell? ⟨g, 7, none⟩ = some a7 ∧ w.cell? ⟨g, 8, none⟩ = some a8 ∧ (∀ i, w.frozen? ⟨g, i, none⟩ = false) ∧ g < w.heap.size :=
  ⟨h.cell 0, h.cell 1, h.cell 2, h.cell 3, h.cell 4, h.cell 5, h.cell 6, h.cell 7, h.cell 8, h.frozen, h.lt⟩

/-- The builtins max and min as Lean's. -/
theorem run_max_i {P : Program} {w : World} (ts : Array TypeId) (t : TypeId) (x y : Int) : (Builtin.max_ ts t #[.int .i64 x, .int .i64 y]).run P w = .ok (.int .i64 (max x y)) w := by
  rw [run_max_int2]; congr 2; rw [Int.max_def]; by_cases h : y > x
  · rw [if_pos h, if_pos (by omega)]
  · rw [if_neg h]; split
    · omega
    · rfl

theorem run_min_i {P : Program} {w : World} (ts : Array TypeId) (t : TypeId) (x y : Int) : (Builtin.min_ ts t #[.int .i64 x, .int .i64 y]).run P w = .ok (.int .i64 (min x y)) w := by
  rw [run_min_int2]; congr 2; rw [Int.min_def]; by_cases h : y < x
  · rw [if_pos h, if_neg (by omega)]
  · rw [if_neg h]; split
    · rfl
    · omega

theorem mul_bd {a b m n : Int} (h1 : 0 ≤ a) (h2 : a ≤ m) (h3 : 0 ≤ b) (h4 : b ≤ n) : 0 ≤ a * b ∧ a * b ≤ m * n :=
  ⟨Int.mul_nonneg h1 h3, Int.mul_le_mul h2 h4 h3 (by omega)⟩

theorem ret_int {k : IntKind} {a b : Int} (h : a = b) : Ending.returned (.int k a) = .returned (.int k b) := by rw [h]

theorem ret_bool {a b : Bool} (h : a = b) : Ending.returned (.bool a) = .returned (.bool b) := by rw [h]

end Go.Proofs.YtioppoaijehicaaGreatDoor
/-
  WORDS FOR MEMORY, MORE: sums that the walk compares.
-/
namespace Go.Proofs.YtioppoaijehicaaGreatDoor
open Go.RowKit

@[go_sem] theorem lt_more1 {a b c0 : Nat} (h : a < b) : a < b + c0 := by omega

@[go_sem] theorem lt_more2 {a b c0 c1 : Nat} (h : a < b) : a < b + c0 + c1 := by omega

@[go_sem] theorem lt_more3 {a b c0 c1 c2 : Nat} (h : a < b) : a < b + c0 + c1 + c2 := by omega

@[go_sem] theorem lt_more4 {a b c0 c1 c2 c3 : Nat} (h : a < b) : a < b + c0 + c1 + c2 + c3 := by omega

@[go_sem] theorem lt_more5 {a b c0 c1 c2 c3 c4 : Nat} (h : a < b) : a < b + c0 + c1 + c2 + c3 + c4 := by omega

@[go_sem] theorem lt_more6 {a b c0 c1 c2 c3 c4 c5 : Nat} (h : a < b) : a < b + c0 + c1 + c2 + c3 + c4 + c5 := by omega

@[go_sem] theorem lt_more7 {a b c0 c1 c2 c3 c4 c5 c6 : Nat} (h : a < b) : a < b + c0 + c1 + c2 + c3 + c4 + c5 + c6 := by omega

@[go_sem] theorem lt_more8 {a b c0 c1 c2 c3 c4 c5 c6 c7 : Nat} (h : a < b) : a < b + c0 + c1 + c2 + c3 + c4 + c5 + c6 + c7 := by omega

@[go_sem] theorem lt_more9 {a b c0 c1 c2 c3 c4 c5 c6 c7 c8 : Nat} (h : a < b) : a < b + c0 + c1 + c2 + c3 + c4 + c5 + c6 + c7 + c8 := by omega

@[go_sem] theorem lt_more10 {a b c0 c1 c2 c3 c4 c5 c6 c7 c8 c9 : Nat} (h : a < b) : a < b + c0 + c1 + c2 + c3 + c4 + c5 + c6 + c7 + c8 + c9 := by omega

@[go_sem] theorem lt_more11 {a b c0 c1 c2 c3 c4 c5 c6 c7 c8 c9 c10 : Nat} (h : a < b) : a < b + c0 + c1 + c2 + c3 + c4 + c5 + c6 + c7 + c8 + c9 + c10 := by omega

@[go_sem] theorem lt_more12 {a b c0 c1 c2 c3 c4 c5 c6 c7 c8 c9 c10 c11 : Nat} (h : a < b) : a < b + c0 + c1 + c2 + c3 + c4 + c5 + c6 + c7 + c8 + c9 + c10 + c11 := by omega

/-! What is new lies above what was. -/
theorem bl_alloc {a w : World} (h : Below a.heap.size a w) (o : Obj) : Below a.heap.size a (w.alloc o) := h.alloc h.size o

theorem bl_plus {a w : World} {os : Array Obj} {n : Nat} (h : Below a.heap.size a w) : Below a.heap.size a (plus w os n) := plus_below h h.size

theorem bl_drew {a w : World} (h : Below a.heap.size a w) : Below a.heap.size a w.drew := h.drew

theorem bl_drewN {a w : World} (h : Below a.heap.size a w) (n : Nat) : Below a.heap.size a (w.drewN n) := ⟨h.os, h.tape, h.output, h.size, h.block⟩

theorem bl_trans {a w w' : World} (h : Below a.heap.size a w) (k : Below w.heap.size w w') : Below a.heap.size a w' := h.trans (k.mono h.size)

end Go.Proofs.YtioppoaijehicaaGreatDoor
/-
  WORDS FOR MEMORY: a slice of ints that reads as a list; what the call owns, in a world with new blocks behind it; slices.Equal of two slices that read alike.
-/
namespace Go.Proofs.YtioppoaijehicaaGreatDoor
open Go.RowKit

/-- The slice at A reads as the numbers ns. -/
def IntsAt (w : World) (A : Option Addr) (ns : List Int) : Prop :=
  0 < ns.length → ∃ b off, A = some ⟨b, off, none⟩ ∧ b < w.heap.size ∧ ∀ j (h : j < ns.length), w.cell? ⟨b, off + j, none⟩ = some (.int .i64 ns[j])

theorem IntsAt.below {w w' : World} {A : Option Addr} {ns : List Int} (h : IntsAt w A ns) (hb : Below w.heap.size w w') : IntsAt w' A ns := fun hl => by
  obtain ⟨b, off, hA, hlt, hc⟩ := h hl
  exact ⟨b, off, hA, Nat.lt_of_lt_of_le hlt hb.size, fun j hj => (hb.cell (p := ⟨b, off + j, none⟩) hlt).trans (hc j hj)⟩

theorem IntsAt.nil {w : World} {A : Option Addr} : IntsAt w A [] := fun h => absurd h (by simp)

theorem IntsAt.plus {w : World} {A : Option Addr} {ns : List Int} (h : IntsAt w A ns) (os : Array Obj) (n : Nat) : IntsAt (plus w os n) A ns := h.below (bl_plus (Below.refl _ _))

theorem IntsAt.alloc {w : World} {A : Option Addr} {ns : List Int} (h : IntsAt w A ns) (o : Obj) : IntsAt (w.alloc o) A ns := h.below (bl_alloc (Below.refl _ _) o)

/-- What the call owns reads as numbers. -/
theorem intsAt_of_own {w : World} {base : Nat} {e : TypeId} {A : Option Addr} {n c : Nat} {ns : List Int} (h : w.ownsRow base e 1 (.slice A n c) n (ns.map (Value.int .i64))) : IntsAt w A ns := fun hl => by
  have hlen : ns.length = n := by have := h.1; simpa using this
  rcases h.2 with ⟨_, hn⟩ | ⟨g, cap, cur, hv, _, hh, hnc, _, hsz, htake⟩
  · omega
  · injection hv with hA _ _
    refine ⟨g, 0, hA, ?_, fun j hj => ?_⟩
    · rcases Nat.lt_or_ge g w.heap.size with hlt | hge
      · exact hlt
      · rw [Array.getElem?_eq_none hge] at hh; cases hh
    · rw [Nat.zero_add, cell_of_row w g j cur e (0, 0) hh]
      have : (cur.toList.take (n * 1))[j]? = (ns.map (Value.int .i64))[j]? := by rw [htake]
      rw [List.getElem?_take_of_lt (by omega), List.getElem?_map, List.getElem?_eq_getElem hj] at this
      simpa using this

/-- What is owned has the form of a slice. -/
theorem own_form {w : World} {base : Nat} {e : TypeId} {size : Nat} {v : Value} {n : Nat} {xs : List Value} (h : w.ownsRow base e size v n xs) : ∃ A c, v = .slice A n c ∧ n ≤ c ∧ c ≤ maxLen ∧ (A = none → c = 0) := by
  rcases h.2 with ⟨rfl, rfl⟩ | ⟨g, cap, _, rfl, _, _, h1, h2, _⟩
  · exact ⟨none, 0, rfl, Nat.le_refl _, by simp [maxLen], fun _ => rfl⟩
  · exact ⟨_, cap, rfl, h1, h2, fun h => by cases h⟩

theorem own_plus {w : World} {base : Nat} {e : TypeId} {size : Nat} {v : Value} {n : Nat} {xs : List Value} {os : Array Obj} {k : Nat} (h : w.ownsRow base e size v n xs) : (plus w os k).ownsRow base e size v n xs := by
  refine h.kept (row := none) ⟨rfl, rfl, rfl, by rw [plus_size]; omega, fun b hb _ => plus_heap hb⟩ ?_
  cases hv : v.ownBlock with
  | none => exact .inl rfl
  | some g => exact .inr (fun h => by cases h)

/-- Behind an append to what the call owns above L: a world over L once more. -/
theorem grown_plus {L w w1 : World} {row : Option Nat} (hb : Below L.heap.size L w) (hg : w.grownBy w1 row) (hr : ∀ k, row = some k → L.heap.size ≤ k) : ∃ os n, w1 = plus L os n :=
  below_plus (hb.grown hg hb.size hr)

theorem own_block {w : World} {base : Nat} {e : TypeId} {size : Nat} {v : Value} {n : Nat} {xs : List Value} (h : w.ownsRow base e size v n xs) : ∀ k, v.ownBlock = some k → base ≤ k := by
  intro k hk
  rcases h.2 with ⟨rfl, _⟩ | ⟨g, _, _, rfl, hb, _⟩
  · cases hk
  · injection hk with hk; subst hk; exact hb

set_option maxHeartbeats 800000 in
set_option maxRecDepth 100000 in
theorem equalInts_same (A B : Option Addr) (c c' : Nat) (ns : List Int) (w : World) (hA : IntsAt w A ns) (hB : IntsAt w B ns) (hm : ns.length ≤ maxLen) :
    Calls Tryz.prog 12 #[.slice A ns.length c, .slice B ns.length c'] w fun e w' => e = .returned (.bool true) ∧ Below w.heap.size w w' := by
  unfold maxLen at hm
  have HA := hide hA
  have HB := hide hB
  clear hA hB
  go_enter Tryz.func12, Tryz.ntmps12
  go_wp2
  go_loopw [13] (fun i wr => ∃ (k n : Nat), k ≤ ns.length ∧ i = .int .i64 k ∧ wr = w.drewN n) (fun i _ => ns.length - (intOf i).toNat)
  case atStart => exact ⟨0, 0, Nat.zero_le _, rfl, rfl⟩
  case round =>
    obtain ⟨k, n, hk, rfl, rfl⟩ := hrel
    by_cases hlt : k < ns.length
    · obtain ⟨b, off, rfl, hb, hcell⟩ := HA.out (by omega)
      obtain ⟨b', off', rfl, hb', hcell'⟩ := HB.out (by omega)
      have c1 := hcell k hlt
      have c2 := hcell' k hlt
      generalize ns[k] = x at c1 c2
      clear hcell hcell'
      have i1 : (k : Int) < (ns.length : Int) := by omega
      go_wp2
      go_quiet (fail)
      go_wp2
      go_roundw
      case rel => exact ⟨k + 1, _, hlt, by go_num, rfl⟩
      case measure => simp [intOf]; omega
    · have hkl : k = ns.length := by omega
      go_wp2
      go_returns
      exact ⟨rfl, bl_drewN (Below.refl _ _) _⟩

end Go.Proofs.YtioppoaijehicaaGreatDoor
/-
  A LAW AT append: one int to a slice of ints that the call owns.
-/
namespace Go.Proofs.YtioppoaijehicaaGreatDoor
open Go.RowKit

theorem info_int : (Tryz.prog.info? 3).map (fun i => (i.zero, i.size, i.bytes)) = some (some (.int .i64 0), 1, 8) := by kernel_rfl

theorem wpList_append_int {ops : Array Oper} {rest : List Oper} {o : Oper} {a : Act} {W : World} {Q : Exit → Act → World → Prop} (hgd : o.guard = none) (s x : Operand)
    (ho : o.op = .call { callee := .builtin .append, args := #[s, x], argTypes := #[28, 28] }) (base n : Nat) (v : Value) (ns : List Int) (y : Int) (g : Nat) (hs : a.eval s = v)
    (hown : W.ownsRow base 3 1 v n (ns.map (Value.int .i64))) (hx : a.eval x = .slice (some ⟨g, 0, none⟩) 1 1) (hg : g = W.heap.size) (hn : n < 17000000000000) (hbase : base ≤ W.heap.size)
    (h : ∀ v' w', w'.ownsRow base 3 1 v' (n + 1) ((ns ++ [y]).map (Value.int .i64)) → Below base W w' → wpList Tryz.prog ops Q rest (a.put o.dst v') w') :
    wpList Tryz.prog ops Q (o :: rest) a (W.alloc (.cells #[.int .i64 y] 3)) := by
  subst hg
  obtain ⟨i0, hi, hz0, hz1, hz2⟩ := info_parts info_int
  refine wpList_append_own _ hgd s x 28 ho base 3 i0 (.int .i64 0) 1 8 Tryz.underlying28 hi hz0 hz1 hz2 rfl (by decide) v n _ hs (hown.alloc _) _ 1 1 [.int .i64 y] hx rfl ?_ ?_ ?_ ?_ ?_ ?_
  · intro j u hj
    match j, hj with
    | 0, hj => simp at hj; subst hj; simp [Addr.add]
    | _ + 1, hj => simp at hj
  · intro u hu; simp at hu; subst hu; rfl
  · unfold maxLen; omega
  · omega
  · rw [World.size_alloc]; omega
  · intro v' w' hown' hgrow _
    refine h v' w' (by simpa using hown') ?_
    exact (Below.alloc (Below.refl _ _) hbase _).grown hgrow (by rw [World.size_alloc]; omega) (own_block hown)

theorem over_plus {L W w1 : World} {B : Nat} (hB : B = L.heap.size) (h : Below L.heap.size L W) (h1 : Below B W w1) : ∃ os n, w1 = plus L os n := by
  subst hB; exact below_plus (h.trans h1)

theorem own_made {w : World} {e : TypeId} {cs : Array Value} {cap base : Nat} (hcs : cs.size = cap) (hm : cap ≤ maxLen) (hb : base ≤ w.heap.size) : (w.alloc (.cells cs e)).ownsRow base e 1 (.slice (some ⟨w.heap.size, 0, none⟩) 0 cap) 0 [] :=
  ⟨rfl, .inr ⟨w.heap.size, cap, cs, rfl, hb, heap_alloc_new w _, Nat.zero_le _, hm, by omega, by simp⟩⟩

theorem own_none {w : World} {e : TypeId} {base : Nat} : w.ownsRow base e 1 (.slice none 0 0) 0 [] := World.ownsRow_nil _ _ _ _

end Go.Proofs.YtioppoaijehicaaGreatDoor
/-
  WALKS: cmp.Compare and cmp.Or at int.
-/
namespace Go.Proofs.YtioppoaijehicaaGreatDoor
open Go.RowKit

def cmp3 (a b : Int) : Int := if a < b then -1 else if b < a then 1 else 0

def or2 (p q : Int) : Int := if p = 0 then q else p

set_option maxHeartbeats 400000 in
theorem isNaN_any (a : Int) (w : World) :
    Calls Tryz.prog 171 #[.int .i64 a] w fun e w' => e = .returned (.bool false) ∧ w = w' := by
  go_enter Tryz.func171, Tryz.ntmps171
  go_wp2
  go_ret
  exact ⟨by simp, rfl⟩

end Go.Proofs.YtioppoaijehicaaGreatDoor
