/-
  WORDS FOR MEMORY: a block of numbers that is filled; rows of numbers, each in a block of its own, in a slice that the call owns.
-/
import Derived.Test.YtfpcfpjnafnjiaaOwnK
set_option linter.all false
namespace Go.Proofs.Ytfpcfpjnafnjiaa
open Go.RowKit

/-- The cells of a row of numbers. -/
def ints (l : List Int) : Array Value := (l.map (Value.int .i64)).toArray
theorem ints_size (l : List Int) : (ints l).size = l.length := by simp [ints]
theorem ints_get {l : List Int} {i : Nat} (h : i < l.length) : (ints l)[i]? = some (.int .i64 l[i]) := by simp [ints, h]
theorem ints_set (l : List Int) (i : Nat) (y : Int) : (ints l).setIfInBounds i (.int .i64 y) = ints (l.set i y) := by simp [ints, List.map_set]
theorem ints_zero (n : Nat) : madeCells (Value.int .i64 0).cells (n * 1) = ints (List.replicate n 0) := by
  unfold ints
  rw [List.map_replicate, Nat.mul_one]
  apply Array.ext_getElem?
  intro i
  by_cases h : i < n
  · simp [madeCells, Value.cells, h, Nat.mod_one]
  · simp [madeCells, h]
theorem intsAt_new {w : World} {t : TypeId} {l : List Int} {g : Nat} (hB : Blk w g t (ints l)) : IntsAt w (some ⟨g, 0, none⟩) l := fun _ => by
  refine ⟨g, 0, rfl, hB.lt, fun j hj => ?_⟩
  rw [Nat.zero_add, hB.cell, ints_get hj]
theorem make_ints (N : Nat) (w : World) (h : N ≤ 1000000) : (Instr.makeSlice 70 (.int .i64 N) (.int .i64 N)).run Try.prog w = .ok (.slice (some ⟨w.heap.size, 0, none⟩) N N) (w.alloc (.cells (ints (List.replicate N 0)) 3)) := by
  obtain ⟨i0, hi, hz0, hz1, hz2⟩ := info_parts info_int
  have := run_make (P := Try.prog) w 70 3 i0 (.int .i64 0) Try.underlying70 hi hz0 .i64 .i64 N N (by omega) (Int.le_refl _) (by rw [hz2]; omega) (by omega)
  rw [this, hz1, ← ints_zero]
  rfl

theorem make_big (N : Nat) (w : World) (h : N ≤ 17000000000000) : (Instr.makeSlice 70 (.int .i64 N) (.int .i64 N)).run Try.prog w = .ok (.slice (some ⟨w.heap.size, 0, none⟩) N N) (w.alloc (.cells (ints (List.replicate N 0)) 3)) := by
  obtain ⟨i0, hi, hz0, hz1, hz2⟩ := info_parts info_int
  have := run_make (P := Try.prog) w 70 3 i0 (.int .i64 0) Try.underlying70 hi hz0 .i64 .i64 N N (by omega) (Int.le_refl _) (by rw [hz2]; omega) (by omega)
  rw [this, hz1, ← ints_zero]
  rfl

/-- A row of K cells in a block of the call stays where the heap only grows. -/
theorem OwnK.alloc {K : Nat} {e : TypeId} {w : World} {base : Nat} {v : Value} {n : Nat} {xs : List Value} (h : OwnK K e w base v n xs) (o : Obj) : OwnK K e (w.alloc o) base v n xs :=
  h.kept fun k hk => Below.heap_alloc w o k (h.lt k hk).2
theorem OwnK.plus {K : Nat} {e : TypeId} {w : World} {base : Nat} {v : Value} {n : Nat} {xs : List Value} (h : OwnK K e w base v n xs) (os : Array Obj) (m : Nat) : OwnK K e (plus w os m) base v n xs :=
  h.kept fun k hk => plus_heap (h.lt k hk).2
theorem OwnK.form {K : Nat} {e : TypeId} {w : World} {base : Nat} {v : Value} {n : Nat} {xs : List Value} (h : OwnK K e w base v n xs) : ∃ A c, v = .slice A n c ∧ n ≤ c ∧ c ≤ maxLen := by
  obtain ⟨_, A, c, hv, h1, h2, _⟩ := h
  exact ⟨A, c, hv, h1, h2⟩
theorem OwnK.cell {e : TypeId} {w : World} {base n : Nat} {A : Option Addr} {c m : Nat} {xs : List Value} (h : OwnK 1 e w base (.slice A m c) n xs) : m = n ∧ xs.length = n ∧ (0 < n → ∃ g, A = some ⟨g, 0, none⟩ ∧ g < w.heap.size ∧ ∀ j (hj : j < xs.length), w.cell? ⟨g, j, none⟩ = some xs[j]) := by
  obtain ⟨hl, A', c', hv, h1, h2, h3⟩ := h
  injection hv with e1 e2 e3
  subst e1 e2 e3
  have hn : xs.length = m := by omega
  refine ⟨rfl, hn, fun hp => ?_⟩
  rcases h3 with ⟨_, h0, _⟩ | ⟨g, cur, hA, hg, hb, h4, h5⟩
  · omega
  · refine ⟨g, hA, (Array.getElem?_eq_some_iff.1 hb).1, fun j hj => ?_⟩
    rw [cell_of_row w g j cur _ (0, 0) hb, ← List.getElem?_eq_getElem hj, ← h5, List.getElem?_take_of_lt (by omega)]
    simp

def rowV (n : Nat) (g : Nat) : Value := .slice (some ⟨g, 0, none⟩) n n
/-- Rows of N numbers, each in a block of its own, in a slice that the call owns. -/
def RowsOwn (N : Nat) (w : World) (base : Nat) (v : Value) (rows : List (List Int)) : Prop :=
  ∃ gs : List Nat, OwnK 1 70 w base v rows.length (gs.map (rowV N)) ∧ gs.length = rows.length ∧ ∀ j (h : j < gs.length) (h' : j < rows.length), base ≤ gs[j] ∧ v.ownBlock ≠ some gs[j] ∧ Blk w gs[j] 3 (ints rows[j])
theorem RowsOwn.empty {N : Nat} {w : World} {base : Nat} : RowsOwn N w base (.slice none 0 0) [] := ⟨[], OwnK.empty, rfl, fun _ h => absurd h (by simp)⟩
theorem RowsOwn.alloc {N : Nat} {w : World} {base : Nat} {v : Value} {rows : List (List Int)} (h : RowsOwn N w base v rows) (o : Obj) : RowsOwn N (w.alloc o) base v rows := by
  obtain ⟨gs, h1, h2, h3⟩ := h
  exact ⟨gs, h1.alloc o, h2, fun j h h' => ⟨(h3 j h h').1, (h3 j h h').2.1, (h3 j h h').2.2.alloc o⟩⟩
theorem RowsOwn.plus {N : Nat} {w : World} {base : Nat} {v : Value} {rows : List (List Int)} (h : RowsOwn N w base v rows) (os : Array Obj) (m : Nat) : RowsOwn N (plus w os m) base v rows := by
  obtain ⟨gs, h1, h2, h3⟩ := h
  exact ⟨gs, h1.plus os m, h2, fun j h h' => ⟨(h3 j h h').1, (h3 j h h').2.1, (h3 j h h').2.2.plus⟩⟩
theorem RowsOwn.form {N : Nat} {w : World} {base : Nat} {v : Value} {rows : List (List Int)} (h : RowsOwn N w base v rows) : ∃ A c, v = .slice A rows.length c ∧ rows.length ≤ c ∧ c ≤ maxLen := by
  obtain ⟨gs, h1, _⟩ := h
  exact h1.form
/-- One row more, behind the append. -/
theorem RowsOwn.push {N : Nat} {w w' : World} {base g : Nat} {v v' : Value} {rows : List (List Int)} {r : List Int} (gs : List Nat) (hl : gs.length = rows.length) (hr : ∀ j (h : j < gs.length) (h' : j < rows.length), base ≤ gs[j] ∧ v.ownBlock ≠ some gs[j] ∧ Blk w gs[j] 3 (ints rows[j]))
    (hg : base ≤ g) (hgv : v.ownBlock ≠ some g) (hB : Blk w g 3 (ints r)) (hown : OwnK 1 70 w' base v' (rows.length + 1) (gs.map (rowV N) ++ [rowV N g])) (hgr : w.grownBy w' v.ownBlock) (hv : v'.ownBlock = v.ownBlock ∨ ∃ q, v'.ownBlock = some q ∧ w.heap.size ≤ q) :
    RowsOwn N w' base v' (rows ++ [r]) := by
  have hne : ∀ q, v.ownBlock ≠ some q → q < w.heap.size → v'.ownBlock ≠ some q := by
    intro q hq hlt h
    rcases hv with hv | ⟨q', hv, hge⟩
    · exact hq (hv ▸ h)
    · rw [hv] at h; injection h with h; omega
  refine ⟨gs ++ [g], by simpa using hown, by simp [hl], fun j h h' => ?_⟩
  by_cases hj : j < gs.length
  · rw [List.getElem_append_left hj, List.getElem_append_left (by omega)]
    obtain ⟨a1, a2, a3⟩ := hr j hj (by omega)
    exact ⟨a1, hne _ a2 a3.lt, a3.grown hgr (fun e => a2 e.symm)⟩
  · have hjl : j = gs.length := by simp at h; omega
    subst hjl
    rw [List.getElem_append_right (Nat.le_refl _), List.getElem_append_right (by omega)]
    simp only [Nat.sub_self, List.getElem_cons_zero, hl]
    exact ⟨hg, hne _ hgv hB.lt, hB.grown hgr (fun e => hgv e.symm)⟩

/-- A slice of slices of numbers reads as rows. -/
def RowsAt (w : World) (A : Option Addr) (rows : List (List Int)) : Prop :=
  0 < rows.length → ∃ b off, A = some ⟨b, off, none⟩ ∧ b < w.heap.size ∧ ∀ j (h : j < rows.length), ∃ A' c', w.cell? ⟨b, off + j, none⟩ = some (.slice A' rows[j].length c') ∧ IntsAt w A' rows[j]
theorem RowsAt.below {w w' : World} {A : Option Addr} {rows : List (List Int)} (h : RowsAt w A rows) (hb : Below w.heap.size w w') : RowsAt w' A rows := fun hl => by
  obtain ⟨b, off, hA, hlt, hc⟩ := h hl
  refine ⟨b, off, hA, Nat.lt_of_lt_of_le hlt hb.size, fun j hj => ?_⟩
  obtain ⟨A', c', h1, h2⟩ := hc j hj
  exact ⟨A', c', (hb.cell (p := ⟨b, off + j, none⟩) hlt).trans h1, h2.below hb⟩
theorem RowsAt.nil {w : World} {A : Option Addr} : RowsAt w A [] := fun h => absurd h (by simp)
theorem RowsOwn.at_ {N : Nat} {w : World} {base m c : Nat} {A : Option Addr} {rows : List (List Int)} (h : RowsOwn N w base (.slice A m c) rows) (hN : ∀ r ∈ rows, r.length = N) : RowsAt w A rows := fun hl => by
  obtain ⟨gs, h1, h2, h3⟩ := h
  obtain ⟨_, _, h4⟩ := h1.cell
  obtain ⟨g, hA, hlt, hc⟩ := h4 hl
  refine ⟨g, 0, hA, hlt, fun j hj => ⟨some ⟨gs[j], 0, none⟩, N, ?_, intsAt_new (h3 j (by omega) hj).2.2⟩⟩
  rw [Nat.zero_add, hc j (by simp; omega), List.getElem_map, hN _ (List.getElem_mem hj)]
  rfl

theorem info_slint : (Try.prog.info? 70).map (fun i => (i.zero, i.size, i.bytes)) = some (some (.slice none 0 0), 1, 24) := by kernel_rfl

end Go.Proofs.Ytfpcfpjnafnjiaa
