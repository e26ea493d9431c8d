/-
  QUERIES: a block that a call rewrites whole; the index of a byte; the reader's take and fail.
-/
import Derived.Test.YtfklaahakibljaaWordE
import Derived.Lib.Bytealg
namespace Go.Proofs.Ytfklaahakibljaa
open Go.RowKit

/-- The world with the block g written anew. -/
def putBlk (w : World) (g : Nat) (t : TypeId) (cs : Array Value) : World := { w with heap := w.heap.setIfInBounds g (.cells cs t (0, 0)) }
section
variable {w w' : World} {g : Nat} {t : TypeId} {cs : Array Value}
@[go_sem] theorem putBlk_size : (putBlk w g t cs).heap.size = w.heap.size := by simp [putBlk]
theorem putBlk_heap {k : Nat} (h : k ≠ g) : (putBlk w g t cs).heap[k]? = w.heap[k]? := by
  simp only [putBlk]; rw [Array.getElem?_setIfInBounds, if_neg (fun e => h e.symm)]
theorem putBlk_at (h : g < w.heap.size) : Blk (putBlk w g t cs) g t cs := by
  unfold Blk putBlk
  simp [h]
theorem putBlk_far {g' : Nat} {t' : TypeId} {cs' : Array Value} (h : Blk w g' t' cs') (hne : g' ≠ g) : Blk (putBlk w g t cs) g' t' cs' := (putBlk_heap hne).trans h
@[go_sem] theorem putBlk_cell {i : Nat} (h : g < w.heap.size) : (putBlk w g t cs).cell? ⟨g, i, none⟩ = cs[i]? := (putBlk_at h).cell i
@[go_sem] theorem putBlk_frozen {i : Nat} (h : g < w.heap.size) : (putBlk w g t cs).frozen? ⟨g, i, none⟩ = false := (putBlk_at h).frozen i
@[go_sem] theorem putBlk_setCell {i : Nat} {v : Value} (h : g < w.heap.size) : (putBlk w g t cs).setCell ⟨g, i, none⟩ v = putBlk w g t (cs.setIfInBounds i v) := by
  simp only [World.setCell, putBlk]
  congr 1
  apply Array.ext_getElem?
  intro k
  simp only [Array.getElem?_modify, Array.getElem?_setIfInBounds]
  by_cases hk : g = k
  · subst hk; simp [h]
  · simp [hk]
@[go_sem] theorem putBlk_put {cs' : Array Value} : putBlk (putBlk w g t cs) g t cs' = putBlk w g t cs' := by
  simp only [putBlk]
  congr 1
  apply Array.ext_getElem?
  intro k
  simp only [Array.getElem?_setIfInBounds, Array.size_setIfInBounds]
  by_cases hk : g = k
  · simp [hk]
  · simp [hk]
@[go_sem] theorem putBlk_plus {os : Array Obj} {n : Nat} (h : g < w.heap.size) : putBlk (plus w os n) g t cs = plus (putBlk w g t cs) os n := by
  simp only [putBlk, plus]
  congr 1
  apply Array.ext_getElem?
  intro k
  simp only [Array.getElem?_setIfInBounds, Array.getElem?_append, Array.size_append, Array.size_setIfInBounds]
  by_cases hk : g = k
  · subst hk; simp [h, Nat.lt_add_right _ h]
  · simp [hk]
@[go_sem] theorem putBlk_alloc {o : Obj} (h : g < w.heap.size) : putBlk (w.alloc o) g t cs = (putBlk w g t cs).alloc o := by
  simp only [putBlk, World.alloc]
  congr 1
  apply Array.ext_getElem?
  intro k
  simp only [Array.getElem?_setIfInBounds, Array.getElem?_push, Array.size_push, Array.size_setIfInBounds]
  by_cases hk : g = k
  · subst hk; rw [if_pos rfl, if_pos (by omega), if_neg (by omega), if_pos rfl, if_pos h]
  · simp [hk]
theorem putBlk_new {cs' : Array Value} (h : g = w.heap.size) : putBlk (w.alloc (.cells cs' t)) g t cs = w.alloc (.cells cs t) := by
  subst h
  simp only [putBlk, World.alloc]
  congr 1
  apply Array.ext_getElem?
  intro k
  simp only [Array.getElem?_setIfInBounds, Array.getElem?_push, Array.size_push]
  by_cases hk : w.heap.size = k
  · subst hk; simp
  · rw [if_neg hk, if_neg (fun e => hk e.symm), if_neg (fun e => hk e.symm)]
theorem set_put {i : Nat} {v : Value} (h : Blk w g t cs) : w.setCell ⟨g, i, none⟩ v = putBlk w g t (cs.setIfInBounds i v) := by
  have hl := h.lt
  unfold Blk at h
  simp only [World.setCell, putBlk]
  congr 1
  apply Array.ext_getElem?
  intro k
  simp only [Array.getElem?_modify, Array.getElem?_setIfInBounds]
  by_cases hk : g = k
  · subst hk; rw [if_pos rfl, if_pos rfl, if_pos hl, h]; rfl
  · simp [hk]
theorem put_same (h : Blk w g t cs) : putBlk w g t cs = w := by
  have hl := h.lt
  unfold Blk at h
  unfold putBlk
  cases w with
  | mk heap tape drawn os output =>
    simp only at h hl ⊢
    congr 1
    apply Array.ext_getElem?
    intro k
    rw [Array.getElem?_setIfInBounds]
    by_cases hk : g = k
    · subst hk; rw [if_pos rfl, if_pos hl, h]
    · rw [if_neg hk]
end

/-! ### The index of a byte -/

def ixB (s : ByteArray) (c : Int) : Int := Lib.indexByte s.data.toList c.toNat.toUInt8
theorem ixB_ge (s : ByteArray) (c : Int) : -1 ≤ ixB s c := Lib.indexByte_ge _ _
set_option maxHeartbeats 1000000 in
set_option maxRecDepth 100000 in
theorem indexByteL_any (s : ByteArray) (c : Int) (w : World) : Calls Try.prog 173 #[.string s, .int .u8 c] w fun e w' => e = .returned (.int .i64 (ixB s c)) ∧ w = w' := by
  go_enter Try.func173, Try.ntmps173
  go_wp2
  rw [run_callFunc_extern Try.func209 (by kernel_rfl) (by kernel_rfl) (by kernel_rfl) (e := Extern.BytealgIndexByte.indexByte) (by kernel_rfl), Lib.run_indexByteString]
  simp only [Result.andThen]
  rw [Oper.upon_value]
  go_wp2
  go_ret
  exact ⟨rfl, rfl⟩
set_option maxHeartbeats 1000000 in
theorem indexByte_any (s : ByteArray) (c : Int) (w : World) : Calls Try.prog 138 #[.string s, .int .u8 c] w fun e w' => e = .returned (.int .i64 (ixB s c)) ∧ w = w' := by
  go_enter Try.func138, Try.ntmps138
  go_wp2_with (go_at_call 173; refine (indexByteL_any s c _).mono ?_; rintro e w' ⟨rfl, rfl⟩)
  go_ret
  exact ⟨rfl, rfl⟩

/-! ### The reader -/

/-- A call has written the reader g anew, and has made what it has made. -/
def RdTo (w : World) (g : Nat) (s : ByteArray) (i wr : Int) (w' : World) : Prop := ∃ os n, w' = plus (putBlk w g 94 #[.string s, .int .i64 i, .int .i64 wr]) os n
theorem drewN_plus (w : World) (n : Nat) : w.drewN n = plus w #[] (w.drewN n).drawn := by simp [plus, World.drewN]
theorem RdTo.set {w w' : World} {g j : Nat} {s : ByteArray} {i wr i' wr' : Int} {v : Value} (h : Blk w g 94 #[.string s, .int .i64 i, .int .i64 wr]) (os : Array Obj) (n : Nat)
    (hw : w' = (plus w os n).setCell ⟨g, j, none⟩ v) (hv : (#[.string s, .int .i64 i, .int .i64 wr] : Array Value).setIfInBounds j v = #[.string s, .int .i64 i', .int .i64 wr']) : RdTo w g s i' wr' w' :=
  ⟨os, n, by rw [hw, plus_setCell h.lt, set_put h, hv]⟩
theorem RdTo.same {w : World} {g : Nat} {s : ByteArray} {i wr : Int} (h : Blk w g 94 #[.string s, .int .i64 i, .int .i64 wr]) (os : Array Obj) (n : Nat) : RdTo w g s i wr (plus w os n) :=
  ⟨os, n, by rw [put_same h]⟩

set_option maxHeartbeats 1600000 in
theorem take_yes (s : ByteArray) (i g : Nat) (wrong c : Int) (w : World) (h : Blk w g 94 #[.string s, .int .i64 i, .int .i64 wrong]) (hi : i < s.size) (hc : (s[i].toNat : Int) = c) (hs : s.size ≤ 400) :
    Calls Try.prog 65 #[.pointer (some ⟨g, 0, none⟩), .int .u8 c] w fun e w' => e = .returned (.bool true) ∧ RdTo w g s (i + 1 : Nat) wrong w' := by
  have c0 := h.cell 0
  have c1 := h.cell 1
  have f1 := h.frozen 1
  have hl := h.lt
  have H := hide h
  have x1 : IntKind.i64.wrap ((i : Int) + 1) = ((i + 1 : Nat) : Int) := by rw [wrap_small] <;> omega
  have i1 : (i : Int) < (s.size : Int) := by omega
  have i2 : decide ((i : Int) = (s.size : Int)) = false := decide_eq_false (by omega)
  have i3 : ¬ ((i : Int) = (s.size : Int)) := by omega
  clear h
  subst hc
  simp only [List.getElem?_toArray, List.getElem?_cons_zero, List.getElem?_cons_succ] at c0 c1
  go_enter Try.func65, Try.ntmps65
  go_wp2_with fail
  go_quiet (fail)
  go_wp2
  go_ret
  exact ⟨rfl, .set H.out #[] _ (by rw [drewN_plus]) (by rfl)⟩

set_option maxHeartbeats 1600000 in
theorem take_no (s : ByteArray) (i g : Nat) (wrong c : Int) (w : World) (h : Blk w g 94 #[.string s, .int .i64 i, .int .i64 wrong]) (hi : i ≤ s.size) (hc : ∀ h : i < s.size, (s[i].toNat : Int) ≠ c) (_hs : s.size ≤ 400) :
    Calls Try.prog 65 #[.pointer (some ⟨g, 0, none⟩), .int .u8 c] w fun e w' => e = .returned (.bool false) ∧ RdTo w g s i wrong w' := by
  have c0 := h.cell 0
  have c1 := h.cell 1
  have hl := h.lt
  have H := hide h
  clear h
  simp only [List.getElem?_toArray, List.getElem?_cons_zero, List.getElem?_cons_succ] at c0 c1
  by_cases hlt : i < s.size
  · have i1 : (i : Int) < (s.size : Int) := by omega
    have i2 : decide ((i : Int) = (s.size : Int)) = false := decide_eq_false (by omega)
    have i3 : ¬ ((i : Int) = (s.size : Int)) := by omega
    have hc1 := hc hlt
    have hc2 : ((s[i].toNat : Int) != c) = true := bne_iff_ne.2 hc1
    have hc3 : decide ((s[i].toNat : Int) = c) = false := decide_eq_false hc1
    clear hc
    go_enter Try.func65, Try.ntmps65
    go_wp2_with fail
    go_quiet (fail)
    go_wp2
    go_ret
    exact ⟨rfl, by rw [drewN_plus]; exact .same H.out _ _⟩
  · have hie : i = s.size := by omega
    subst hie
    clear hc
    go_enter Try.func65, Try.ntmps65
    go_wp2_with fail
    go_quiet (fail)
    go_wp2
    go_ret
    exact ⟨rfl, by rw [drewN_plus]; exact .same H.out _ _⟩

set_option maxHeartbeats 1600000 in
theorem fail_yes (s : ByteArray) (i k : Int) (g : Nat) (w : World) (h : Blk w g 94 #[.string s, .int .i64 i, .int .i64 (-1)]) :
    Calls Try.prog 137 #[.pointer (some ⟨g, 0, none⟩), .int .i64 k] w fun e w' => e = .returned (.tuple #[]) ∧ RdTo w g s i k w' := by
  have c2 := h.cell 2
  have f2 := h.frozen 2
  have hl := h.lt
  have H := hide h
  clear h
  simp only [List.getElem?_toArray, List.getElem?_cons_zero, List.getElem?_cons_succ] at c2
  go_enter Try.func137, Try.ntmps137
  go_wp2
  go_end0
  exact ⟨rfl, .set H.out #[] w.drawn (by rw [plus_nil]) (by rfl)⟩

set_option maxHeartbeats 1600000 in
theorem fail_no (s : ByteArray) (i j k : Int) (g : Nat) (w : World) (h : Blk w g 94 #[.string s, .int .i64 i, .int .i64 j]) (hj : 0 ≤ j) :
    Calls Try.prog 137 #[.pointer (some ⟨g, 0, none⟩), .int .i64 k] w fun e w' => e = .returned (.tuple #[]) ∧ RdTo w g s i j w' := by
  have c2 := h.cell 2
  have hl := h.lt
  have H := hide h
  have hj2 : ¬ j < 0 := by omega
  clear h
  simp only [List.getElem?_toArray, List.getElem?_cons_zero, List.getElem?_cons_succ] at c2
  go_enter Try.func137, Try.ntmps137
  go_wp2
  go_end0
  refine ⟨rfl, ?_⟩
  have := RdTo.same H.out #[] w.drawn
  rwa [plus_nil] at this

end Go.Proofs.Ytfklaahakibljaa
