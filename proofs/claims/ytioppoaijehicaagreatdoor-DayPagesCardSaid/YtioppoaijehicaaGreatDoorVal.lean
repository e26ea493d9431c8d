/-
  PLAIN: values, and their order, as Lean functions; where a value lies in memory.
-/
import Derived.RowKit
import Derived.Lib.Bytealg
import Derived.Test.YtioppoaijehicaaGreatDoorInts
set_option linter.all false
namespace Go.Proofs.YtioppoaijehicaaGreatDoor
open Go.RowKit

/-- A value of a property: its kind, two numbers, a text, items. -/
inductive V where
  | mk (k i t : Int) (s : ByteArray) (l : List V)

def V.k : V → Int | .mk k _ _ _ _ => k

def V.i : V → Int | .mk _ i _ _ _ => i

def V.t : V → Int | .mk _ _ t _ _ => t

def V.s : V → ByteArray | .mk _ _ _ s _ => s

def V.l : V → List V | .mk _ _ _ _ l => l

def V.arg (v : V) (A : Option Addr) (c : Nat) : Value := .agg #[.int .i64 v.k, .int .i64 v.i, .int .i64 v.t, .string v.s, .slice A v.l.length c]

theorem cmp3_lt {a b : Int} (h : a < b) : cmp3 a b = -1 := if_pos h

theorem cmp3_gt {a b : Int} (h : b < a) : cmp3 a b = 1 := by rw [cmp3, if_neg (by omega), if_pos h]

theorem cmp3_eq (a : Int) : cmp3 a a = 0 := by rw [cmp3, if_neg (by omega), if_neg (by omega)]

theorem cmp3_ne {a b : Int} (h : a ≠ b) : cmp3 a b ≠ 0 := by unfold cmp3; (repeat' split) <;> omega

theorem less_cmp : ∀ (a b : List UInt8), (Lib.compareBytes a b = -1 ∧ Op.bytesLess a b = true ∧ Op.bytesLess b a = false ∧ (a == b) = false) ∨ (Lib.compareBytes a b = 1 ∧ Op.bytesLess a b = false ∧ Op.bytesLess b a = true ∧ (a == b) = false) ∨ (Lib.compareBytes a b = 0 ∧ Op.bytesLess a b = false ∧ Op.bytesLess b a = false ∧ (a == b) = true)
  | [], [] => by simp [Lib.compareBytes, Op.bytesLess]
  | [], _ :: _ => by simp [Lib.compareBytes, Op.bytesLess]
  | _ :: _, [] => by simp [Lib.compareBytes, Op.bytesLess]
  | x :: xs, y :: ys => by
    have ih := less_cmp xs ys
    unfold Lib.compareBytes
    by_cases h : x < y
    · left
      have h2 : ¬ y < x := fun h2 => UInt8.lt_irrefl x (UInt8.lt_trans h h2)
      have h3 : ¬ x = y := fun h3 => by subst h3; exact UInt8.lt_irrefl x h
      have h4 : ¬ y = x := fun h4 => h3 h4.symm
      simp [h, h2, h3, h4, Op.bytesLess]
    · by_cases h2 : y < x
      · right; left
        have h3 : ¬ x = y := fun h3 => by subst h3; exact h h2
        simp [h, h2, h3, Op.bytesLess]
      · have h3 : x = y := UInt8.le_antisymm (UInt8.not_lt.1 h2) (UInt8.not_lt.1 h)
        subst h3
        simp only [if_neg h, Op.bytesLess, beq_self_eq_true, Bool.true_and, List.cons_beq_cons]
        simpa [h] using ih

mutual

def cmpV : V → V → Int
  | .mk k i t s l, .mk k' i' t' s' l' =>
    if k = k' then
      (if k = 1 ∨ k = 2 ∨ k = 4 then cmp3 i i' else if k = 5 then or2 (cmp3 i i') (cmp3 t t') else if k = 3 ∨ k = 6 then Lib.compareBytes s.data.toList s'.data.toList else if k = 7 then cmpL l l' else 0)
    else cmp3 k k'

def cmpL : List V → List V → Int
  | [], [] => 0
  | [], _ :: _ => -1
  | _ :: _, [] => 1
  | x :: xs, y :: ys => if cmpV x y = 0 then cmpL xs ys else cmpV x y
end

/-- The cells of a value lie at an address of a world; so do those of its items. -/
def VAt (w : World) : V → Nat → Nat → Prop
  | .mk k i t s l, b, o => w.cell? ⟨b, o, none⟩ = some (.int .i64 k) ∧ w.cell? ⟨b, o + 1, none⟩ = some (.int .i64 i) ∧ w.cell? ⟨b, o + 2, none⟩ = some (.int .i64 t) ∧ w.cell? ⟨b, o + 3, none⟩ = some (.string s) ∧
    ∃ A c, w.cell? ⟨b, o + 4, none⟩ = some (.slice A l.length c) ∧ l.length ≤ maxLen ∧ (0 < l.length → ∃ b' o', A = some ⟨b', o', none⟩ ∧ b' < w.heap.size ∧ ∀ j (h : j < l.length), VAt w l[j] b' (o' + j * 5))
termination_by v => SizeOf.sizeOf v
decreasing_by
  have := List.sizeOf_lt_of_mem (List.getElem_mem h)
  simp only [V.mk.sizeOf_spec]
  omega

def LAt (w : World) (A : Option Addr) (l : List V) : Prop :=
  l.length ≤ maxLen ∧ (0 < l.length → ∃ b' o', A = some ⟨b', o', none⟩ ∧ b' < w.heap.size ∧ ∀ j (h : j < l.length), VAt w l[j] b' (o' + j * 5))

theorem VAt_iff {w : World} {v : V} {b o : Nat} : VAt w v b o ↔ w.cell? ⟨b, o, none⟩ = some (.int .i64 v.k) ∧ w.cell? ⟨b, o + 1, none⟩ = some (.int .i64 v.i) ∧ w.cell? ⟨b, o + 2, none⟩ = some (.int .i64 v.t) ∧ w.cell? ⟨b, o + 3, none⟩ = some (.string v.s) ∧
    ∃ A c, w.cell? ⟨b, o + 4, none⟩ = some (.slice A v.l.length c) ∧ LAt w A v.l := by
  obtain ⟨k, i, t, s, l⟩ := v
  rw [VAt]
  exact Iff.rfl

theorem VAt.below {w w' : World} (hb : Below w.heap.size w w') : ∀ (v : V) (b o : Nat), b < w.heap.size → VAt w v b o → VAt w' v b o
  | .mk k i t s l, b, o, hlt, h => by
    have hk : ∀ i, w'.cell? ⟨b, i, none⟩ = w.cell? ⟨b, i, none⟩ := fun i => hb.cell (p := ⟨b, i, none⟩) hlt
    rw [VAt] at h ⊢
    obtain ⟨h0, h1, h2, h3, A, c, h4, h5, h6⟩ := h
    refine ⟨(hk _).trans h0, (hk _).trans h1, (hk _).trans h2, (hk _).trans h3, A, c, (hk _).trans h4, h5, fun hl => ?_⟩
    obtain ⟨b', o', hA, hb', hj⟩ := h6 hl
    exact ⟨b', o', hA, Nat.lt_of_lt_of_le hb' hb.size, fun j h => VAt.below hb l[j] b' _ hb' (hj j h)⟩
termination_by v => SizeOf.sizeOf v
decreasing_by
  have := List.sizeOf_lt_of_mem (List.getElem_mem h)
  simp only [V.mk.sizeOf_spec]
  omega

theorem LAt.below {w w' : World} {A : Option Addr} {l : List V} (h : LAt w A l) (hb : Below w.heap.size w w') : LAt w' A l :=
  ⟨h.1, fun hl => by
    obtain ⟨b', o', hA, hb', hj⟩ := h.2 hl
    exact ⟨b', o', hA, Nat.lt_of_lt_of_le hb' hb.size, fun j h => VAt.below hb l[j] b' _ hb' (hj j h)⟩⟩

theorem cmpL_done (ys : List V) : cmpL [] ys = if ys.length = 0 then 0 else -1 := by
  cases ys <;> simp [cmpL]

theorem cmpL_over {xs ys : List V} {k : Nat} (hx : k < xs.length) (hy : ys.length ≤ k) : cmpL (xs.drop k) (ys.drop k) = 1 := by
  rw [List.drop_eq_getElem_cons hx, List.drop_eq_nil_of_le hy, cmpL]

theorem cmpL_step {xs ys : List V} {k : Nat} (hx : k < xs.length) (hy : k < ys.length) : cmpL (xs.drop k) (ys.drop k) = if cmpV xs[k] ys[k] = 0 then cmpL (xs.drop (k + 1)) (ys.drop (k + 1)) else cmpV xs[k] ys[k] := by
  rw [List.drop_eq_getElem_cons hx, List.drop_eq_getElem_cons hy, cmpL]

theorem cmpL_end {xs ys : List V} {k : Nat} (hx : xs.length ≤ k) : cmpL (xs.drop k) (ys.drop k) = if ys.length ≤ k then 0 else -1 := by
  rw [List.drop_eq_nil_of_le hx, cmpL_done]
  simp only [List.length_drop]
  by_cases h : ys.length ≤ k
  · rw [if_pos (by omega), if_pos h]
  · rw [if_neg (by omega), if_neg h]

end Go.Proofs.YtioppoaijehicaaGreatDoor
