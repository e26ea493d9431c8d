/-
  PLAIN: properties that are read, line by line.
-/
import Derived.Test.YtdncmjlakmkfiaaGreatDoorVxj
import Derived.Test.YtdncmjlakmkfiaaGreatDoorPzc
set_option linter.all false
namespace Go.Proofs.YtdncmjlakmkfiaaGreatDoor
open Go.Lib Go.RowKit

/-- A line: its name, its value's text, what follows it. -/
def lineC (l : List UInt8) : List UInt8 × List UInt8 × Bool := cut l [10]

def lineD (l : List UInt8) : List UInt8 × List UInt8 × Bool := cut (lineC l).1 [58, 58]

def rdLine (l : List UInt8) : Option (List UInt8 × List UInt8 × List UInt8) :=
  if ((lineC l).2.2 && (lineD l).2.2 && !(lineD l).1.isEmpty && !contains (lineD l).1 [32] && hasPrefix (lineD l).2.1 [32]) = true then some ((lineD l).1, (lineD l).2.1.drop 1, (lineC l).2.1) else none

/-- What reading a list of properties hands out: the list, the line, the code. -/
def endPs (acc : List PR) (far : Bool) : List PR × Int × Int := if far = true then ([], 0, 2) else if propsErr acc ≠ 0 then ([], 0, propsErr acc) else (acc, 0, 0)

def rdPs : Nat → List UInt8 → List PR → Int → Bool → List PR × Int × Int
  | 0, _, _, _, _ => ([], 0, 0)
  | n + 1, l, acc, k, far => if l = [] then endPs acc far else match rdLine l with
    | none => ([], k, 8)
    | some (nm, t, r) => if (rdV t).2 = 8 then ([], k, 8) else rdPs n r (acc ++ [⟨strOf nm, (rdV t).1⟩]) (k + 1) (far || decide ((rdV t).2 = 2))

theorem rdPs_far : ∀ (n : Nat) (l : List UInt8) (acc acc' : List PR) (k : Int), rdPs n l acc k true = rdPs n l acc' k true
  | 0, _, _, _, _ => rfl
  | n + 1, l, acc, acc', k => by
    unfold rdPs
    by_cases h : l = []
    · rw [if_pos h, if_pos h]; rfl
    · rw [if_neg h, if_neg h]
      cases rdLine l with
      | none => rfl
      | some q =>
        obtain ⟨nm, t, r⟩ := q
        simp only [Bool.true_or]
        by_cases h8 : (rdV t).2 = 8
        · rw [if_pos h8, if_pos h8]
        · rw [if_neg h8, if_neg h8]
          exact rdPs_far n r _ _ _

theorem rdPs_end {n : Nat} {acc : List PR} {k : Int} {far : Bool} : rdPs (n + 1) [] acc k far = endPs acc far := if_pos rfl

theorem rdPs_bad {n : Nat} {l : List UInt8} {acc : List PR} {k : Int} {far : Bool} (h : l ≠ []) (hl : rdLine l = none) : rdPs (n + 1) l acc k far = ([], k, 8) := by
  unfold rdPs
  rw [if_neg h, hl]

theorem rdPs_bad8 {n : Nat} {l nm t r : List UInt8} {acc : List PR} {k : Int} {far : Bool} (h : l ≠ []) (hl : rdLine l = some (nm, t, r)) (h8 : (rdV t).2 = 8) : rdPs (n + 1) l acc k far = ([], k, 8) := by
  unfold rdPs
  rw [if_neg h, hl]
  simp only [if_pos h8]

theorem rdPs_go {n : Nat} {l nm t r : List UInt8} {acc : List PR} {k : Int} {far : Bool} (h : l ≠ []) (hl : rdLine l = some (nm, t, r)) (h8 : (rdV t).2 ≠ 8) : rdPs (n + 1) l acc k far = rdPs n r (acc ++ [⟨strOf nm, (rdV t).1⟩]) (k + 1) (far || decide ((rdV t).2 = 2)) := by
  conv => lhs; unfold rdPs
  rw [if_neg h, hl]
  simp only [if_neg h8]

/-- What Cut parts is no longer than the whole. -/
theorem cut_len (l sep : List UInt8) : (cut l sep).1.length ≤ l.length ∧ (cut l sep).2.1.length ≤ l.length ∧ ((cut l sep).2.2 = true → (cut l sep).2.1.length + sep.length ≤ l.length) := by
  unfold cut
  by_cases h : 0 ≤ index l sep
  · rw [if_pos h]
    refine ⟨?_, ?_, fun _ => ?_⟩
    · rw [List.length_take]; omega
    · rw [List.length_drop]; omega
    · rw [List.length_drop]
      have h1 := index_room l sep h
      omega
  · rw [if_neg h]
    exact ⟨Nat.le_refl _, by simp, fun h => by cases h⟩

/-- A line that is none. -/
theorem line_bad {l : List UInt8} (h : ((lineC l).2.2 && (lineD l).2.2 && !(lineD l).1.isEmpty && !contains (lineD l).1 [32] && hasPrefix (lineD l).2.1 [32]) = false) : rdLine l = none := by
  unfold rdLine
  rw [h]
  rfl

theorem line_ok {l : List UInt8} (h1 : (lineC l).2.2 = true) (h2 : (lineD l).2.2 = true) (h3 : (lineD l).1.isEmpty = false) (h4 : contains (lineD l).1 [32] = false) (h5 : hasPrefix (lineD l).2.1 [32] = true) : rdLine l = some ((lineD l).1, (lineD l).2.1.drop 1, (lineC l).2.1) := by
  unfold rdLine
  rw [h1, h2, h3, h4, h5]
  rfl

theorem line_sizes (l : List UInt8) : (lineC l).1.length ≤ l.length ∧ (lineC l).2.1.length ≤ l.length ∧ (lineD l).1.length ≤ l.length ∧ (lineD l).2.1.length ≤ l.length ∧ ((lineC l).2.2 = true → (lineC l).2.1.length + 1 ≤ l.length) := by
  have h1 := cut_len l [10]
  have h2 := cut_len (lineC l).1 [58, 58]
  unfold lineD
  unfold lineC at *
  exact ⟨h1.1, h1.2.1, Nat.le_trans h2.1 h1.1, Nat.le_trans h2.2.1 h1.1, h1.2.2⟩

/-- What Read of a list hands out. -/
def readPs (s : ByteArray) : List PR × Int × Int := if 400000 < s.size then ([], 0, 4) else rdPs (s.size + 1) s.data.toList [] 1 false

def PrOut (w : World) (q : List PR × Int × Int) (e : Ending) (w' : World) : Prop := ∃ A c, e = .returned (.tuple #[.slice A q.1.length c, .int .i64 q.2.1, .int .i64 q.2.2]) ∧ PsAt w' A q.1 ∧ Below w.heap.size w w'

theorem psAt_nil {w : World} {A : Option Addr} : PsAt w A [] := ⟨Nat.zero_le _, fun h => absurd h (by simp)⟩

theorem PrOut.nil {w w' : World} {k c : Int} (hb : Below w.heap.size w w') : PrOut w ([], k, c) (.returned (.tuple #[.slice none 0 0, .int .i64 k, .int .i64 c])) w' := ⟨none, 0, rfl, psAt_nil, hb⟩

theorem propsErr_len {l : List PR} (h : propsErr l = 0) : l.length ≤ 20 := by
  unfold propsErr at h
  split at h
  · cases h
  · omega

/-- The value's text behind its first byte. -/
theorem text_drop {l : List UInt8} (h : hasPrefix l [32] = true) : 1 ≤ l.length := by
  obtain ⟨t, rfl⟩ := hp_iff.1 h
  rw [List.length_append, List.length_singleton]
  omega

end Go.Proofs.YtdncmjlakmkfiaaGreatDoor
