/-
  PLAIN: the gaps of a string.
-/
import Derived.Test.YtidpfjdlchffcaaDoorCda
import Derived.Test.YtidpfjdlchffcaaDoorIxc
import Derived.Test.YtidpfjdlchffcaaDoorOwnB
import Derived.Test.YtidpfjdlchffcaaDoorOwnG
set_option linter.all false
namespace Go.Proofs.YtidpfjdlchffcaaDoor
open Go.RowKit

/-- A byte that is no curly bracket. -/
def notBr (c : UInt8) : Bool := !(c.toNat == 123 || c.toNat == 125)

/-- Where the next curly bracket is. -/
def spEnd (s : ByteArray) (k : Nat) : Nat := k + ((s.data.toList.drop k).takeWhile notBr).length

theorem drop_at (s : ByteArray) {k : Nat} (h : k < s.size) : s.data.toList.drop k = s[k] :: s.data.toList.drop (k + 1) := by
  have hl : k < s.data.toList.length := by rw [← Lib.size_eq]; exact h
  rw [List.drop_eq_getElem_cons hl]
  rfl

theorem spEnd_step {s : ByteArray} {k : Nat} (h : k < s.size) (hb : notBr s[k] = true) : spEnd s (k + 1) = spEnd s k := by
  unfold spEnd
  rw [drop_at s h, List.takeWhile_cons, if_pos hb, List.length_cons]
  omega

theorem spEnd_stop {s : ByteArray} {k : Nat} (h : k < s.size) (hb : notBr s[k] = false) : spEnd s k = k := by
  unfold spEnd
  rw [drop_at s h, List.takeWhile_cons, if_neg (by rw [hb]; exact Bool.false_ne_true)]
  rfl

theorem spEnd_over {s : ByteArray} {k : Nat} (h : s.size ≤ k) : spEnd s k = k := by
  unfold spEnd
  rw [List.drop_eq_nil_of_le (by rw [← Lib.size_eq]; exact h)]
  rfl

theorem spEnd_ge (s : ByteArray) (k : Nat) : k ≤ spEnd s k := Nat.le_add_right _ _

theorem spEnd_le {s : ByteArray} {k : Nat} (h : k ≤ s.size) : spEnd s k ≤ s.size := by
  unfold spEnd
  have h1 : ((s.data.toList.drop k).takeWhile notBr).length ≤ (s.data.toList.drop k).length := List.takeWhile_prefix _ |>.length_le
  rw [List.length_drop, ← Lib.size_eq] at h1
  omega

/-- Two bytes at a place. -/
def pre2 (s : ByteArray) (i : Nat) (c : Nat) : Bool := if h : i + 1 < s.size then s[i].toNat == c && s[i + 1].toNat == c else false

theorem pre2_lt {s : ByteArray} {i c : Nat} (h : pre2 s i c = true) : i + 1 < s.size := by
  unfold pre2 at h
  split at h
  · assumption
  · cases h

theorem u8_eq {a : UInt8} {c : Nat} (hc : c < 256) : (a == UInt8.ofNat c) = (a.toNat == c) := by
  have h1 : (UInt8.ofNat c).toNat = c := by simp; omega
  rw [Bool.eq_iff_iff, beq_iff_eq, beq_iff_eq]
  constructor
  · intro h; rw [h, h1]
  · intro h; exact UInt8.toNat.inj (by rw [h1, h])

theorem pre2_has (s : ByteArray) (i : Nat) (c : Nat) (hc : c < 256) : Lib.hasPrefix (s.data.toList.drop i) [UInt8.ofNat c, UInt8.ofNat c] = pre2 s i c := by
  unfold pre2
  by_cases h : i + 1 < s.size
  · rw [dif_pos h, drop_at s (show i < s.size by omega), drop_at s h]
    unfold Lib.hasPrefix
    simp only [List.isPrefixOf, Bool.and_true]
    rw [← u8_eq hc, ← u8_eq hc, Bool.beq_comm (a := s[i]), Bool.beq_comm (a := s[i + 1])]
  · rw [dif_neg h]
    have hl : (s.data.toList.drop i).length ≤ 1 := by rw [List.length_drop, ← Lib.size_eq]; omega
    cases hx : s.data.toList.drop i with
    | nil => rfl
    | cons a t =>
      rw [hx] at hl
      have : t = [] := List.length_eq_zero_iff.1 (by rw [List.length_cons] at hl; omega)
      subst this
      unfold Lib.hasPrefix
      simp [List.isPrefixOf]

/-- The end of a gap that begins here. -/
def gapE (s : ByteArray) (i : Nat) : Option Nat := if pre2 s i 123 = true then (if i + 2 < spEnd s (i + 2) ∧ pre2 s (spEnd s (i + 2)) 125 = true then some (spEnd s (i + 2)) else none) else none

theorem gapE_lt {s : ByteArray} {i e : Nat} (h : gapE s i = some e) : i + 2 < e ∧ e + 2 ≤ s.size ∧ e = spEnd s (i + 2) := by
  unfold gapE at h
  split at h
  · split at h
    · rename_i h1 h2
      obtain rfl := Option.some.inj h
      have := pre2_lt h2.2
      exact ⟨h2.1, by omega, rfl⟩
    · cases h
  · cases h

/-- A gap: from, to, word, hint, is there a hint? -/
structure GP where
  f : Nat
  u : Nat
  t : ByteArray
  h : ByteArray
  b : Bool

def inB (s : ByteArray) (i e : Nat) : ByteArray := s.extract (i + 2) e

def gpOf (s : ByteArray) (i e : Nat) : GP := ⟨i, e + 2, ⟨(Lib.cut (inB s i e).data.toList [124]).1.toArray⟩, ⟨(Lib.cut (inB s i e).data.toList [124]).2.1.toArray⟩, (Lib.cut (inB s i e).data.toList [124]).2.2⟩

def gapsF (s : ByteArray) : Nat → Nat → List GP
  | 0, _ => []
  | f + 1, i => if i < s.size then (match gapE s i with
    | none => gapsF s f (i + 1)
    | some e => gpOf s i e :: gapsF s f (e + 2)) else []

theorem gapsF_more (s : ByteArray) : ∀ (f f' i : Nat), s.size - i ≤ f → s.size - i ≤ f' → gapsF s f i = gapsF s f' i
  | 0, 0, _, _, _ => rfl
  | 0, f' + 1, i, h, _ => by
    rw [gapsF, gapsF, if_neg (by omega)]
  | f + 1, 0, i, _, h => by
    rw [gapsF, gapsF, if_neg (by omega)]
  | f + 1, f' + 1, i, h, h' => by
    rw [gapsF, gapsF]
    by_cases hi : i < s.size
    · rw [if_pos hi, if_pos hi]
      cases he : gapE s i with
      | none => exact gapsF_more s f f' (i + 1) (by omega) (by omega)
      | some e =>
        have := gapE_lt he
        simp only
        rw [gapsF_more s f f' (e + 2) (by omega) (by omega)]
    · rw [if_neg hi, if_neg hi]

def gapsAt (s : ByteArray) (i : Nat) : List GP := gapsF s (s.size - i) i

theorem gapsAt_none {s : ByteArray} {i : Nat} (h : i < s.size) (hg : gapE s i = none) : gapsAt s i = gapsAt s (i + 1) := by
  unfold gapsAt
  rw [show s.size - i = (s.size - (i + 1)) + 1 by omega, gapsF, if_pos h, hg]

theorem gapsAt_some {s : ByteArray} {i e : Nat} (h : i < s.size) (hg : gapE s i = some e) : gapsAt s i = gpOf s i e :: gapsAt s (e + 2) := by
  have := gapE_lt hg
  unfold gapsAt
  rw [show s.size - i = (s.size - (i + 1)) + 1 by omega, gapsF, if_pos h, hg]
  simp only
  rw [gapsF_more s (s.size - (i + 1)) (s.size - (e + 2)) (e + 2) (by omega) (by omega)]

theorem gapsAt_over {s : ByteArray} {i : Nat} (h : s.size ≤ i) : gapsAt s i = [] := by
  unfold gapsAt
  rw [show s.size - i = 0 by omega, gapsF]

theorem gapsAt_last {s : ByteArray} {i : Nat} (h : s.size ≤ i + 1) : gapsAt s i = [] := by
  by_cases hi : i < s.size
  · rw [gapsAt_none hi (by unfold gapE pre2; rw [dif_neg (by omega)]; rfl), gapsAt_over (by omega)]
  · exact gapsAt_over (by omega)

/-- The first bracket, as the library finds it. -/
theorem idx_span : ∀ l : List UInt8, Lib.indexAny l [123, 125] = if (l.takeWhile notBr).length < l.length then ((l.takeWhile notBr).length : Int) else -1
  | [] => rfl
  | a :: l => by
    have ih := idx_span l
    unfold Lib.indexAny
    have hc : ([123, 125] : List UInt8).contains a = !notBr a := by
      unfold notBr
      rw [Bool.not_not]
      have h1 : (a == (123 : UInt8)) = (a.toNat == 123) := u8_eq (c := 123) (by decide)
      have h2 : (a == (125 : UInt8)) = (a.toNat == 125) := u8_eq (c := 125) (by decide)
      simp only [List.contains_cons, List.contains_nil, Bool.or_false, h1, h2]
    rw [hc, List.takeWhile_cons]
    cases hn : notBr a with
    | false => simp
    | true =>
      simp only [Bool.not_true, Bool.false_eq_true, if_false, if_true, List.length_cons]
      rw [ih]
      by_cases h : (l.takeWhile notBr).length < l.length
      · have hx : ((((l.takeWhile notBr).length : Nat) : Int) == -1) = false := by
          rw [beq_eq_false_iff_ne]
          omega
        rw [if_pos h, hx]
        simp only [Bool.false_eq_true, if_false]
        rw [if_pos (by omega)]
        omega
      · rw [if_neg h]
        simp only [show ((-1 : Int) == -1) = true from rfl, if_true]
        rw [if_neg (by omega)]

theorem idx_end {s : ByteArray} {k : Nat} (h : k ≤ s.size) : Lib.indexAny (s.data.toList.drop k) [123, 125] = if spEnd s k < s.size then ((spEnd s k : Nat) : Int) - (k : Int) else -1 := by
  rw [idx_span]
  unfold spEnd
  rw [List.length_drop, ← Lib.size_eq]
  by_cases h1 : ((s.data.toList.drop k).takeWhile notBr).length < s.size - k
  · rw [if_pos h1, if_pos (by omega)]
    omega
  · rw [if_neg h1, if_neg (by omega)]

end Go.Proofs.YtidpfjdlchffcaaDoor
