/-
  A RUNE AND ITS BYTES; contracts of the shelf that strings.IndexAny's own form leans on.
-/
import Derived.Shelf.Strings.IndexAnyAll
import Derived.Shelf.Small.Utf8
import Derived.Shelf.Small.Strs
import Derived.Lib.OthersKept
import Derived.Lib.DecodeN
import Derived.Test.YtidpfjdlchffcaaDoorIxl
import Derived.Test.YtidpfjdlchffcaaDoorBlk
set_option linter.all false
namespace Go.Proofs
open Go.Shelf Go.RowKit

namespace YtidpfjdlchffcaaDoor
open Go.Lib

/-! ### A rune and its bytes -/

theorem decodeN_hi (n b0 b1 b2 b3 : Nat) (hb : 128 ≤ b0) : 128 ≤ (decodeN n b0 b1 b2 b3).1 ∧
    ((decodeN n b0 b1 b2 b3).2 = 1 ∨ ((decodeN n b0 b1 b2 b3).2 = 2 ∧ 1 < n ∧ 128 ≤ b1) ∨ ((decodeN n b0 b1 b2 b3).2 = 3 ∧ 2 < n ∧ 128 ≤ b1 ∧ 128 ≤ b2) ∨ ((decodeN n b0 b1 b2 b3).2 = 4 ∧ 3 < n ∧ 128 ≤ b1 ∧ 128 ≤ b2 ∧ 128 ≤ b3)) := by
  unfold decodeN
  rw [if_neg (by omega)]
  split
  · split
    · exact ⟨by simp only; omega, .inr (.inl ⟨rfl, by omega, by omega⟩)⟩
    · exact ⟨by decide, .inl rfl⟩
  · split
    · split
      · exact ⟨by simp only; omega, .inr (.inr (.inl ⟨rfl, by omega, by omega, by omega⟩))⟩
      · exact ⟨by decide, .inl rfl⟩
    · split
      · split
        · exact ⟨by simp only; omega, .inr (.inr (.inr ⟨rfl, by omega, by omega, by omega, by omega⟩))⟩
        · exact ⟨by decide, .inl rfl⟩
      · exact ⟨by decide, .inl rfl⟩

theorem get_bang (s : ByteArray) (i : Nat) (h : i < s.size) : s.get! i = s[i]'h := by
  have h' : i < s.data.size := h
  show s.data[i]! = s.data[i]
  exact getElem!_pos s.data i h'

/-- A rune that begins with a byte beyond ASCII. -/
theorem dec_hi (s : ByteArray) (i : Nat) (hi : i < s.size) (hb : 128 ≤ (s[i]'hi).toNat) :
    128 ≤ (Utf8.decode s i).1 ∧ 1 ≤ (Utf8.decode s i).2 ∧ i + (Utf8.decode s i).2 ≤ s.size ∧ ∀ j (hj : j < s.size), i ≤ j → j < i + (Utf8.decode s i).2 → 128 ≤ (s[j]'hj).toNat := by
  rw [decode_at]
  obtain ⟨h1, h2⟩ := decodeN_hi (s.size - i) (s.get! i).toNat (s.get! (i + 1)).toNat (s.get! (i + 2)).toNat (s.get! (i + 3)).toNat (by rw [get_bang s i hi]; exact hb)
  refine ⟨h1, ?_⟩
  generalize (decodeN (s.size - i) (s.get! i).toNat (s.get! (i + 1)).toNat (s.get! (i + 2)).toNat (s.get! (i + 3)).toNat).2 = K at *
  refine ⟨by omega, by omega, fun j hj hij hjk => ?_⟩
  have hc : j = i ∨ (j = i + 1 ∧ 2 ≤ K) ∨ (j = i + 2 ∧ 3 ≤ K) ∨ (j = i + 3 ∧ 4 ≤ K) := by omega
  rcases hc with rfl | ⟨rfl, hk⟩ | ⟨rfl, hk⟩ | ⟨rfl, hk⟩
  · exact hb
  · rw [← get_bang]; omega
  · rw [← get_bang]; omega
  · rw [← get_bang]; omega

theorem dec_lo (s : ByteArray) (i : Nat) (hi : i < s.size) (hb : (s[i]'hi).toNat < 128) : Utf8.decode s i = ((s[i]'hi).toNat, 1) := by
  rw [decode_at, get_bang s i hi]
  unfold decodeN
  rw [if_pos hb]

end YtidpfjdlchffcaaDoor

theorem Tryd.indexByte_any (s : ByteArray) (c : Int) (w : World) :
    Calls Tryd.prog 60 #[.string s, .int .u8 c] w fun e w' => e = .returned (.int .i64 (Lib.indexByte s.data.toList c.toNat.toUInt8)) ∧ w' = w := Any.strings_IndexByte { Tryd.idxL with } s c w

theorem Tryd.validRune_any (r : Int) (w : World) :
    Calls Tryd.prog 61 #[.int .i32 r] w fun e w' => e = .returned (.bool (Lib.validRune r)) ∧ w' = w := Any.utf8_ValidRune { Tryd.idxL with } r w

end Go.Proofs
