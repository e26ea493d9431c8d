/-
  PLAIN: the order of bytes.
-/
import Derived.Test.YtioppoaijehicaaGreatDoorDayA
set_option linter.all false
namespace Go.Proofs.YtioppoaijehicaaGreatDoor
open Go.RowKit Go.Lib

theorem cmpB_swap : ∀ (a b : List UInt8), compareBytes b a = - compareBytes a b
  | [], [] => rfl
  | [], _ :: _ => rfl
  | _ :: _, [] => rfl
  | x :: xs, y :: ys => by
    have ih := cmpB_swap xs ys
    unfold compareBytes
    by_cases h : x < y
    · have h2 : ¬ y < x := fun h2 => UInt8.lt_irrefl x (UInt8.lt_trans h h2)
      rw [if_neg h2, if_pos h, if_pos h]; rfl
    · by_cases h2 : y < x
      · rw [if_pos h2, if_neg h, if_pos h2]
      · rw [if_neg h2, if_neg h, if_neg h, if_neg h2]; exact ih

theorem cmpB_eq {a b : List UInt8} (h : compareBytes a b = 0) : a = b := by
  rcases less_cmp a b with ⟨h1, _⟩ | ⟨h1, _⟩ | ⟨_, _, _, h1⟩
  · omega
  · omega
  · exact eq_of_beq h1

theorem cmpB_refl (a : List UInt8) : compareBytes a a = 0 := by have := cmpB_swap a a; omega

theorem cmpB_trans : ∀ (a b c : List UInt8), compareBytes a b ≤ 0 → compareBytes b c ≤ 0 → compareBytes a c ≤ 0
  | [], _, [] => fun _ _ => by simp [compareBytes]
  | [], _, _ :: _ => fun _ _ => by simp [compareBytes]
  | _ :: _, [], _ => fun h _ => by simp [compareBytes] at h
  | _ :: _, _ :: _, [] => fun _ h => by simp [compareBytes] at h
  | x :: xs, y :: ys, z :: zs => fun h1 h2 => by
    have ih := cmpB_trans xs ys zs
    unfold compareBytes at h1 h2 ⊢
    by_cases hxy : x < y
    · by_cases hyz : y < z
      · rw [if_pos (UInt8.lt_trans hxy hyz)]; decide
      · by_cases hzy : z < y
        · rw [if_neg hyz, if_pos hzy] at h2; omega
        · have : y = z := UInt8.le_antisymm (UInt8.not_lt.1 hzy) (UInt8.not_lt.1 hyz)
          subst this
          rw [if_pos hxy]; decide
    · by_cases hyx : y < x
      · rw [if_neg hxy, if_pos hyx] at h1; omega
      · have : x = y := UInt8.le_antisymm (UInt8.not_lt.1 hyx) (UInt8.not_lt.1 hxy)
        subst this
        rw [if_neg hxy, if_neg hxy] at h1
        by_cases hyz : x < z
        · rw [if_pos hyz]; decide
        · by_cases hzy : z < x
          · rw [if_neg hyz, if_pos hzy] at h2; omega
          · rw [if_neg hyz, if_neg hzy] at h2 ⊢
            exact ih h1 h2

theorem byteArray_ext {a b : ByteArray} (h : a.data.toList = b.data.toList) : a = b := by
  obtain ⟨a⟩ := a
  obtain ⟨b⟩ := b
  obtain ⟨a⟩ := a
  obtain ⟨b⟩ := b
  simp only at h
  rw [h]

end Go.Proofs.YtioppoaijehicaaGreatDoor
