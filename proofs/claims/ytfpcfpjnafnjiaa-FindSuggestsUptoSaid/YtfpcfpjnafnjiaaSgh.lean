/-
  PLAIN: a string in small letters has the words that it has in any; when it is one word.
-/
import Derived.Test.YtfpcfpjnafnjiaaSge
set_option linter.all false
namespace Go.Proofs.Ytfpcfpjnafnjiaa
open Go.RowKit Go.Lib

def lowU (c : UInt8) : UInt8 := UInt8.ofNat (lowI c.toNat).toNat
theorem lowS_list (s : ByteArray) : (lowS s).data.toList = s.data.toList.map lowU := by
  unfold lowS
  rw [strOfNums_data, List.map_map]
  rfl
theorem lowU_nat (c : UInt8) : ((lowU c).toNat : Int) = lowI c.toNat := by
  have h := c.toNat_lt
  unfold lowU lowI
  split <;> (simp only [UInt8.toNat_ofNat']; omega)
theorem isWI_low (c : Int) : isWI (lowI c) = isWI c := by
  unfold lowI
  split
  · rename_i h
    unfold isWI
    rw [decide_eq_true (by omega), decide_eq_true (by omega)]
  · rfl
theorem lowU_low (c : UInt8) : lowU (lowU c) = lowU c := by
  unfold lowU
  congr 2
  have := lowU_nat c
  unfold lowU at this
  rw [this]
  unfold lowI
  split <;> (try split) <;> omega
theorem lowS_get {s : ByteArray} {k : Nat} (h : k < s.size) (h2 : k < (lowS s).size) : (lowS s)[k] = lowU s[k] := by
  have h3 : (lowS s).data.toList[k]? = (s.data.toList.map lowU)[k]? := by rw [lowS_list]
  rw [List.getElem?_map, Array.getElem?_toList, Array.getElem?_toList, Array.getElem?_eq_getElem (show k < (lowS s).data.size from h2), Array.getElem?_eq_getElem (show k < s.data.size from h)] at h3
  exact Option.some.inj h3
theorem wEndF_low (s : ByteArray) : ∀ f k, wEndF (lowS s) f k = wEndF s f k
  | 0, k => rfl
  | f + 1, k => by
    rw [wEndF, wEndF]
    by_cases h : k < s.size
    · have h2 : k < (lowS s).size := by rw [lowS_size]; exact h
      rw [dif_pos h, dif_pos h2, lowS_get h h2, lowU_nat, isWI_low, wEndF_low s f (k + 1)]
    · rw [dif_neg h, dif_neg (by rw [lowS_size]; exact h)]
theorem wEnd_low (s : ByteArray) (k : Nat) : wEnd (lowS s) k = wEnd s k := by
  unfold wEnd
  rw [lowS_size, wEndF_low]
theorem str_eq {a b : ByteArray} (h : a.data.toList = b.data.toList) : a = b := by
  obtain ⟨⟨a⟩⟩ := a
  obtain ⟨⟨b⟩⟩ := b
  cases (show a = b from h)
  rfl
theorem extract_list (s : ByteArray) (i k : Nat) : (s.extract i k).data.toList = (s.data.toList.drop i).take (k - i) := by
  rw [show (s.extract i k).data = s.data.extract i k by simp]
  rw [Array.toList_extract]

theorem lowS_extract (s : ByteArray) (i k : Nat) : lowS ((lowS s).extract i k) = lowS (s.extract i k) := by
  apply str_eq
  rw [lowS_list, lowS_list, extract_list, extract_list, lowS_list, ← List.map_drop, ← List.map_take, List.map_map]
  congr 1
  funext c
  exact lowU_low c
theorem wordsF_low (s : ByteArray) : ∀ f i, wordsF (lowS s) f i = wordsF s f i
  | 0, i => rfl
  | f + 1, i => by
    rw [wordsF, wordsF, lowS_size, wEnd_low, wordsF_low s f]
    unfold wdHere
    rw [lowS_extract]
theorem wordsAt_low (s : ByteArray) : wordsAt (lowS s) 0 = wordsAt s 0 := by
  unfold wordsAt
  rw [lowS_size, wordsF_low]
theorem wordsF_text (s : ByteArray) : ∀ f i, ∀ y ∈ wordsF s f i, y.t = lowS (s.extract y.f y.u)
  | 0, i => fun y hy => by rw [wordsF] at hy; cases hy
  | f + 1, i => fun y hy => by
    rw [wordsF] at hy
    split at hy
    · rcases List.mem_append.1 hy with h | h
      · unfold wdHere at h
        split at h
        · rw [List.mem_singleton] at h
          subst h
          rfl
        · cases h
      · exact wordsF_text s f _ y h
    · cases hy
theorem extract_all (s : ByteArray) : s.extract 0 s.size = s := by
  apply str_eq
  rw [extract_list, List.drop_zero, Nat.sub_zero, List.take_of_length_le (by rw [Array.length_toList]; exact Nat.le_refl _)]
/-- A string is one word, in letters of any kind. -/
theorem isWordS_low (s : ByteArray) : (∃ y, wordsAt s 0 = [y] ∧ isWordS (lowS s) = true ∧ y.f = 0 ∧ y.u = s.size ∧ y.t = lowS s) ∨ (∃ y, wordsAt s 0 = [y] ∧ isWordS (lowS s) = false ∧ (y.f ≠ 0 ∨ y.u ≠ s.size)) ∨ ((wordsAt s 0).length ≠ 1 ∧ isWordS (lowS s) = false) := by
  rcases isWordS_cases (lowS s) with ⟨y, h1, h2⟩ | ⟨h1, h2⟩
  · rw [wordsAt_low] at h1
    have hin := wordsAt_in s y (by rw [h1]; simp)
    have ht := wordsF_text s (s.size - 0) 0 y (by change y ∈ wordsAt s 0; rw [h1]; simp)
    by_cases hy : y.f = 0 ∧ y.u = s.size
    · have h3 : y.t = lowS s := by rw [ht, hy.1, hy.2, extract_all]
      exact .inl ⟨y, h1, by rw [h2, h3]; simp, hy.1, hy.2, h3⟩
    · refine .inr (.inl ⟨y, h1, ?_, by omega⟩)
      rw [h2]
      cases hb : y.t.toList == (lowS s).toList with
      | false => rfl
      | true =>
        exfalso
        have h4 := eq_of_beq hb
        rw [toList_data, toList_data, ht, lowS_list, lowS_list, extract_list] at h4
        have h5 := congrArg List.length h4
        simp only [List.length_map, List.length_take, List.length_drop, Array.length_toList] at h5
        have h6 : s.data.size = s.size := rfl
        omega
  · rw [wordsAt_low] at h1
    exact .inr (.inr ⟨h1, h2⟩)
end Go.Proofs.Ytfpcfpjnafnjiaa
