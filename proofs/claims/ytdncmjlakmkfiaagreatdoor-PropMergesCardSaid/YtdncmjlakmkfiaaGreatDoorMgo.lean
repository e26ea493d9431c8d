/-
  PLAIN: a sorted list without its doubles: its members rise.
-/
import Derived.Test.YtdncmjlakmkfiaaGreatDoorMgl
import Derived.Test.YtdncmjlakmkfiaaGreatDoorMgn
set_option linter.all false
namespace Go.Proofs.YtdncmjlakmkfiaaGreatDoor
open Go.RowKit Go.Lib

theorem compactUp_is {d : Array (List UInt8)} : ∀ (m : Nat), (∀ i j, i ≤ j → j < m → d[i]! ≤ d[j]!) → (compactUpTo d m).Pairwise (fun x y => x < y) ∧ (∀ x ∈ compactUpTo d m, ∃ j, j < m ∧ d[j]! = x) ∧ ∀ j, j < m → d[j]! ∈ compactUpTo d m
  | 0, _ => ⟨by simp [compactUpTo], fun x hx => by simp [compactUpTo] at hx, fun j hj => by omega⟩
  | m + 1, h => by
    obtain ⟨h1, h2, h3⟩ := compactUp_is m (fun i j hi hj => h i j hi (by omega))
    rw [compactUpTo_succ]
    by_cases hk : keeps d m = true
    · rw [if_pos hk]
      refine ⟨?_, fun x hx => ?_, fun j hj => ?_⟩
      · rw [List.pairwise_append]
        refine ⟨h1, List.pairwise_singleton .., fun a ha b hb => ?_⟩
        rw [List.mem_singleton.1 hb]
        obtain ⟨j, hj, rfl⟩ := h2 a ha
        have hk2 : m = 0 ∨ d[m]! ≠ d[m - 1]! := by simpa [keeps] using hk
        rcases hk2 with rfl | hne
        · omega
        · have e1 := h j (m - 1) (by omega) (by omega)
          have e2 := h (m - 1) m (by omega) (by omega)
          have e3 : d[m - 1]! < d[m]! := List.not_le.1 fun h9 => hne (List.le_antisymm h9 e2)
          exact List.lt_of_le_of_lt e1 e3
      · rcases List.mem_append.1 hx with hx | hx
        · obtain ⟨j, hj, e⟩ := h2 x hx
          exact ⟨j, by omega, e⟩
        · exact ⟨m, by omega, (List.mem_singleton.1 hx).symm⟩
      · rw [List.mem_append]
        rcases Nat.lt_or_ge j m with hj2 | hj2
        · exact .inl (h3 j hj2)
        · obtain rfl : j = m := by omega
          exact .inr (List.mem_singleton.2 rfl)
    · rw [if_neg hk, List.append_nil]
      have hk2 : ¬ (m = 0 ∨ d[m]! ≠ d[m - 1]!) := by simpa [keeps] using hk
      have hm : m ≠ 0 := fun e => hk2 (.inl e)
      have he : d[m]! = d[m - 1]! := Classical.not_not.1 fun e => hk2 (.inr e)
      refine ⟨h1, fun x hx => ?_, fun j hj => ?_⟩
      · obtain ⟨j, hj, e⟩ := h2 x hx
        exact ⟨j, by omega, e⟩
      · rcases Nat.lt_or_ge j m with hj2 | hj2
        · exact h3 j hj2
        · obtain rfl : j = m := by omega
          rw [he]
          exact h3 (j - 1) (by omega)

theorem compact_is {zs : List (List UInt8)} (hs : zs.Pairwise (fun x y => x ≤ y)) : (compact zs).Pairwise (fun x y => x < y) ∧ ∀ x, x ∈ compact zs ↔ x ∈ zs := by
  have hget : ∀ i (h : i < zs.length), zs.toArray[i]! = zs[i] := fun i h => by
    rw [getElem!_pos zs.toArray i (by simpa using h)]
    simp
  obtain ⟨h1, h2, h3⟩ := compactUp_is (d := zs.toArray) zs.length (fun i j hi hj => by
    rw [hget i (by omega), hget j hj]
    rcases Nat.lt_or_ge i j with h | h
    · exact (List.pairwise_iff_getElem.1 hs) i j (by omega) hj h
    · obtain rfl : i = j := by omega
      exact List.le_refl _)
  refine ⟨h1, fun x => ⟨fun hx => ?_, fun hx => ?_⟩⟩
  · obtain ⟨j, hj, rfl⟩ := h2 x hx
    rw [hget j hj]
    exact List.getElem_mem hj
  · obtain ⟨j, hj, rfl⟩ := List.getElem_of_mem hx
    rw [← hget j hj]
    exact h3 j hj

/-- The names of a list, sorted, each once: they rise. -/
theorem rise_compact (ss : List (List UInt8)) : Rise ((compact (srt ss)).map bStr) ∧ ∀ x, x ∈ (compact (srt ss)).map bStr ↔ x.data.toList ∈ ss := by
  obtain ⟨h1, h2⟩ := compact_is (sorted_le ss)
  have hp := List.mergeSort_perm ss (fun x y => decide (x ≤ y))
  refine ⟨rise_sorted (h1.imp fun {a b} h e => ?_) (h1.imp fun {a b} h => List.le_of_lt h), fun x => ?_⟩
  · subst e; exact List.lt_irrefl _ h
  · rw [List.mem_map]
    constructor
    · rintro ⟨y, hy, rfl⟩
      rw [bStr_data]
      exact hp.mem_iff.1 ((h2 y).1 hy)
    · intro h
      exact ⟨x.data.toList, (h2 _).2 (hp.mem_iff.2 h), by simp [bStr]⟩

end Go.Proofs.YtdncmjlakmkfiaaGreatDoor
