/-
  ROWS OF ELEMENTS OF K CELLS THAT THE CALL OWNS, AND THE WORLDS OF A SORT: any element type, any way of laying it.
-/
import Derived.Test.YtfpcfpjnafnjiaaOwnK
import Derived.Shelf.SlSortCmp.KitK
set_option linter.all false
namespace Go.Proofs.Ytfpcfpjnafnjiaa
open Go.RowKit Go.Shelf

section
variable {α : Type} [Inhabited α] {enc : α → List Value} {K : Nat}
omit [Inhabited α] in
theorem flatE_len (hk : ∀ x, (enc x).length = K) : ∀ l : List α, (l.flatMap enc).length = l.length * K
  | [] => by simp
  | a :: l => by rw [List.flatMap_cons, List.length_append, hk, flatE_len hk l, List.length_cons, Nat.add_mul]; omega
omit [Inhabited α] in
theorem flatE_get (hk : ∀ x, (enc x).length = K) : ∀ (l : List α) (j i : Nat) (h : j < l.length), i < K → (l.flatMap enc)[j * K + i]? = (enc l[j])[i]?
  | a :: l, 0, i, _, hi => by
    rw [List.flatMap_cons, List.getElem?_append_left (by rw [hk]; omega)]
    simp
  | a :: l, j + 1, i, h, hi => by
    rw [List.flatMap_cons, List.getElem?_append_right (by rw [hk, Nat.add_mul]; omega)]
    rw [show (j + 1) * K + i - (enc a).length = j * K + i by rw [hk, Nat.add_mul]; omega]
    exact flatE_get hk l j i (by simpa using h) hi
theorem flatK_flatE (hk : ∀ x, (enc x).length = K) (d : Array α) : (Sort.flatK enc K d).toList = d.toList.flatMap enc := by
  apply List.ext_getElem?
  intro t
  by_cases ht : t < d.size * K
  · have hK : 0 < K := by
      rcases Nat.eq_zero_or_pos K with h | h
      · rw [h, Nat.mul_zero] at ht; omega
      · exact h
    have hm : t % K < K := Nat.mod_lt _ hK
    have hq : t / K < d.toList.length := by
      rw [Array.length_toList]
      exact Nat.div_lt_of_lt_mul (by rw [Nat.mul_comm]; exact ht)
    have h9 : t / K * K + t % K = t := by rw [Nat.mul_comm]; exact Nat.div_add_mod t K
    have h1 := flatE_get hk d.toList (t / K) (t % K) hq hm
    rw [h9] at h1
    rw [h1, List.getElem?_eq_getElem (by simpa using ht), List.getElem?_eq_getElem (by rw [hk]; exact hm)]
    have h2 := Sort.get_flatK enc K d t ht
    rw [getElem!_pos _ t (by simpa using ht), getElem!_pos d (t / K) (by simpa using hq), getElem!_pos _ (t % K) (by rw [hk]; exact hm)] at h2
    simpa using h2
  · rw [List.getElem?_eq_none (by simpa using ht), List.getElem?_eq_none (by rw [flatE_len hk]; simpa using ht)]

theorem ownE_holds {t : TypeId} {W : World} {base g c n : Nat} {d : Array α} (hk : ∀ x, (enc x).length = K) (h : OwnK K t W base (.slice (some ⟨g, 0, none⟩) n c) n (d.toList.flatMap enc)) : Sort.HoldsK enc K W g 0 d := by
  intro j hj
  obtain ⟨hl, A, c', hv, h1, h2, h3⟩ := h
  rw [flatE_len hk] at hl
  have hj2 : j < d.size * K := by simpa using hj
  rcases h3 with ⟨hA, _⟩ | ⟨g', cur, hA, hg, hb, h4, h5⟩
  · subst hA; injection hv with h _ _; cases h
  · subst hA
    injection hv with hA hn hc
    injection hA with hA
    injection hA with hA _ _
    subst hA
    rw [Nat.zero_add]
    refine ⟨?_, by simp [World.frozen?, hb]⟩
    rw [cell_of_row W g j cur _ (0, 0) hb]
    have h6 : (cur.toList.take (n * K))[j]? = (Sort.flatK enc K d).toList[j]? := by rw [h5, flatK_flatE hk]
    have h7 : (Sort.flatK enc K d).toList[j]? = some (Sort.flatK enc K d)[j] := by rw [Array.getElem?_toList, Array.getElem?_eq_getElem hj]
    rw [List.getElem?_take_of_lt (by simp only [Array.length_toList] at hl; omega), h7] at h6
    rw [getElem!_pos _ j hj]
    simpa using h6

theorem sortE_heap {W : World} {g m : Nat} {d : Array α} {os : Array Obj} {k : Nat} (hk : k < W.heap.size) : (sortWorldK enc K W g 0 m d os).heap[k]? = if g = k then (W.heap[k]?).map (Sort.onCells (Sort.putCells id 0 (Sort.flatK enc K d))) else W.heap[k]? := by
  unfold sortWorldK Sort.grow Sort.putRowK Sort.putRow Sort.mapBlock Sort.ahead
  simp only [Array.getElem?_append, Array.size_modify, if_pos hk, Array.getElem?_modify]

theorem sortE_grown {W : World} {g m : Nat} {d : Array α} {os : Array Obj} : W.grownBy (sortWorldK enc K W g 0 m d os) (some g) := by
  refine ⟨rfl, rfl, rfl, ?_, fun k hk hne => ?_⟩
  · unfold sortWorldK Sort.grow Sort.putRowK Sort.putRow Sort.mapBlock Sort.ahead; simp
  · rw [sortE_heap (by omega), if_neg (fun e => hne (by rw [e]))]

theorem put_takeE {F cur : Array Value} {n : Nat} (hd : F.size = n) (hc : n ≤ cur.size) : (Sort.putCells id 0 F cur).toList.take n = F.toList := by
  apply List.ext_getElem?
  intro j
  by_cases hj : j < n
  · rw [List.getElem?_take_of_lt hj, List.getElem?_eq_getElem (l := F.toList) (by simpa [hd] using hj)]
    have hj3 : j < cur.size := by omega
    have hget : (Sort.putCells id 0 F cur)[j]? = some F[j]! := by
      unfold Sort.putCells
      rw [Array.getElem?_mapIdx, Array.getElem?_eq_getElem hj3]
      simp only [Option.map_some]
      rw [if_pos ⟨Nat.zero_le _, by omega⟩]; rfl
    rw [Array.getElem?_toList, hget, getElem!_pos F j (by omega)]
    simp
  · rw [List.getElem?_eq_none (by rw [List.length_take]; omega), List.getElem?_eq_none (by simp; omega)]

theorem ownE_sorted {t : TypeId} {W : World} {base g c n m : Nat} {xs : List Value} {d : Array α} {os : Array Obj} (hk : ∀ x, (enc x).length = K) (h : OwnK K t W base (.slice (some ⟨g, 0, none⟩) n c) n xs) (hd : d.size = n) :
    OwnK K t (sortWorldK enc K W g 0 m d os) base (.slice (some ⟨g, 0, none⟩) n c) n (d.toList.flatMap enc) := by
  have hlt := (h.lt g rfl).2
  obtain ⟨hl, A, c', hv, h1, h2, h3⟩ := h
  refine ⟨by rw [flatE_len hk]; simp [hd], A, c', hv, h1, h2, ?_⟩
  rcases h3 with ⟨hA, _⟩ | ⟨g', cur, hA, hg, hb, h4, h5⟩
  · subst hA; injection hv with h _ _; cases h
  · subst hA
    injection hv with hA hn hc
    injection hA with hA
    injection hA with hA _ _
    subst hA
    have hF : (Sort.flatK enc K d).size = n * K := by rw [Sort.size_flatK, hd]
    have hcn : n * K ≤ cur.size := Nat.le_trans (Nat.mul_le_mul_right _ h1) h4
    refine .inr ⟨g, Sort.putCells id 0 (Sort.flatK enc K d) cur, rfl, hg, ?_, ?_, ?_⟩
    · rw [sortE_heap hlt, if_pos rfl, hb]; rfl
    · unfold Sort.putCells; simpa using h4
    · rw [put_takeE hF hcn, flatK_flatE hk]
end

end Go.Proofs.Ytfpcfpjnafnjiaa
