/-
  WALKS: slices.SortFunc at properties, on a row that the call owns.
-/
import Derived.Test.YtdncmjlakmkfiaaGreatDoorSrl
import Derived.Test.YtdncmjlakmkfiaaGreatDoorPzi
import Derived.Shelf.SlSortCmp.NoneTotal
set_option linter.all false
namespace Go.Proofs.YtdncmjlakmkfiaaGreatDoor
open Go.RowKit Go.Shelf

theorem cp_len (p : CP) : p.cells.length = 6 := rfl

theorem flatK_flatCP (d : Array CP) : (Sort.flatK CP.cells 6 d).toList = flatCP d.toList := by
  apply List.ext_getElem?
  intro t
  by_cases ht : t < d.size * 6
  · have h9 : t = t / 6 * 6 + t % 6 := by omega
    have hq : t / 6 < d.toList.length := by simp only [Array.length_toList]; omega
    have h1 := flatCP_get d.toList (t / 6) (t % 6) hq (by omega)
    rw [← h9] at h1
    rw [h1, List.getElem?_eq_getElem (by simpa using ht), List.getElem?_eq_getElem (by rw [cp_len]; omega)]
    have h2 := Sort.get_flatK CP.cells 6 d t ht
    rw [getElem!_pos _ t (by simpa using ht), getElem!_pos d (t / 6) (by simpa using hq), getElem!_pos _ (t % 6) (by rw [cp_len]; omega)] at h2
    simpa using h2
  · rw [List.getElem?_eq_none (by simpa using ht), List.getElem?_eq_none (by rw [flatCP_len]; simpa using ht)]

theorem ownK_holdsP {W : World} {base g c n : Nat} {d : Array CP} (h : OwnK 6 47 W base (.slice (some ⟨g, 0, none⟩) n c) n (flatCP d.toList)) : Sort.HoldsK CP.cells 6 W g 0 d := by
  intro j hj
  obtain ⟨hl, A, c', hv, h1, h2, h3⟩ := h
  rw [flatCP_len] at hl
  have hj2 : j < d.size * 6 := by simpa using hj
  rcases h3 with ⟨hA, _⟩ | ⟨g', cur, hA, hg, hb, h4, h5⟩
  · subst hA; injection hv with h _ _; cases h
  · subst hA
    injection hv with hA hn hc
    injection hA with hA
    injection hA with hA _ _
    subst hA
    rw [Nat.zero_add]
    refine ⟨?_, by simp [World.frozen?, hb]⟩
    rw [cell_of_row W g j cur _ (0, 0) hb]
    have h6 : (cur.toList.take (n * 6))[j]? = (Sort.flatK CP.cells 6 d).toList[j]? := by rw [h5, flatK_flatCP]
    have h7 : (Sort.flatK CP.cells 6 d).toList[j]? = some (Sort.flatK CP.cells 6 d)[j] := by rw [Array.getElem?_toList, Array.getElem?_eq_getElem hj]
    rw [List.getElem?_take_of_lt (by simp only [Array.length_toList] at hl; omega), h7] at h6
    rw [getElem!_pos _ j hj]
    simpa using h6

theorem sortP_heap {W : World} {g m : Nat} {d : Array CP} {os : Array Obj} {k : Nat} (hk : k < W.heap.size) : (sortWorldK CP.cells 6 W g 0 m d os).heap[k]? = if g = k then (W.heap[k]?).map (Sort.onCells (Sort.putCells id 0 (Sort.flatK CP.cells 6 d))) else W.heap[k]? := by
  unfold sortWorldK Sort.grow Sort.putRowK Sort.putRow Sort.mapBlock Sort.ahead
  simp only [Array.getElem?_append, Array.size_modify, if_pos hk, Array.getElem?_modify]

theorem sortP_grown {W : World} {g m : Nat} {d : Array CP} {os : Array Obj} : W.grownBy (sortWorldK CP.cells 6 W g 0 m d os) (some g) := by
  refine ⟨rfl, rfl, rfl, ?_, fun k hk hne => ?_⟩
  · unfold sortWorldK Sort.grow Sort.putRowK Sort.putRow Sort.mapBlock Sort.ahead; simp
  · rw [sortP_heap (by omega), if_neg (fun e => hne (by rw [e]))]

theorem put_takeP {F cur : Array Value} {n : Nat} (hd : F.size = n) (hc : n ≤ cur.size) : (Sort.putCells id 0 F cur).toList.take n = F.toList := by
  apply List.ext_getElem?
  intro j
  by_cases hj : j < n
  · rw [List.getElem?_take_of_lt hj, List.getElem?_eq_getElem (l := F.toList) (by simpa [hd] using hj)]
    have hj3 : j < cur.size := by omega
    have hget : (Sort.putCells id 0 F cur)[j]? = some F[j]! := by
      unfold Sort.putCells
      rw [Array.getElem?_mapIdx, Array.getElem?_eq_getElem hj3]
      simp only [Option.map_some]
      rw [if_pos ⟨Nat.zero_le _, by omega⟩]; rfl
    rw [Array.getElem?_toList, hget, getElem!_pos F j (by omega)]
    simp
  · rw [List.getElem?_eq_none (by rw [List.length_take]; omega), List.getElem?_eq_none (by simp; omega)]

theorem ownK_sortedP {W : World} {base g c n m : Nat} {xs : List Value} {d : Array CP} {os : Array Obj} (h : OwnK 6 47 W base (.slice (some ⟨g, 0, none⟩) n c) n xs) (hd : d.size = n) :
    OwnK 6 47 (sortWorldK CP.cells 6 W g 0 m d os) base (.slice (some ⟨g, 0, none⟩) n c) n (flatCP d.toList) := by
  have hlt := (h.lt g rfl).2
  obtain ⟨hl, A, c', hv, h1, h2, h3⟩ := h
  refine ⟨by rw [flatCP_len]; simp [hd], A, c', hv, h1, h2, ?_⟩
  rcases h3 with ⟨hA, _⟩ | ⟨g', cur, hA, hg, hb, h4, h5⟩
  · subst hA; injection hv with h _ _; cases h
  · subst hA
    injection hv with hA hn hc
    injection hA with hA
    injection hA with hA _ _
    subst hA
    have hF : (Sort.flatK CP.cells 6 d).size = n * 6 := by rw [Sort.size_flatK, hd]
    have hcn : n * 6 ≤ cur.size := Nat.le_trans (Nat.mul_le_mul_right _ h1) h4
    refine .inr ⟨g, Sort.putCells id 0 (Sort.flatK CP.cells 6 d) cur, rfl, hg, ?_, ?_, ?_⟩
    · rw [sortP_heap hlt, if_pos rfl, hb]; rfl
    · unfold Sort.putCells; simpa using h4
    · rw [put_takeP hF hcn, flatK_flatCP]

/-- The properties in the order of their names, as slices.SortFunc lays them. -/
def sortCP (xs : List CP) : List CP := (Sort.pdq (ltOf byN) xs.toArray 0 xs.length (Lib.bitLen xs.length) true true).toList

theorem sortCP_perm (xs : List CP) : Sort.PermIn 0 xs.length xs.toArray (Sort.pdq (ltOf byN) xs.toArray 0 xs.length (Lib.bitLen xs.length) true true) ∧ Sort.SortedIn (ltOf byN) 0 xs.length (Sort.pdq (ltOf byN) xs.toArray 0 xs.length (Lib.bitLen xs.length) true true) := by
  have h := Sort.pdq_sorts (ltOf byN) swo_byN xs.toArray 0 xs.toArray.size (Lib.bitLen xs.toArray.size) true true (Nat.zero_le _) (Nat.le_refl _) (Or.inl rfl)
  simpa using h

theorem sortCP_perm2 (xs : List CP) : (sortCP xs).Perm xs := by
  obtain ⟨h1, _, h3⟩ := (sortCP_perm xs).1
  unfold sortCP
  generalize Sort.pdq (ltOf byN) xs.toArray 0 xs.length (Lib.bitLen xs.length) true true = D at h1 h3 ⊢
  have hD : D.size = xs.length := by rw [h1]; simp
  rw [← hD, Array.extract_size] at h3
  have e2 : (xs.toArray.extract 0 D.size).toList = xs := by rw [hD]; simp
  rw [e2] at h3
  exact h3

theorem sortCP_sorted (xs : List CP) : (sortCP xs).Pairwise fun x y => ¬ byN y x < 0 := by
  have h := (sortCP_perm xs).2
  have hl : (sortCP xs).length = xs.length := (sortCP_perm2 xs).length_eq
  rw [List.pairwise_iff_getElem]
  intro i j hi hj hij
  have h2 := h i j (Nat.zero_le _) hij (by omega)
  rw [show ∀ a b, ltOf byN a b = decide (byN a b < 0) from fun _ _ => rfl] at h2
  simp only [decide_eq_false_iff_not] at h2
  unfold sortCP at hi hj ⊢
  rw [getElem!_pos _ j (by simpa using hj), getElem!_pos _ i (by simpa using hi)] at h2
  simpa using h2

theorem sortCP_nil : sortCP [] = [] := List.length_eq_zero_iff.1 (sortCP_perm2 []).length_eq

set_option maxRecDepth 100000 in
theorem sortRow_any (g0 : Nat) (eg : ∀ args w, (callFunc g0 args).run Tryz.prog w = .ok (.enter g0 args) w) (hcmp : ∀ (x y : CP) (W : World), Calls Tryz.prog g0 #[x.val, y.val] W fun e w' => e = .returned (.int .i64 (byN x y)) ∧ Grows W w')
    (base c : Nat) (A : Option Addr) (xs : List CP) (W : World) (h : Row6 W base (.slice A xs.length c) xs) (hn : xs.length ≤ 10000) :
    Calls Tryz.prog 92 #[.slice A xs.length c, .func (.func g0) #[] #[]] W fun e w' => e = .returned (.tuple #[]) ∧ W.grownBy w' (Value.slice A xs.length c).ownBlock ∧ Row6 w' base (.slice A xs.length c) (sortCP xs) := by
  have h0w := h
  obtain ⟨h, hins, hnms⟩ := h
  rcases Nat.eq_zero_or_pos xs.length with h0 | h0
  · obtain rfl : xs = [] := List.length_eq_zero_iff.1 h0
    refine (AnyF.slices_SortFunc_none (P := Tryz.prog) (ρ := Tryz.sortP_ren) Tryz.sortP A c (.func (.func g0) #[] #[]) W).mono ?_
    rintro e w' ⟨rfl, rfl⟩
    rw [sortCP_nil]
    exact ⟨rfl, ⟨rfl, rfl, rfl, Nat.le_refl _, fun _ _ _ => rfl⟩, h0w⟩
  · obtain ⟨g, rfl⟩ : ∃ g, A = some ⟨g, 0, none⟩ := by
      obtain ⟨_, A', c', hv, _, _, h3⟩ := h
      injection hv with e1 e2 e3
      subst e1
      rcases h3 with ⟨_, h4, _⟩ | ⟨g, _, h4, _⟩
      · omega
      · exact ⟨g, h4⟩
    have hlt := h.lt g rfl
    have hc : CmpLays Tryz.prog g0 #[] CP.cells 6 byN g 0 xs.length W := fun m os dk hdk x y => by
      exact hcmp x y _
    have hcon := AnyQ.slices_SortFunc_eq (P := Tryz.prog) (ρ := Tryz.sortP_ren) Tryz.sortP 6 Tryz.isAgg47 Tryz.sizeOf47 CP.cells (fun _ => rfl) (fun x v hv => by simp only [CP.cells, CVal.cells, List.mem_cons, List.not_mem_nil, or_false] at hv; rcases hv with rfl | rfl | rfl | rfl | rfl | rfl <;> rfl) byN swo_byN g0 #[] g 0 c xs.toArray W eg
      (by simpa using hc) (ownK_holdsP (by simpa using h)) hlt.2 (by simp; omega)
    have e1 : xs.toArray.size = xs.length := by simp
    rw [e1] at hcon
    refine hcon.mono ?_
    rintro e w' ⟨rfl, m, os, rfl⟩
    have hsz : (Sort.pdq (ltOf byN) xs.toArray 0 xs.length (Lib.bitLen xs.length) true true).size = xs.length := by
      have h1 := (sortCP_perm xs).1.1
      simpa using h1
    have hS := ownK_sortedP (m := m) (os := os) h hsz
    have hln := (sortCP_perm2 xs).length_eq
    refine ⟨rfl, sortP_grown, h0w.grown sortP_grown (.inl rfl) (by rw [hln]; exact hS) (fun p hp => (sortCP_perm2 xs).mem_iff.1 hp)⟩

end Go.Proofs.YtdncmjlakmkfiaaGreatDoor
