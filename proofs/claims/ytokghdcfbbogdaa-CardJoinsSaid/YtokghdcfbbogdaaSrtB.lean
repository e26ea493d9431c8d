/-
  WALKS: slices.SortFunc at states, on a row that the call owns.
-/
import Derived.Test.YtokghdcfbbogdaaSrtA
import Derived.Test.YtokghdcfbbogdaaDueD
import Derived.Shelf.SlSortCmp.NoneTotal
namespace Go.Proofs.Ytokghdcfbbogdaa
open Go.RowKit Go.Shelf

theorem flatK_flat (d : Array St) : (Sort.flatK stCells 9 d).toList = flat d.toList := by
  apply List.ext_getElem?
  intro t
  by_cases ht : t < d.size * 9
  · have h9 : t = t / 9 * 9 + t % 9 := by omega
    have hq : t / 9 < d.toList.length := by simp only [Array.length_toList]; omega
    have h1 := flat_get d.toList (t / 9) (t % 9) hq (by omega)
    rw [← h9] at h1
    rw [h1, List.getElem?_eq_getElem (by simpa using ht), List.getElem?_eq_getElem (by simp [stCells]; omega)]
    have h2 := Sort.get_flatK stCells 9 d t ht
    rw [getElem!_pos _ t (by simpa using ht), getElem!_pos d (t / 9) (by simpa using hq), getElem!_pos _ (t % 9) (by simp [stCells]; omega)] at h2
    simpa using h2
  · rw [List.getElem?_eq_none (by simpa using ht), List.getElem?_eq_none (by rw [flat_len]; simpa using ht)]

theorem ownK_holds {W : World} {base g c n : Nat} {d : Array St} (h : OwnK 9 24 W base (.slice (some ⟨g, 0, none⟩) n c) n (flat d.toList)) : Sort.HoldsK stCells 9 W g 0 d := by
  intro j hj
  obtain ⟨hl, A, c', hv, h1, h2, h3⟩ := h
  rw [flat_len] at hl
  have hj2 : j < d.size * 9 := by simpa using hj
  rcases h3 with ⟨hA, _⟩ | ⟨g', cur, hA, hg, hb, h4, h5⟩
  · subst hA; injection hv with h _ _; cases h
  · subst hA
    injection hv with hA hn hc
    injection hA with hA
    injection hA with hA _ _
    subst hA
    rw [Nat.zero_add]
    refine ⟨?_, by simp [World.frozen?, hb]⟩
    rw [cell_of_row W g j cur _ (0, 0) hb]
    have h6 : (cur.toList.take (n * 9))[j]? = (Sort.flatK stCells 9 d).toList[j]? := by rw [h5, flatK_flat]
    have h7 : (Sort.flatK stCells 9 d).toList[j]? = some (Sort.flatK stCells 9 d)[j] := by rw [Array.getElem?_toList, Array.getElem?_eq_getElem hj]
    rw [List.getElem?_take_of_lt (by simp only [Array.length_toList] at hl; omega), h7] at h6
    rw [getElem!_pos _ j hj]
    simpa using h6

theorem sortWorldK_heap {W : World} {g m : Nat} {d : Array St} {os : Array Obj} {k : Nat} (hk : k < W.heap.size) : (sortWorldK stCells 9 W g 0 m d os).heap[k]? = if g = k then (W.heap[k]?).map (Sort.onCells (Sort.putCells id 0 (Sort.flatK stCells 9 d))) else W.heap[k]? := by
  unfold sortWorldK Sort.grow Sort.putRowK Sort.putRow Sort.mapBlock Sort.ahead
  simp only [Array.getElem?_append, Array.size_modify, if_pos hk, Array.getElem?_modify]

theorem sortWorldK_below {W : World} {g m base : Nat} {d : Array St} {os : Array Obj} (hg : base ≤ g) (hb : base ≤ W.heap.size) : Below base W (sortWorldK stCells 9 W g 0 m d os) := by
  refine ⟨rfl, rfl, rfl, ?_, fun k hk => ?_⟩
  · unfold sortWorldK Sort.grow Sort.putRowK Sort.putRow Sort.mapBlock Sort.ahead; simp
  · rw [sortWorldK_heap (by omega), if_neg (by omega)]

theorem put_takeK {F cur : Array Value} {n : Nat} (hd : F.size = n) (hc : n ≤ cur.size) : (Sort.putCells id 0 F cur).toList.take n = F.toList := by
  apply List.ext_getElem?
  intro j
  by_cases hj : j < n
  · rw [List.getElem?_take_of_lt hj, List.getElem?_eq_getElem (l := F.toList) (by simpa [hd] using hj)]
    have hj3 : j < cur.size := by omega
    have hget : (Sort.putCells id 0 F cur)[j]? = some F[j]! := by
      unfold Sort.putCells
      rw [Array.getElem?_mapIdx, Array.getElem?_eq_getElem hj3]
      simp only [Option.map_some]
      rw [if_pos ⟨Nat.zero_le _, by omega⟩]; rfl
    rw [Array.getElem?_toList, hget, getElem!_pos F j (by omega)]
    simp
  · rw [List.getElem?_eq_none (by rw [List.length_take]; omega), List.getElem?_eq_none (by simp; omega)]

theorem ownK_sorted {W : World} {base g c n m : Nat} {xs : List Value} {d : Array St} {os : Array Obj} (h : OwnK 9 24 W base (.slice (some ⟨g, 0, none⟩) n c) n xs) (hd : d.size = n) :
    OwnK 9 24 (sortWorldK stCells 9 W g 0 m d os) base (.slice (some ⟨g, 0, none⟩) n c) n (flat d.toList) := by
  have hlt := (h.lt g rfl).2
  obtain ⟨hl, A, c', hv, h1, h2, h3⟩ := h
  refine ⟨by rw [flat_len]; simp [hd], A, c', hv, h1, h2, ?_⟩
  rcases h3 with ⟨hA, _⟩ | ⟨g', cur, hA, hg, hb, h4, h5⟩
  · subst hA; injection hv with h _ _; cases h
  · subst hA
    injection hv with hA hn hc
    injection hA with hA
    injection hA with hA _ _
    subst hA
    have hF : (Sort.flatK stCells 9 d).size = n * 9 := by rw [Sort.size_flatK, hd]
    have hcn : n * 9 ≤ cur.size := Nat.le_trans (Nat.mul_le_mul_right _ h1) h4
    refine .inr ⟨g, Sort.putCells id 0 (Sort.flatK stCells 9 d) cur, rfl, hg, ?_, ?_, ?_⟩
    · rw [sortWorldK_heap hlt, if_pos rfl, hb]; rfl
    · unfold Sort.putCells; simpa using h4
    · rw [put_takeK hF hcn, flatK_flat]

/-- The states in the order of their names, as slices.SortFunc lays them. -/
def sortSt (xs : List St) : List St := (Sort.pdq (ltOf byName) xs.toArray 0 xs.length (Lib.bitLen xs.length) true true).toList
theorem sortSt_perm (xs : List St) : Sort.PermIn 0 xs.length xs.toArray (Sort.pdq (ltOf byName) xs.toArray 0 xs.length (Lib.bitLen xs.length) true true) ∧ Sort.SortedIn (ltOf byName) 0 xs.length (Sort.pdq (ltOf byName) xs.toArray 0 xs.length (Lib.bitLen xs.length) true true) := by
  have h := Sort.pdq_sorts (ltOf byName) swo_byName xs.toArray 0 xs.toArray.size (Lib.bitLen xs.toArray.size) true true (Nat.zero_le _) (Nat.le_refl _) (Or.inl rfl)
  simpa using h

set_option maxRecDepth 100000 in
theorem sortSts_any (g0 : Nat) (eg : ∀ args w, (callFunc g0 args).run Try.prog w = .ok (.enter g0 args) w) (hcmp : ∀ (x y : St) (W : World), Calls Try.prog g0 #[x.val, y.val] W fun e w' => e = .returned (.int .i64 (byName x y)) ∧ Grows W w')
    (base c n : Nat) (A : Option Addr) (xs : List St) (W : World) (h : OwnK 9 24 W base (.slice A n c) n (flat xs)) (hn : n ≤ 10000) (hbW : base ≤ W.heap.size) :
    Calls Try.prog 78 #[.slice A n c, .func (.func g0) #[] #[]] W fun e w' => e = .returned (.tuple #[]) ∧ Below base W w' ∧ OwnK 9 24 w' base (.slice A n c) n (flat (sortSt xs)) ∧ (∀ k, some k ≠ (Value.slice A n c).ownBlock → k < W.heap.size → w'.heap[k]? = W.heap[k]?) := by
  have hxl : xs.length = n := by have := h.1; rw [flat_len] at this; omega
  rcases Nat.eq_zero_or_pos n with h0 | h0
  · subst h0
    obtain rfl : xs = [] := List.length_eq_zero_iff.1 hxl
    have hs : sortSt [] = [] := by
      have h1 := (sortSt_perm []).1.1
      have h2 : (sortSt []).length = 0 := by unfold sortSt; rw [Array.length_toList, h1]; rfl
      exact List.length_eq_zero_iff.1 h2
    refine (AnyF.slices_SortFunc_none (P := Try.prog) (ρ := Try.sortSt_ren) Try.sortSt A c (.func (.func g0) #[] #[]) W).mono ?_
    rintro e w' ⟨rfl, rfl⟩
    rw [hs]
    exact ⟨rfl, Below.refl _ _, h, fun _ _ _ => rfl⟩
  · obtain ⟨g, rfl⟩ : ∃ g, A = some ⟨g, 0, none⟩ := by
      obtain ⟨_, A', c', hv, _, _, h3⟩ := h
      injection hv with e1 e2 e3
      subst e1
      rcases h3 with ⟨_, h4, _⟩ | ⟨g, _, h4, _⟩
      · omega
      · exact ⟨g, h4⟩
    have hlt := h.lt g rfl
    have hc : CmpLays Try.prog g0 #[] stCells 9 byName g 0 n W := fun m os dk hdk x y => by
      exact hcmp x y _
    have hcon := AnyQ.slices_SortFunc_eq (P := Try.prog) (ρ := Try.sortSt_ren) Try.sortSt 9 Try.isAgg24 Try.sizeOf24 stCells (fun _ => rfl) (fun x v hv => by simp only [stCells, List.mem_cons, List.not_mem_nil, or_false] at hv; rcases hv with rfl | rfl | rfl | rfl | rfl | rfl | rfl | rfl | rfl <;> rfl) byName swo_byName g0 #[] g 0 c xs.toArray W eg
      (by simpa [hxl] using hc) (ownK_holds (by simpa using h)) hlt.2 (by simp; omega)
    have e1 : xs.toArray.size = n := by simp [hxl]
    rw [e1] at hcon
    refine hcon.mono ?_
    rintro e w' ⟨rfl, m, os, rfl⟩
    have hsz : (Sort.pdq (ltOf byName) xs.toArray 0 n (Lib.bitLen n) true true).size = n := by
      have h1 := (sortSt_perm xs).1.1
      rw [hxl] at h1
      simpa [hxl] using h1
    have hS := ownK_sorted (m := m) (os := os) h hsz
    have e2 : sortSt xs = (Sort.pdq (ltOf byName) xs.toArray 0 n (Lib.bitLen n) true true).toList := by unfold sortSt; rw [hxl]
    rw [e2]
    refine ⟨rfl, sortWorldK_below hlt.1 hbW, hS, fun k hk hkl => ?_⟩
    rw [sortWorldK_heap hkl, if_neg (fun e => hk (by simp [Value.ownBlock, e]))]

end Go.Proofs.Ytokghdcfbbogdaa
