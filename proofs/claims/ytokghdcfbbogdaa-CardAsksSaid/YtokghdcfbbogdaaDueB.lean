/-
  WORDS FOR MEMORY: what the call owns, behind slices.SortStableFunc; the places of the due states as a list of numbers.
-/
import Derived.Test.YtokghdcfbbogdaaDueA
import Derived.Test.YtokghdcfbbogdaaPick
import Derived.Test.YtokghdcfbbogdaaLoads
namespace Go.Proofs.Ytokghdcfbbogdaa
open Go.RowKit Go.Shelf Go.Lib

section
variable {α : Type} [Inhabited α] {zf : α → Int}

theorem get_bang {d : Array α} {j : Nat} (h : j < d.toList.length) : d[j]! = d.toList[j] := by
  have h2 : j < d.size := by simpa using h
  rw [getElem!_pos d j h2]; simp

theorem own_holds {W : World} {base g cap n : Nat} {e : TypeId} {d : Array α} (h : W.ownsRow base e 1 (.slice (some ⟨g, 0, none⟩) n cap) n ((d.toList.map zf).map (Value.int .i64))) : Sort.Holds (encV zf) W g 0 d := by
  intro j hj
  have hlen : d.toList.length = n := by have := h.1; simpa using this
  have hj2 : j < d.toList.length := by simpa using hj
  rcases h.2 with ⟨hv, _⟩ | ⟨g', cap', cur, hv, _, hh, hnc, _, hsz, htake⟩
  · cases hv
  · injection hv with hA _ _
    injection hA with hA
    injection hA with hA _ _
    subst hA
    rw [Nat.zero_add]
    refine ⟨?_, ?_⟩
    · rw [cell_of_row W g j cur e (0, 0) hh]
      have : (cur.toList.take (n * 1))[j]? = ((d.toList.map zf).map (Value.int .i64))[j]? := by rw [htake]
      rw [List.getElem?_take_of_lt (by omega), List.getElem?_map, List.getElem?_map, List.getElem?_eq_getElem hj2] at this
      rw [get_bang hj2]
      simpa [encV] using this
    · simp [World.frozen?, hh]

theorem own_lt {W : World} {base g cap n : Nat} {e : TypeId} {xs : List Value} (h : W.ownsRow base e 1 (.slice (some ⟨g, 0, none⟩) n cap) n xs) : base ≤ g ∧ g < W.heap.size := by
  rcases h.2 with ⟨hv, _⟩ | ⟨g', cap', cur, hv, hb, hh, _⟩
  · cases hv
  · injection hv with hA _ _
    injection hA with hA
    injection hA with hA _ _
    subst hA
    refine ⟨hb, ?_⟩
    rcases Nat.lt_or_ge g W.heap.size with hlt | hge
    · exact hlt
    · rw [Array.getElem?_eq_none hge] at hh; cases hh

theorem sortWorld_heap {W : World} {g off n : Nat} {d : Array α} {os : Array Obj} {k : Nat} (hk : k < W.heap.size) : (sortWorld (encV zf) W g off n d os).heap[k]? = if g = k then (W.heap[k]?).map (Sort.onCells (Sort.putCells (encV zf) off d)) else W.heap[k]? := by
  unfold sortWorld Sort.grow Sort.putRow Sort.mapBlock Sort.ahead
  simp only [Array.getElem?_append, Array.size_modify, if_pos hk, Array.getElem?_modify]

theorem sw_below {W w' : World} {g off base : Nat} {d : Array α} (S : SW (encV zf) W g off d w') (hg : base ≤ g) (hb : base ≤ W.heap.size) : Below base W w' := by
  obtain ⟨n, os, rfl⟩ := S
  refine ⟨rfl, rfl, rfl, ?_, fun k hk => ?_⟩
  · unfold sortWorld Sort.grow Sort.putRow Sort.mapBlock Sort.ahead; simp
  · rw [sortWorld_heap (by omega), if_neg (by omega)]

theorem put_take {d : Array α} {cur : Array Value} {n : Nat} (hd : d.size = n) (hc : n ≤ cur.size) : (Sort.putCells (encV zf) 0 d cur).toList.take n = (d.toList.map zf).map (Value.int .i64) := by
  apply List.ext_getElem?
  intro j
  by_cases hj : j < n
  · have hj2 : j < d.toList.length := by simpa using (by omega : j < d.size)
    rw [List.getElem?_take_of_lt hj, List.getElem?_map, List.getElem?_map, List.getElem?_eq_getElem hj2]
    have hj3 : j < cur.size := by omega
    have hget : (Sort.putCells (encV zf) 0 d cur)[j]? = some (encV zf d[j]!) := by
      unfold Sort.putCells
      rw [Array.getElem?_mapIdx, Array.getElem?_eq_getElem hj3]
      simp only [Option.map_some]
      rw [if_pos ⟨Nat.zero_le _, by omega⟩]; rfl
    rw [Array.getElem?_toList, hget, get_bang hj2]
    rfl
  · rw [List.getElem?_eq_none (by rw [List.length_take]; omega), List.getElem?_eq_none (by simp; omega)]

/-- What the call owns is owned still behind a sort, and holds what the sort made. -/
theorem own_sorted {W w' : World} {base g cap n : Nat} {e : TypeId} {xs : List Value} {d : Array α} (h : W.ownsRow base e 1 (.slice (some ⟨g, 0, none⟩) n cap) n xs) (S : SW (encV zf) W g 0 d w') (hd : d.size = n) :
    w'.ownsRow base e 1 (.slice (some ⟨g, 0, none⟩) n cap) n ((d.toList.map zf).map (Value.int .i64)) := by
  have hlt := own_lt h
  refine ⟨by simp [hd], .inr ?_⟩
  rcases h.2 with ⟨hv, _⟩ | ⟨g', cap', cur, hv, hb, hh, hnc, hm, hsz, _⟩
  · cases hv
  · injection hv with hA _ hcap
    injection hA with hA
    injection hA with hA _ _
    subst hA
    subst hcap
    obtain ⟨m, os, rfl⟩ := S
    refine ⟨g, cap, Sort.putCells (encV zf) 0 d cur, rfl, hb, ?_, hnc, hm, ?_, ?_⟩
    · rw [sortWorld_heap hlt.2, if_pos rfl, hh]; rfl
    · unfold Sort.putCells; simpa using hsz
    · rw [Nat.mul_one]; exact put_take hd (by omega)
end

theorem pick_mem {p : St → Bool} {xs : List St} : ∀ (k : Nat) (z : Int), z ∈ pick p xs k → ∃ i : Nat, i < k ∧ i < xs.length ∧ z = (i : Int) := by
  intro k
  induction k with
  | zero => intro z hz; simp [pick] at hz
  | succ k ih =>
    intro z hz
    unfold pick at hz
    split at hz
    · obtain ⟨i, h1, h2⟩ := ih z hz; exact ⟨i, by omega, h2⟩
    · rename_i x hx
      have hk : k < xs.length := by
        rcases Nat.lt_or_ge k xs.length with h | h
        · exact h
        · rw [List.getElem?_eq_none h] at hx; cases hx
      split at hz
      · rcases List.mem_append.1 hz with hz | hz
        · obtain ⟨i, h1, h2⟩ := ih z hz; exact ⟨i, by omega, h2⟩
        · exact ⟨k, by omega, hk, by simpa using hz⟩
      · obtain ⟨i, h1, h2⟩ := ih z hz; exact ⟨i, by omega, h2⟩

/-- The picked places as places of the list. -/
def pickFin (p : St → Bool) (xs : List St) (h : 0 < xs.length) : Array (Fin xs.length) := ((pick p xs xs.length).map fun z => (⟨z.toNat % xs.length, Nat.mod_lt _ h⟩ : Fin xs.length)).toArray
def finZ {n : Nat} (i : Fin n) : Int := ((i.val : Nat) : Int)
theorem pickFin_val (p : St → Bool) (xs : List St) (h : 0 < xs.length) : (pickFin p xs h).toList.map finZ = pick p xs xs.length := by
  unfold pickFin finZ
  simp only [List.map_map]
  conv => rhs; rw [← List.map_id (pick p xs xs.length)]
  apply List.map_congr_left
  intro z hz
  obtain ⟨i, _, hi, rfl⟩ := pick_mem _ z hz
  simp [Nat.mod_eq_of_lt hi]

/-- The places of the due states, in the order in which they are asked. -/
def dueBy (xs : List St) (i j : Fin xs.length) : Int := byDue xs[i.val] xs[j.val]
def asked (d : Int) (x : St) : Bool := decide (0 ≤ x.du ∧ x.du ≤ d ∧ x.bu < d)
def dueList (xs : List St) (d : Int) : List Int :=
  if h : 0 < xs.length then
    (@stableF _ ⟨⟨0, h⟩⟩ (ltOf (dueBy xs)) (pickFin (asked d) xs h)).toList.map finZ
  else []
theorem dueList_len (xs : List St) (d : Int) : (dueList xs d).length = (pick (asked d) xs xs.length).length := by
  unfold dueList
  split
  · rename_i h
    have := @stableF_size _ ⟨⟨0, h⟩⟩ (ltOf (dueBy xs)) (pickFin (asked d) xs h)
    rw [List.length_map, Array.length_toList, this, ← pickFin_val _ _ h, List.length_map]; rfl
  · rename_i h
    rw [show xs.length = 0 by omega]; rfl
theorem dueList_mem {xs : List St} {d : Int} {z : Int} (hz : z ∈ dueList xs d) : ∃ i : Nat, i < xs.length ∧ z = (i : Int) := by
  unfold dueList at hz
  split at hz
  · obtain ⟨i, _, rfl⟩ := List.mem_map.1 hz
    exact ⟨i.val, i.isLt, rfl⟩
  · simp at hz
theorem dueList_le (xs : List St) (d : Int) : (dueList xs d).length ≤ xs.length := by rw [dueList_len]; exact pick_le _ _ _

end Go.Proofs.Ytokghdcfbbogdaa
