/-
  PLAIN: values as they lie, each with its place; what a fold keeps; a sum and its mean.
-/
import Derived.Test.YtfnooipkghfmoaaDoorFdb
import Derived.Test.YtfnooipkghfmoaaDoorRow
import Derived.Test.YtfnooipkghfmoaaDoorPpa
set_option linter.all false
namespace Go.Proofs.YtfnooipkghfmoaaDoor
open Go.RowKit Go.Lib

theorem VIn.of_at {w : World} : ∀ (v : V) (b o : Nat), VAt w v b o → VIn w (fun b => b < w.heap.size) v b o
  | .mk k i t s l, b, o, h => by
    rw [VAt] at h
    rw [VIn]
    obtain ⟨h0, h1, h2, h3, A, c, h4, h5, h6⟩ := h
    refine ⟨h0, h1, h2, h3, A, c, h4, h5, fun hl => ?_⟩
    obtain ⟨b', o', hA, hb', hj⟩ := h6 hl
    exact ⟨b', o', hA, hb', fun j h => VIn.of_at l[j] b' _ (hj j h)⟩
termination_by v => SizeOf.sizeOf v
decreasing_by
  have := List.sizeOf_lt_of_mem (List.getElem_mem h)
  simp only [V.mk.sizeOf_spec]
  omega
theorem LIn.of_at {w : World} {A : Option Addr} {l : List V} (h : LAt w A l) : LIn w (fun b => b < w.heap.size) A l :=
  ⟨h.1, fun hl => by
    obtain ⟨b', o', hA, hb', hj⟩ := h.2 hl
    exact ⟨b', o', hA, hb', fun j h => VIn.of_at l[j] b' _ (hj j h)⟩⟩

/-- A list of values as it comes in, each value with the place of its items. -/
theorem LAt.in0 {w0 : World} {A : Option Addr} {ls : List V} (h : LAt w0 A ls) : ∃ zs : List (In0 w0), zs.map In0.v = ls ∧ VsC w0 A zs := by
  by_cases hl : 0 < ls.length
  · obtain ⟨b, o, hA, hb, hv⟩ := h.2 hl
    obtain ⟨zs, hzl, hz⟩ := list_of (Q := fun j (q : In0 w0) => ∃ hj : j < ls.length, q.v = ls[j] ∧ ∀ i, i < 5 → w0.cell? ⟨b, o + j * 5 + i, none⟩ = q.cells[i]?) ls.length (fun j hj => by
      obtain ⟨c0, c1, c2, c3, A2, e2, c4, hL2⟩ := VAt_iff.1 (hv j hj)
      refine ⟨⟨⟨ls[j], A2, e2⟩, LIn.of_at hL2⟩, hj, rfl, fun i hi => ?_⟩
      have h5 : i = 0 ∨ i = 1 ∨ i = 2 ∨ i = 3 ∨ i = 4 := by omega
      rcases h5 with rfl | rfl | rfl | rfl | rfl
      · exact c0
      · exact c1
      · exact c2
      · exact c3
      · exact c4)
    refine ⟨zs, List.ext_getElem (by rw [List.length_map, hzl]) (fun j h1 h2 => ?_), ⟨by rw [hzl]; exact h.1, fun _ => ⟨b, o, hA, hb, fun j hj => ?_⟩⟩⟩
    · rw [List.getElem_map]
      obtain ⟨_, h3, _⟩ := hz j (by simpa using h1)
      exact h3
    · obtain ⟨_, _, h3⟩ := hz j hj
      exact h3
  · obtain rfl : ls = [] := List.length_eq_zero_iff.1 (by omega)
    exact ⟨[], rfl, ⟨by simp [maxLen], fun h => absurd h (by simp)⟩⟩

section
variable {w0 : World}
/-- What is wrong with the j-th value. -/
def errZ (zs : List (In0 w0)) (j : Nat) : Int := match zs[j]? with
  | some q => q.v.err
  | none => 0
theorem errZ_at {zs : List (In0 w0)} {j : Nat} (h : j < zs.length) : errZ zs j = zs[j].v.err := by
  unfold errZ
  rw [List.getElem?_eq_getElem h]
def isSome (q : In0 w0) : Bool := q.v.k != 0
/-- The values that are not None. -/
def keptZ (zs : List (In0 w0)) : List (In0 w0) := zs.filter isSome
theorem keptZ_snoc (zs : List (In0 w0)) (q : In0 w0) : keptZ (zs ++ [q]) = if isSome q then keptZ zs ++ [q] else keptZ zs := by
  unfold keptZ
  rw [List.filter_append]
  cases h : isSome q <;> simp [h]
theorem keptZ_take {zs : List (In0 w0)} {j : Nat} (h : j < zs.length) : keptZ (zs.take (j + 1)) = if isSome zs[j] then keptZ (zs.take j) ++ [zs[j]] else keptZ (zs.take j) := by
  rw [List.take_succ_eq_append_getElem h, keptZ_snoc]
theorem keptZ_len (zs : List (In0 w0)) : (keptZ zs).length ≤ zs.length := List.length_filter_le _ _
theorem V.num_in {v : V} (h : v.err = 0) (h2 : v.k = 2) : -1000000000 ≤ v.i ∧ v.i ≤ 1000000000 := by
  unfold V.err at h
  have hs : v.selfErr = 0 := by
    by_cases hs : v.selfErr = 0
    · exact hs
    · rw [if_pos hs] at h
      exact h
  have hn : v.numErr = 0 := by
    by_cases hn : v.numErr = 0
    · exact hn
    · unfold V.selfErr at hs
      rw [if_neg (by omega)] at hs
      split at hs
      · cases hs
      · exact hs
  unfold V.numErr at hn
  rw [if_neg (by omega), if_pos h2] at hn
  split at hn
  · cases hn
  · omega
/-- The numbers among right values are in their range. -/
theorem numsIn_of {zs : List (In0 w0)} (h : ∀ j, j < zs.length → errZ zs j = 0) : NumsIn (keptZ zs) := by
  intro q hq hn
  obtain ⟨j, hj, rfl⟩ := List.mem_iff_getElem.1 (List.mem_filter.1 hq).1
  have h1 := h j hj
  rw [errZ_at hj] at h1
  exact V.num_in h1 (by simpa [isNum] using hn)
/-- What a fold says. -/
def foldAll (how : Int) (zs : List (In0 w0)) : V × Int :=
  if how < 1 ∨ 6 < how then (zeroV, 10) else if 5000 < zs.length then (zeroV, 4) else if firstErr (errZ zs) zs.length ≠ 0 then (zeroV, firstErr (errZ zs) zs.length) else foldR how (keptZ zs)
theorem foldAll_how {how : Int} {zs : List (In0 w0)} (h : how < 1 ∨ 6 < how) : foldAll how zs = (zeroV, 10) := if_pos h
theorem foldAll_long {how : Int} {zs : List (In0 w0)} (h : ¬ (how < 1 ∨ 6 < how)) (hl : 5000 < zs.length) : foldAll how zs = (zeroV, 4) := by
  unfold foldAll
  rw [if_neg h, if_pos hl]
theorem foldAll_err {how : Int} {zs : List (In0 w0)} (h : ¬ (how < 1 ∨ 6 < how)) (hl : ¬ 5000 < zs.length) {k : Nat} (hk : k < zs.length) (h0 : ∀ j, j < k → errZ zs j = 0) (hne : errZ zs k ≠ 0) : foldAll how zs = (zeroV, errZ zs k) := by
  unfold foldAll
  rw [if_neg h, if_neg hl, firstErr_first h0 hne hk, if_pos hne]
theorem foldAll_ok {how : Int} {zs : List (In0 w0)} (h : ¬ (how < 1 ∨ 6 < how)) (hl : ¬ 5000 < zs.length) (h0 : ∀ j, j < zs.length → errZ zs j = 0) : foldAll how zs = foldR how (keptZ zs) := by
  unfold foldAll
  rw [if_neg h, if_neg hl, firstErr_none h0, if_neg (by decide)]
end

theorem tdiv_floor (a b : Int) (h : 0 < b) : (if a.tmod b < 0 then a.tdiv b - 1 else a.tdiv b) = a / b := by
  have h1 := Int.mul_tdiv_add_tmod a b
  have h2 := Int.tmod_lt_of_pos a h
  have h3 : -b < a.tmod b := by
    have := Int.lt_tmod_of_pos a h
    omega
  generalize a.tdiv b = q at *
  generalize a.tmod b = r at *
  split
  · exact ((Int.ediv_emod_unique h (r := r + b) (q := q - 1)).2 ⟨by rw [Int.mul_sub]; omega, by omega, by omega⟩).1.symm
  · exact ((Int.ediv_emod_unique h (r := r) (q := q)).2 ⟨by omega, by omega, by omega⟩).1.symm

end Go.Proofs.YtfnooipkghfmoaaDoor
