/-
  WALKS: slices.Clone, slices.Clip and slices.Equal at states; a block among new ones laid bare.
-/
import Derived.Test.YtokghdcfbbogdaaStates
import Derived.Test.YtokghdcfbbogdaaAppend
import Derived.BigQuiet
import Derived.WideShapes
namespace Go.Proofs.Ytokghdcfbbogdaa
open Go.RowKit

/-- The cells of a state, of a list of states. -/
def stCells (x : St) : List Value := [.int .i64 x.bl, .int .i64 x.no, .int .i64 x.st, .int .i64 x.ea, .int .i64 x.du, .int .i64 x.la, .int .i64 x.ti, .int .i64 x.lp, .int .i64 x.bu]
def flat (xs : List St) : List Value := xs.flatMap stCells
theorem flat_len (xs : List St) : (flat xs).length = xs.length * 9 := by
  induction xs with
  | nil => rfl
  | cons x xs ih => simp only [flat, List.flatMap_cons, List.length_append, List.length_cons] at ih ⊢; rw [ih]; simp [stCells]; omega
theorem flat_one (xs : List St) : ∀ u ∈ flat xs, u.oneCell' = true := by
  intro u hu
  obtain ⟨x, _, hx⟩ := List.mem_flatMap.1 hu
  simp [stCells] at hx
  rcases hx with rfl | rfl | rfl | rfl | rfl | rfl | rfl | rfl | rfl <;> rfl
theorem flat_get (xs : List St) : ∀ (j i : Nat) (h : j < xs.length), i < 9 → (flat xs)[j * 9 + i]? = (stCells xs[j])[i]? := by
  induction xs with
  | nil => intro j i h; simp at h
  | cons x xs ih =>
    intro j i h hi
    have hl : (stCells x).length = 9 := rfl
    cases j with
    | zero =>
      show (stCells x ++ flat xs)[0 * 9 + i]? = _
      rw [List.getElem?_append_left (by omega)]; simp
    | succ j =>
      show (stCells x ++ flat xs)[(j + 1) * 9 + i]? = _
      rw [List.getElem?_append_right (by omega), hl, show (j + 1) * 9 + i - 9 = j * 9 + i by omega]
      exact ih j i (by simpa using h) hi

/-- The cells behind an address, of a list of states. -/
theorem flat_cells {w : World} {b off : Nat} {xs : List St} (h : ∀ j (h : j < xs.length), StCells w b (off + j * 9) xs[j]) : ∀ (j : Nat) (u : Value), (flat xs)[j]? = some u → w.cell? ((⟨b, off, none⟩ : Addr).add j) = some u := by
  intro j u hu
  have hj : j < xs.length * 9 := by
    rcases Nat.lt_or_ge j (xs.length * 9) with h | h
    · exact h
    · rw [List.getElem?_eq_none (by rw [flat_len]; exact h)] at hu; cases hu
  have hq : j / 9 < xs.length := by omega
  have hr : j % 9 < 9 := by omega
  have he : j = j / 9 * 9 + j % 9 := by omega
  have hadd : (⟨b, off, none⟩ : Addr).add j = ⟨b, off + j, none⟩ := Go.WideShapes.add_plain b off j
  rw [hadd]
  rw [he, flat_get xs _ _ hq hr] at hu
  obtain ⟨h0, h1, h2, h3, h4, h5, h6, h7, h8⟩ := h (j / 9) hq
  generalize xs[j / 9] = x at hu h0 h1 h2 h3 h4 h5 h6 h7 h8
  have hoff : off + j = off + j / 9 * 9 + j % 9 := by omega
  rw [hoff]
  generalize j / 9 = q at *
  match hm : j % 9, hr with
  | 0, _ => rw [hm] at hu; simp [stCells] at hu; subst hu; exact h0
  | 1, _ => rw [hm] at hu; simp [stCells] at hu; subst hu; exact h1
  | 2, _ => rw [hm] at hu; simp [stCells] at hu; subst hu; exact h2
  | 3, _ => rw [hm] at hu; simp [stCells] at hu; subst hu; exact h3
  | 4, _ => rw [hm] at hu; simp [stCells] at hu; subst hu; exact h4
  | 5, _ => rw [hm] at hu; simp [stCells] at hu; subst hu; exact h5
  | 6, _ => rw [hm] at hu; simp [stCells] at hu; subst hu; exact h6
  | 7, _ => rw [hm] at hu; simp [stCells] at hu; subst hu; exact h7
  | 8, _ => rw [hm] at hu; simp [stCells] at hu; subst hu; exact h8

/-- A block whose cells begin with those of a list of states. -/
theorem stsAt_of_cells {w : World} {g : Nat} {t : TypeId} {cs : Array Value} {xs : List St} (hg : Blk w g t cs) (h : ∀ j i (_ : j < xs.length), i < 9 → cs[j * 9 + i]? = (stCells xs[j])[i]?) : StsAt w (some ⟨g, 0, none⟩) xs := fun _ => by
  refine ⟨g, 0, rfl, hg.lt, fun j hj => ?_⟩
  have hc : ∀ i, i < 9 → w.cell? ⟨g, j * 9 + i, none⟩ = (stCells xs[j])[i]? := fun i hi => (hg.cell _).trans (h j i hj hi)
  simp only [Nat.zero_add]
  exact ⟨hc 0 (by omega), hc 1 (by omega), hc 2 (by omega), hc 3 (by omega), hc 4 (by omega), hc 5 (by omega), hc 6 (by omega), hc 7 (by omega), hc 8 (by omega)⟩

/-- A block among the new ones laid bare. -/
theorem bare {w w' : World} (hb : Below w.heap.size w w') {g : Nat} {t : TypeId} {cs : Array Value} (hg : Blk w' g t cs) (hge : w.heap.size ≤ g) :
    ∃ os n os' n', w' = plus ((plus w os n).alloc (.cells cs t)) os' n' ∧ g = w.heap.size + os.size := by
  obtain ⟨os, n, rfl⟩ := below_plus hb
  have hlt := hg.lt
  rw [plus_size] at hlt
  have ho : os[g - w.heap.size]? = some (.cells cs t (0, 0)) := by
    have := hg
    unfold Blk plus at this
    simp only [Array.getElem?_append] at this
    rwa [if_neg (by omega)] at this
  have hk : g - w.heap.size < os.size := by omega
  refine ⟨os.extract 0 (g - w.heap.size), n, os.extract (g - w.heap.size + 1) os.size, n, ?_, by simp; omega⟩
  rw [plus_alloc, plus_plus]
  congr 1
  apply Array.ext_getElem?
  intro i
  simp only [Array.getElem?_append, Array.size_push, Array.size_extract, Array.getElem?_push, Array.getElem?_extract]
  by_cases h1 : i < g - w.heap.size
  · rw [if_pos (by omega), if_neg (by omega), if_pos (by omega)]; simp
  · by_cases h2 : i = g - w.heap.size
    · subst h2
      rw [if_pos (by omega), if_pos (by omega)]
      exact ho
    · rw [if_neg (by omega)]
      by_cases h3 : i < os.size
      · rw [if_pos (by omega)]; congr 1; omega
      · rw [if_neg (by omega), Array.getElem?_eq_none (by omega)]

end Go.Proofs.Ytokghdcfbbogdaa
