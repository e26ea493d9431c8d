/-
  OPENING ARGUMENTS, MORE: a struct by value whose fields are all of kind int.
-/
import Derived.Test.YtokghdcfbbogdaaOpen
namespace Go.Proofs.Ytokghdcfbbogdaa
open Go.ChangeShapes Go.WideShapes Go.Deep Go.RowKit

section
variable {H : Type} {enc : TypeId × Value → H} {P : Program} {w : World} {base : Nat} {spare : Nat → Bool} {held : Bool}

/-- The cells of a struct whose fields are all of kind int. -/
theorem open_int_agg {e : TypeId} {fs : Array Field} {cs : Array Value} {fuel : Nat} {x : DataW H × List MemPlace} (he : P.underlying e = some (.struct fs))
    (hone : oneCellFields P fs = true) (hC : P.cellsOf e = fs.size) {K : Nat} (hK : fs.size = K) (hints : intFields P fs = true)
    (h : DataW.trod enc P w base spare held fuel e (Value.agg cs).cells.toList = some x) (hsz : cs.size = K) :
    ∃ ns : List Int, cs.toList = ns.map (Value.int .i64) ∧ ns.length = K := by
  subst hK
  have hint := intFields_at hints
  obtain ⟨ys, n', hn', hy, hlen, hyl, hf⟩ := DataW.trod_struct he h
  have hcell : ∀ j, j < fs.size → ∃ n : Int, cs.toList[j]? = some (.int .i64 n) := by
    intro j hj
    obtain ⟨ho, hk⟩ := hone_of hone j fs[j] (Array.getElem?_eq_getElem hj)
    have h1 := hf j fs[j] (Array.getElem?_eq_getElem hj)
    rw [ho, hk] at h1
    have hjl : j < cs.toList.length := by simpa using (by omega : j < cs.size)
    have hone' : ((Value.agg cs).cells.toList.drop j).take 1 = [cs.toList[j]] := by
      show (cs.toList.drop j).take 1 = _
      rw [List.drop_eq_getElem_cons hjl]
      rfl
    rw [hone'] at h1
    have hys : ys[j]? = some (ys[j]'(by omega)) := List.getElem?_eq_getElem (by omega)
    rw [hys] at h1
    obtain ⟨k, hk, _, _⟩ := DataW.trod_int (hint j fs[j] (Array.getElem?_eq_getElem hj)) h1
    simp only [List.cons.injEq, and_true] at hk
    exact ⟨k, by rw [List.getElem?_eq_getElem hjl, hk]⟩
  obtain ⟨ns, hl, hq⟩ := list_of (Q := fun j (n : Int) => cs.toList[j]? = some (.int .i64 n)) fs.size hcell
  refine ⟨ns, ?_, hl⟩
  apply List.ext_getElem?
  intro j
  by_cases hj : j < ns.length
  · rw [hq j hj, List.getElem?_map, List.getElem?_eq_getElem hj]; rfl
  · rw [List.getElem?_eq_none (by simp; omega), List.getElem?_eq_none (by simp; omega)]
end

end Go.Proofs.Ytokghdcfbbogdaa
