/-
  PLAIN: a slice of elements of K cells reads as a list.
-/
import Derived.Test.YtfpcfpjnafnjiaaOwnG
import Derived.Test.YtfpcfpjnafnjiaaSrK
set_option linter.all false
namespace Go.Proofs.Ytfpcfpjnafnjiaa
open Go.RowKit

section
variable {α : Type} {enc : α → List Value} {K : Nat}
def EAt (enc : α → List Value) (K : Nat) (w : World) (A : Option Addr) (l : List α) : Prop :=
  0 < l.length → ∃ b o, A = some ⟨b, o, none⟩ ∧ b < w.heap.size ∧ ∀ j (h : j < l.length) i, i < K → w.cell? ⟨b, o + j * K + i, none⟩ = (enc l[j])[i]?
theorem EAt.below {w w' : World} {A : Option Addr} {l : List α} (h : EAt enc K w A l) (hb : Below w.heap.size w w') : EAt enc K w' A l := fun hl => by
  obtain ⟨b, o, hA, hlt, hc⟩ := h hl
  exact ⟨b, o, hA, Nat.lt_of_lt_of_le hlt hb.size, fun j hj i hi => (hb.cell (p := ⟨b, o + j * K + i, none⟩) hlt).trans (hc j hj i hi)⟩
theorem EAt.take {w : World} {A : Option Addr} {l : List α} (h : EAt enc K w A l) (m : Nat) : EAt enc K w A (l.take m) := fun hl => by
  rw [List.length_take] at hl
  obtain ⟨b, o, hA, hlt, hc⟩ := h (by omega)
  refine ⟨b, o, hA, hlt, fun j hj i hi => ?_⟩
  rw [List.length_take] at hj
  rw [List.getElem_take]
  exact hc j (by omega) i hi
theorem EAt.nil {w : World} {A : Option Addr} : EAt enc K w A [] := fun h => absurd h (by simp)
theorem ownK_eat {t : TypeId} {w : World} {base n m c : Nat} {A : Option Addr} {l : List α} (hk : ∀ x, (enc x).length = K) (h : OwnK K t w base (.slice A m c) n (l.flatMap enc)) (hK : 0 < K) : m = n ∧ l.length = n ∧ n ≤ c ∧ EAt enc K w A l := by
  obtain ⟨hl, A', c', hv, h1, h2, h3⟩ := h
  injection hv with e1 e2 e3
  subst e1 e2 e3
  rw [flatE_len hk] at hl
  have hn : l.length = m := Nat.eq_of_mul_eq_mul_right hK hl
  refine ⟨rfl, hn, h1, fun hp => ?_⟩
  rcases h3 with ⟨_, h0, _⟩ | ⟨g, cur, hA, hg, hb, h4, h5⟩
  · omega
  · refine ⟨g, 0, hA, (Array.getElem?_eq_some_iff.1 hb).1, fun j hj i hi => ?_⟩
    have hm : j * K + i < m * K := by
      have := Nat.mul_le_mul_right K (show j + 1 ≤ m by omega)
      rw [Nat.succ_mul] at this
      omega
    rw [Nat.zero_add, cell_of_row w g _ cur _ (0, 0) hb, ← flatE_get hk l j i hj hi, ← h5, List.getElem?_take_of_lt hm]
    simp
end

end Go.Proofs.Ytfpcfpjnafnjiaa
