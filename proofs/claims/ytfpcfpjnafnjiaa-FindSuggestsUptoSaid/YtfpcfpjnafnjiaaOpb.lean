/-
  OPENING WHAT COMES IN, WITH THE BOUND THAT ITS BULK SETS: sums; a slice of elements.
-/
import Derived.Test.YtfpcfpjnafnjiaaRowU
import Derived.Test.YtfpcfpjnafnjiaaOwnG
set_option linter.all false
namespace Go.Proofs.Ytfpcfpjnafnjiaa
open Go.ChangeShapes Go.WideShapes Go.ChangeAt Go.Deep Go.RowKit

/-! ### Sums -/
theorem sum_le {α : Type} {f g : α → Nat} (h : ∀ a, f a ≤ g a) : ∀ l : List α, (l.map f).sum ≤ (l.map g).sum
  | [] => Nat.le_refl _
  | a :: l => by
    have h1 := sum_le h l
    have h2 := h a
    simp only [List.map_cons, List.sum_cons]
    omega
theorem sum_mem {α : Type} {f : α → Nat} : ∀ {l : List α} {a : α}, a ∈ l → f a ≤ (l.map f).sum
  | b :: l, a, h => by
    simp only [List.map_cons, List.sum_cons]
    rcases List.mem_cons.1 h with rfl | h
    · omega
    · have := sum_mem (f := f) h
      omega
theorem sum_len {α : Type} {f : α → Nat} (h : ∀ a, 1 ≤ f a) : ∀ l : List α, l.length ≤ (l.map f).sum
  | [] => Nat.le_refl _
  | a :: l => by
    have h1 := sum_len h l
    have h2 := h a
    simp only [List.map_cons, List.sum_cons, List.length_cons]
    omega
theorem bulk_sum {H α : Type} {B : α → Nat} : ∀ (l : List α) (es : List (DataW H)), l.length = es.length → (∀ i (h : i < l.length) (h' : i < es.length), B l[i] ≤ Rows.uptoBulk es[i]) → (l.map B).sum ≤ Rows.uptoBulkAll es
  | [], es, _, _ => Nat.zero_le _
  | a :: l, [], h, _ => by simp at h
  | a :: l, e :: es, h, hi => by
    have h1 := bulk_sum l es (by simpa using h) (fun i h2 h3 => hi (i + 1) (by simpa using h2) (by simpa using h3))
    have h2 : B a ≤ Rows.uptoBulk e := hi 0 (by simp) (by simp)
    simp only [List.map_cons, List.sum_cons, Rows.uptoBulkAll]
    omega
section
variable {H : Type} {enc : TypeId × Value → H} {w : World} {base : Nat} {held : Bool}

/-- A slice that comes in, with the bulk of what it holds. -/
theorem open_elemsB {α : Type} {B : α → Nat} {Q : List Value → α → Prop} {t e : TypeId} {K fuel : Nat} {cs : List Value} {x : DataW H × List MemPlace} (ht : Try.prog.underlying t = some (.slice e)) (hC : Try.prog.cellsOf e = K) (hK : 0 < K)
    (ih : ∀ n, n < fuel → ∀ cs x, DataW.trod enc Try.prog w base (fun _ => true) held n e cs = some x → ∃ a : α, Q cs a ∧ B a ≤ Rows.uptoBulk x.1)
    (h : DataW.trod enc Try.prog w base (fun _ => true) held fuel t cs = some x) :
    ∃ (A : Option Addr) (len cap : Nat) (l : List α), cs = [.slice A len cap] ∧ len ≤ cap ∧ cap ≤ maxLen ∧ (l.map B).sum + 1 ≤ Rows.uptoBulk x.1 ∧ l.length = len ∧ (0 < len → ∃ b off, A = some ⟨b, off, none⟩ ∧ b < w.heap.size ∧
      ∀ i (h : i < l.length), ∃ cs', Q cs' l[i] ∧ cs'.length = K ∧ ∀ j v, cs'[j]? = some v → w.cell? ⟨b, off + i * K + j, none⟩ = some v) := by
  rcases DataW.trod_slice ht h with ⟨rfl, rfl⟩ | ⟨a, len, cap, elems, rest, n, rfl, rfl, rfl, _, hl, hm, hlen, hel, _, _⟩
  · exact ⟨none, 0, 0, [], rfl, Nat.le_refl _, by simp [maxLen], by simp [Rows.uptoBulk], rfl, fun h => absurd h (by simp)⟩
  · rw [hC] at hel
    have hget : ∀ i, i < len → ∃ (y : α), (∀ h : i < elems.length, B y ≤ Rows.uptoBulk (elems[i]).1) ∧ ∃ cs', Q cs' y ∧ cs'.length = K ∧ ∀ j v, cs'[j]? = some v → w.cell? (a.add (i * K + j)) = some v := by
      intro i hi
      have h1 := hel i hi
      rw [List.getElem?_eq_getElem (by omega)] at h1
      obtain ⟨cs', hcs', htr⟩ := Option.bind_eq_some_iff.1 h1
      obtain ⟨y, hy, hyB⟩ := ih n (by omega) _ _ htr
      obtain ⟨_, hcl, hat⟩ := World.cells?_some hcs'
      refine ⟨y, fun _ => hyB, cs', hy, hcl, fun j v hj => ?_⟩
      have hjl : j < K := by
        have := (List.getElem?_eq_some_iff.1 hj).1
        omega
      rw [← Go.Deep.add_add, hat j hjl, hj]
    have hbulk : ∀ (l : List α), l.length = len → (∀ i (h : i < l.length) (h' : i < elems.length), B l[i] ≤ Rows.uptoBulk (elems[i]).1) → (l.map B).sum + 1 ≤ Rows.uptoBulk (DataW.slice (elems.map (·.1)) (rest.map (·.1))) := by
      intro l hl hB
      have := bulk_sum (H := H) (B := B) l (elems.map (·.1)) (by rw [List.length_map]; omega) (fun i h1 h2 => by
        rw [List.getElem_map]
        exact hB i h1 (by simpa using h2))
      simp only [Rows.uptoBulk]
      omega
    by_cases hlen0 : 0 < len
    · obtain ⟨_, _, cs', _, hcl, hat⟩ := hget 0 hlen0
      have h0 := hat 0 _ (List.getElem?_eq_getElem (show 0 < cs'.length by omega))
      have hspot : a.spot = none := by simpa [Addr.add] using World.cell?_spot h0
      obtain ⟨b, off, spot⟩ := a
      simp only at hspot
      subst hspot
      have hb : b < w.heap.size := by
        have := lt_of_cell h0
        simpa [Addr.add] using this
      obtain ⟨l, hl2, hq⟩ := list_of (Q := fun i (y : α) => (∀ h : i < elems.length, B y ≤ Rows.uptoBulk (elems[i]).1) ∧ ∃ cs', Q cs' y ∧ cs'.length = K ∧ ∀ j v, cs'[j]? = some v → w.cell? ⟨b, off + i * K + j, none⟩ = some v) len (fun i hi' => by
        obtain ⟨y, h0, cs', h1, h2, h3⟩ := hget i hi'
        refine ⟨y, h0, cs', h1, h2, fun j v hj => ?_⟩
        have := h3 j v hj
        rw [add_plain, ← Nat.add_assoc] at this
        exact this)
      exact ⟨_, len, cap, l, rfl, hl, hm, hbulk l hl2 (fun i h1 h2 => (hq i h1).1 h2), hl2, fun _ => ⟨b, off, rfl, hb, fun i hi => (hq i hi).2⟩⟩
    · have : len = 0 := by omega
      subst this
      exact ⟨some a, 0, cap, [], rfl, hl, hm, hbulk [] rfl (fun i h1 _ => absurd h1 (by simp)), rfl, fun h => absurd h (by simp)⟩
end

end Go.Proofs.Ytfpcfpjnafnjiaa
