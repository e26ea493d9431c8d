/-
  PLAIN: a list of properties as text.
-/
import Derived.Test.YtjaoiehjhnmahaaGreatDoorVtl
import Derived.Test.YtjaoiehjhnmahaaGreatDoorPpb
import Derived.Test.YtjaoiehjhnmahaaGreatDoorPpc
set_option linter.all false
namespace Go.Proofs.YtjaoiehjhnmahaaGreatDoor
open Go.RowKit Go.Lib Cal

def PR.line (p : PR) : ByteArray := ((p.n ++ (⟨#[58, 58, 32]⟩ : ByteArray)) ++ p.v.txt) ++ (⟨#[10]⟩ : ByteArray)

def propsTxt : List PR → ByteArray
  | [] => ⟨#[]⟩
  | p :: l => p.line ++ propsTxt l

def propsOut (l : List PR) : ByteArray := if propsErr l = 0 then propsTxt l else ⟨#[]⟩

theorem propsTxt_append (a b : List PR) : propsTxt (a ++ b) = propsTxt a ++ propsTxt b := by
  induction a with
  | nil => exact (ByteArray.empty_append).symm
  | cons p a ih => simp only [List.cons_append, propsTxt, ih, ByteArray.append_assoc]

theorem propsTxt_next {l : List PR} {k : Nat} (h : k < l.length) : propsTxt (l.take (k + 1)) = propsTxt (l.take k) ++ l[k].line := by
  rw [List.take_add_one, List.getElem?_eq_getElem h, propsTxt_append]
  exact congrArg (propsTxt (l.take k) ++ ·) ByteArray.append_empty

theorem firstErr_zero {f : Nat → Int} : ∀ {n : Nat}, firstErr f n = 0 → ∀ j, j < n → f j = 0
  | 0, _, j, hj => by omega
  | n + 1, h, j, hj => by
    by_cases h0 : firstErr f n = 0
    · rw [firstErr, if_neg (by omega)] at h
      by_cases hjn : j < n
      · exact firstErr_zero h0 j hjn
      · obtain rfl : j = n := by omega
        exact h
    · rw [firstErr, if_pos h0] at h
      exact absurd h h0

theorem isName_len {l : List UInt8} (h : isName l = true) : l.length ≤ 20 := by
  match l, h with
  | [], _ => simp
  | b :: r, h =>
    unfold isName at h
    simp only [Bool.and_eq_true, decide_eq_true_eq] at h
    have := h.1
    simp only [List.length_cons]
    omega

/-- A list of properties without an error. -/
theorem props_good {l : List PR} (h : propsErr l = 0) : l.length ≤ 20 ∧ ∀ j (hj : j < l.length), l[j].n.size ≤ 20 ∧ l[j].v.err = 0 := by
  unfold propsErr at h
  by_cases h20 : 20 < l.length
  · rw [if_pos h20] at h; omega
  · rw [if_neg h20] at h
    refine ⟨by omega, fun j hj => ?_⟩
    have h1 := firstErr_zero h j hj
    have hn : nameErr l[j].n = 0 ∧ l[j].v.err = 0 := by
      match j, hj, h1 with
      | 0, hj, h1 => rcases propErr_zero hj rfl with ⟨_, e⟩ | ⟨e0, ⟨_, e⟩ | ⟨_, e⟩⟩ <;> omega
      | j + 1, hj, h1 => rcases propErr_more hj with ⟨_, e⟩ | ⟨e0, ⟨_, e⟩ | ⟨_, ⟨_, e⟩ | ⟨_, e⟩⟩⟩ <;> omega
    refine ⟨?_, hn.2⟩
    rcases nameErr_cases l[j].n with ⟨e, _⟩ | ⟨_, e⟩
    · omega
    · have := isName_len e
      simpa using this

theorem V.txt_le {v : V} (h : v.err = 0) : v.txt.size ≤ 200000 := by
  obtain ⟨hs, h7 | ⟨h7, hl, hok⟩⟩ := V.err_cases h
  · unfold V.txt
    rw [if_neg h7]
    exact Nat.le_trans (V.txt1_le hs h7) (by decide)
  · unfold V.txt
    rw [if_pos h7]
    have h1 := joinB_le (ss := v.l.map V.txt1) (sep := ⟨#[44, 32]⟩) (M := 5000) (fun x hx => by
      obtain ⟨y, hy, rfl⟩ := List.mem_map.1 hx
      exact V.txt1_le (hok y hy).1 (hok y hy).2)
    rw [List.length_map, show (⟨#[44, 32]⟩ : ByteArray).size = 2 from rfl] at h1
    have h2 := Nat.le_trans h1 (Nat.mul_le_mul_right _ hl)
    rw [ByteArray.size_append, ByteArray.size_append, show (⟨#[91]⟩ : ByteArray).size = 1 from rfl, show (⟨#[93]⟩ : ByteArray).size = 1 from rfl]
    omega

theorem PR.line_le {p : PR} (h1 : p.n.size ≤ 20) (h2 : p.v.err = 0) : p.line.size ≤ 200100 := by
  have := V.txt_le h2
  unfold PR.line
  rw [ByteArray.size_append, ByteArray.size_append, ByteArray.size_append, show (⟨#[58, 58, 32]⟩ : ByteArray).size = 3 from rfl, show (⟨#[10]⟩ : ByteArray).size = 1 from rfl]
  omega

theorem propsTxt_le : ∀ {l : List PR}, (∀ p ∈ l, p.line.size ≤ 200100) → (propsTxt l).size ≤ l.length * 200100
  | [], _ => by simp [propsTxt, ByteArray.size]
  | p :: l, h => by
    have ih := propsTxt_le (l := l) (fun q hq => h q (List.mem_cons_of_mem _ hq))
    have := h p List.mem_cons_self
    rw [propsTxt, ByteArray.size_append, List.length_cons, Nat.add_mul]
    omega

theorem propsTake_le {l : List PR} (h : propsErr l = 0) (k : Nat) : (propsTxt (l.take k)).size ≤ 20 * 200100 := by
  obtain ⟨hl, hg⟩ := props_good h
  have h1 := propsTxt_le (l := l.take k) (fun p hp => by
    obtain ⟨j, hj, rfl⟩ := List.mem_iff_getElem.1 (List.mem_of_mem_take hp)
    exact PR.line_le (hg j hj).1 (hg j hj).2)
  refine Nat.le_trans h1 (Nat.mul_le_mul_right _ ?_)
  rw [List.length_take]
  omega

end Go.Proofs.YtjaoiehjhnmahaaGreatDoor
