/-
  PLAIN: lists of properties; where they lie in memory; the first of many errors.
-/
import Derived.Test.YtioppoaijehicaaGreatDoorPvg
set_option linter.all false
namespace Go.Proofs.YtioppoaijehicaaGreatDoor
open Go.RowKit Go.Lib

theorem plus_drewN {w : World} {os : Array Obj} {n k : Nat} : (plus w os n).drewN k = plus w os (n + k) := rfl

/-- The first number that is not 0. -/
def firstErr (f : Nat → Int) : Nat → Int
  | 0 => 0
  | n + 1 => if firstErr f n ≠ 0 then firstErr f n else f n

theorem firstErr_none {f : Nat → Int} : ∀ {n : Nat}, (∀ j, j < n → f j = 0) → firstErr f n = 0
  | 0, _ => rfl
  | n + 1, h => by
    have ih := firstErr_none (f := f) (n := n) (fun j hj => h j (by omega))
    rw [firstErr, if_neg (by rw [ih]; decide), h n (by omega)]

theorem firstErr_first {f : Nat → Int} {k : Nat} (h : ∀ j, j < k → f j = 0) (hk : f k ≠ 0) : ∀ {n : Nat}, k < n → firstErr f n = f k
  | 0, hn => by omega
  | n + 1, hn => by
    by_cases hkn : k < n
    · have ih := firstErr_first h hk hkn
      rw [firstErr, if_pos (by rw [ih]; exact hk), ih]
    · obtain rfl : k = n := by omega
      rw [firstErr, if_neg (by rw [firstErr_none h]; decide)]

/-- A property: a name and a value. -/
structure PR where
  n : ByteArray
  v : V

def PRAt (w : World) (p : PR) (b o : Nat) : Prop := w.cell? ⟨b, o, none⟩ = some (.string p.n) ∧ p.n.size ≤ maxLen ∧ VAt w p.v b (o + 1)

def PsAt (w : World) (A : Option Addr) (l : List PR) : Prop :=
  l.length ≤ maxLen ∧ (0 < l.length → ∃ b' o', A = some ⟨b', o', none⟩ ∧ b' < w.heap.size ∧ ∀ j (h : j < l.length), PRAt w l[j] b' (o' + j * 6))

theorem PRAt.below {w w' : World} {p : PR} {b o : Nat} (hb : Below w.heap.size w w') (hlt : b < w.heap.size) (h : PRAt w p b o) : PRAt w' p b o :=
  ⟨(hb.cell (p := ⟨b, o, none⟩) hlt).trans h.1, h.2.1, VAt.below hb _ _ _ hlt h.2.2⟩

theorem PRAt.cells {w : World} {p : PR} {b o : Nat} (h : PRAt w p b o) : w.cell? ⟨b, o, none⟩ = some (.string p.n) ∧ p.n.size ≤ maxLen ∧ w.cell? ⟨b, o + 1, none⟩ = some (.int .i64 p.v.k) ∧ w.cell? ⟨b, o + 2, none⟩ = some (.int .i64 p.v.i) ∧ w.cell? ⟨b, o + 3, none⟩ = some (.int .i64 p.v.t) ∧
    w.cell? ⟨b, o + 4, none⟩ = some (.string p.v.s) ∧ ∃ A c, w.cell? ⟨b, o + 5, none⟩ = some (.slice A p.v.l.length c) ∧ LAt w A p.v.l :=
  ⟨h.1, h.2.1, VAt_iff.1 h.2.2⟩

theorem PsAt.below {w w' : World} {A : Option Addr} {l : List PR} (h : PsAt w A l) (hb : Below w.heap.size w w') : PsAt w' A l :=
  ⟨h.1, fun hl => by
    obtain ⟨b', o', hA, hb', hj⟩ := h.2 hl
    exact ⟨b', o', hA, Nat.lt_of_lt_of_le hb' hb.size, fun j h => (hj j h).below hb hb'⟩⟩

/-- Is a name not behind the other one? -/
def nameLe (a b : ByteArray) : Bool := Op.bytesLess a.toList b.toList || a.toList == b.toList

def propErrAt (l : List PR) (i : Nat) : Int := match l[i]? with
  | none => 0
  | some p => if nameErr p.n ≠ 0 then 3 else if 0 < i ∧ (match l[i - 1]? with | none => false | some q => nameLe p.n q.n) = true then 5 else if p.v.k = 0 then 10 else p.v.err

def propsErr (l : List PR) : Int := if 20 < l.length then 4 else firstErr (propErrAt l) l.length

theorem nameErr_cases (s : ByteArray) : (nameErr s = 3 ∧ isName s.data.toList = false) ∨ (nameErr s = 0 ∧ isName s.data.toList = true) := by
  unfold nameErr
  cases h : isName s.data.toList with
  | true => exact .inr ⟨if_pos rfl, rfl⟩
  | false => exact .inl ⟨if_neg Bool.false_ne_true, rfl⟩

theorem propErr_zero0 {l : List PR} (h : 0 < l.length) : (nameErr l[0].n = 3 ∧ propErrAt l 0 = 3) ∨ (nameErr l[0].n = 0 ∧ ((l[0].v.k = 0 ∧ propErrAt l 0 = 10) ∨ (l[0].v.k ≠ 0 ∧ propErrAt l 0 = l[0].v.err))) := by
  unfold propErrAt
  rw [List.getElem?_eq_getElem h]
  simp only [Nat.lt_irrefl, false_and, if_false]
  rcases nameErr_cases l[0].n with ⟨e, -⟩ | ⟨e, -⟩
  · exact .inl ⟨e, if_pos (by omega)⟩
  · refine .inr ⟨e, ?_⟩
    rw [if_neg (by omega)]
    by_cases hk : l[0].v.k = 0
    · exact .inl ⟨hk, if_pos hk⟩
    · exact .inr ⟨hk, if_neg hk⟩

/-- The error of the first property. -/
theorem propErr_zero {l : List PR} {q : Nat} (h : q < l.length) (h0 : q = 0) : (nameErr l[q].n = 3 ∧ propErrAt l q = 3) ∨ (nameErr l[q].n = 0 ∧ ((l[q].v.k = 0 ∧ propErrAt l q = 10) ∨ (l[q].v.k ≠ 0 ∧ propErrAt l q = l[q].v.err))) := by
  subst h0
  exact propErr_zero0 h

/-- The error of a property behind another one. -/
theorem propErr_more {l : List PR} {i : Nat} (h : i + 1 < l.length) : (nameErr l[i + 1].n = 3 ∧ propErrAt l (i + 1) = 3) ∨ (nameErr l[i + 1].n = 0 ∧ ((nameLe l[i + 1].n l[i].n = true ∧ propErrAt l (i + 1) = 5) ∨
    (nameLe l[i + 1].n l[i].n = false ∧ ((l[i + 1].v.k = 0 ∧ propErrAt l (i + 1) = 10) ∨ (l[i + 1].v.k ≠ 0 ∧ propErrAt l (i + 1) = l[i + 1].v.err))))) := by
  unfold propErrAt
  rw [List.getElem?_eq_getElem h]
  simp only [Nat.add_sub_cancel]
  rw [List.getElem?_eq_getElem (show i < l.length by omega)]
  simp only []
  rcases nameErr_cases l[i + 1].n with ⟨e, -⟩ | ⟨e, -⟩
  · exact .inl ⟨e, if_pos (by omega)⟩
  · refine .inr ⟨e, ?_⟩
    rw [if_neg (by omega)]
    by_cases hle : nameLe l[i + 1].n l[i].n = true
    · exact .inl ⟨hle, if_pos ⟨by omega, hle⟩⟩
    · refine .inr ⟨by simpa using hle, ?_⟩
      rw [if_neg (fun h => hle h.2)]
      by_cases hk : l[i + 1].v.k = 0
      · exact .inl ⟨hk, if_pos hk⟩
      · exact .inr ⟨hk, if_neg hk⟩

theorem propErr_none {l : List PR} (h : ∀ j, j < l.length → propErrAt l j = 0) (hl : l.length ≤ 20) : propsErr l = 0 := by
  unfold propsErr
  rw [if_neg (by omega), firstErr_none h]

theorem propErr_first {l : List PR} {k : Nat} (hl : l.length ≤ 20) (hk : k < l.length) (h : ∀ j, j < k → propErrAt l j = 0) (hne : propErrAt l k ≠ 0) : propsErr l = propErrAt l k := by
  unfold propsErr
  rw [if_neg (by omega), firstErr_first h hne hk]

theorem propErr_large {l : List PR} (h : 20 < l.length) : propsErr l = 4 := if_pos h

end Go.Proofs.YtioppoaijehicaaGreatDoor
