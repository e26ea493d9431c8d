/-
  PLAIN AND WALKS: types of properties; the first place of a string, and of a type with a name.
-/
import Derived.Test.YtioppoaijehicaaGreatDoorPpa
set_option linter.all false
namespace Go.Proofs.YtioppoaijehicaaGreatDoor
open Go.RowKit Go.Lib

/-- The first number under a bound at which a test holds. -/
def firstIdx (p : Nat → Bool) : Nat → Option Nat
  | 0 => none
  | n + 1 => match firstIdx p n with
    | some k => some k
    | none => if p n = true then some n else none

theorem firstIdx_none {p : Nat → Bool} : ∀ {n : Nat}, (∀ j, j < n → p j = false) → firstIdx p n = none
  | 0, _ => rfl
  | n + 1, h => by
    rw [firstIdx, firstIdx_none (fun j hj => h j (by omega)), h n (by omega)]
    rfl

theorem firstIdx_some {p : Nat → Bool} {k : Nat} (h : ∀ j, j < k → p j = false) (hk : p k = true) : ∀ {n : Nat}, k < n → firstIdx p n = some k
  | 0, hn => by omega
  | n + 1, hn => by
    by_cases hkn : k < n
    · rw [firstIdx, firstIdx_some h hk hkn]
    · obtain rfl : k = n := by omega
      rw [firstIdx, firstIdx_none h]
      exact if_pos hk

theorem firstIdx_lt {p : Nat → Bool} : ∀ {n k : Nat}, firstIdx p n = some k → k < n ∧ p k = true
  | 0, k, h => by cases h
  | n + 1, k, h => by
    rw [firstIdx] at h
    cases hf : firstIdx p n with
    | some m =>
      rw [hf] at h
      obtain rfl : m = k := by simpa using h
      have := firstIdx_lt hf
      exact ⟨by omega, this.2⟩
    | none =>
      rw [hf] at h
      by_cases hp : p n = true
      · have h : some n = some k := by simpa [hp] using h
        obtain rfl : n = k := by simpa using h
        exact ⟨by omega, hp⟩
      · simp [hp] at h

def idxInt : Option Nat → Int
  | some k => k
  | none => -1

theorem idxInt_pos (o : Option Nat) : (0 ≤ idxInt o) = (o.isSome = true) := by
  cases o <;> simp [idxInt]

/-- Where strings lie. -/
def SAt (w : World) (A : Option Addr) (ss : List ByteArray) : Prop :=
  ss.length ≤ maxLen ∧ (0 < ss.length → ∃ b' o', A = some ⟨b', o', none⟩ ∧ b' < w.heap.size ∧ ∀ j (h : j < ss.length), w.cell? ⟨b', o' + j, none⟩ = some (.string ss[j]))

theorem SAt.below {w w' : World} {A : Option Addr} {l : List ByteArray} (h : SAt w A l) (hb : Below w.heap.size w w') : SAt w' A l :=
  ⟨h.1, fun hl => by
    obtain ⟨b', o', hA, hb', hj⟩ := h.2 hl
    exact ⟨b', o', hA, Nat.lt_of_lt_of_le hb' hb.size, fun j h => (hb.cell (p := ⟨b', o' + j, none⟩) hb').trans (hj j h)⟩⟩

theorem SAt.take {w : World} {A : Option Addr} {l : List ByteArray} (h : SAt w A l) (n : Nat) : SAt w A (l.take n) :=
  ⟨Nat.le_trans (List.length_take_le' n l) h.1, fun hl => by
    rw [List.length_take] at hl
    obtain ⟨b', o', hA, hb', hj⟩ := h.2 (by omega)
    refine ⟨b', o', hA, hb', fun j h => ?_⟩
    rw [List.getElem_take]
    exact hj j _⟩

def sIs (ss : List ByteArray) (x : ByteArray) (j : Nat) : Bool := match ss[j]? with
  | some s => x.toList == s.toList
  | none => false

theorem sIs_at {ss : List ByteArray} {x : ByteArray} {j : Nat} (h : j < ss.length) : sIs ss x j = (x.toList == ss[j].toList) := by
  unfold sIs
  rw [List.getElem?_eq_getElem h]

/-- Is a string among others? -/
def hasS (ss : List ByteArray) (x : ByteArray) : Bool := (firstIdx (sIs ss x) ss.length).isSome

/-- A type of properties. -/
structure TY where
  n : ByteArray
  k : Int
  need : Bool
  ch : List ByteArray
  lo : Int
  hi : Int

def TY.arg (t : TY) (A : Option Addr) (c : Nat) : Value := .agg #[.string t.n, .int .i64 t.k, .bool t.need, .slice A t.ch.length c, .int .i64 t.lo, .int .i64 t.hi]

def TYAt (w : World) (t : TY) (b o : Nat) : Prop := w.cell? ⟨b, o, none⟩ = some (.string t.n) ∧ t.n.size ≤ maxLen ∧ w.cell? ⟨b, o + 1, none⟩ = some (.int .i64 t.k) ∧ w.cell? ⟨b, o + 2, none⟩ = some (.bool t.need) ∧
  w.cell? ⟨b, o + 4, none⟩ = some (.int .i64 t.lo) ∧ w.cell? ⟨b, o + 5, none⟩ = some (.int .i64 t.hi) ∧ ∃ A c, w.cell? ⟨b, o + 3, none⟩ = some (.slice A t.ch.length c) ∧ SAt w A t.ch ∧ t.ch.length ≤ c

theorem TYAt.below {w w' : World} {t : TY} {b o : Nat} (hb : Below w.heap.size w w') (hlt : b < w.heap.size) (h : TYAt w t b o) : TYAt w' t b o := by
  have hk : ∀ i, w'.cell? ⟨b, i, none⟩ = w.cell? ⟨b, i, none⟩ := fun i => hb.cell (p := ⟨b, i, none⟩) hlt
  obtain ⟨h0, h1, h2, h3, h4, h5, A, c, h6, h7, h8⟩ := h
  exact ⟨(hk _).trans h0, h1, (hk _).trans h2, (hk _).trans h3, (hk _).trans h4, (hk _).trans h5, A, c, (hk _).trans h6, h7.below hb, h8⟩

def TsAt (w : World) (A : Option Addr) (l : List TY) : Prop :=
  l.length ≤ maxLen ∧ (0 < l.length → ∃ b' o', A = some ⟨b', o', none⟩ ∧ b' < w.heap.size ∧ ∀ j (h : j < l.length), TYAt w l[j] b' (o' + j * 6))

theorem TsAt.below {w w' : World} {A : Option Addr} {l : List TY} (h : TsAt w A l) (hb : Below w.heap.size w w') : TsAt w' A l :=
  ⟨h.1, fun hl => by
    obtain ⟨b', o', hA, hb', hj⟩ := h.2 hl
    exact ⟨b', o', hA, Nat.lt_of_lt_of_le hb' hb.size, fun j h => (hj j h).below hb hb'⟩⟩

theorem TsAt.take {w : World} {A : Option Addr} {l : List TY} (h : TsAt w A l) (n : Nat) : TsAt w A (l.take n) :=
  ⟨Nat.le_trans (List.length_take_le' n l) h.1, fun hl => by
    rw [List.length_take] at hl
    obtain ⟨b', o', hA, hb', hj⟩ := h.2 (by omega)
    refine ⟨b', o', hA, hb', fun j h => ?_⟩
    rw [List.getElem_take]
    exact hj j _⟩

def tyIs (l : List TY) (x : ByteArray) (j : Nat) : Bool := match l[j]? with
  | some t => t.n.toList == x.toList
  | none => false

theorem tyIs_at {l : List TY} {x : ByteArray} {j : Nat} (h : j < l.length) : tyIs l x j = (l[j].n.toList == x.toList) := by
  unfold tyIs
  rw [List.getElem?_eq_getElem h]

/-- Is there a type with a name? -/
def hasTy (l : List TY) (x : ByteArray) : Bool := (firstIdx (tyIs l x) l.length).isSome

end Go.Proofs.YtioppoaijehicaaGreatDoor
