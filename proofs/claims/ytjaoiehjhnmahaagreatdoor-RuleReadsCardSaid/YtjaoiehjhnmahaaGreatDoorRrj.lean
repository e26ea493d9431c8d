/-
  WALK: a rule that is read, in the reference.
-/
import Derived.Test.YtjaoiehjhnmahaaGreatDoorRri
set_option linter.all false
namespace Go.Proofs.YtjaoiehjhnmahaaGreatDoor
open Go.RowKit

theorem is_wEvery (p B : Nat) (L : List ByteArray) (f : Bool) (w : World) (h : Rd 69 w p B L f) :
    Calls Tryz.prog 29 #[.pointer (some ⟨p, 0, none⟩), .string ⟨#[101, 118, 101, 114, 121]⟩] w fun e w' => e = .returned (.bool (tkB wEvery L)) ∧ Rd 69 w' p B (tkL wEvery L) f ∧ Trn p w w' := is_any wEvery p B L f w h

theorem is_wFrom (p B : Nat) (L : List ByteArray) (f : Bool) (w : World) (h : Rd 69 w p B L f) :
    Calls Tryz.prog 29 #[.pointer (some ⟨p, 0, none⟩), .string ⟨#[102, 114, 111, 109]⟩] w fun e w' => e = .returned (.bool (tkB wFrom L)) ∧ Rd 69 w' p B (tkL wFrom L) f ∧ Trn p w w' := is_any wFrom p B L f w h

theorem is_wUntil (p B : Nat) (L : List ByteArray) (f : Bool) (w : World) (h : Rd 69 w p B L f) :
    Calls Tryz.prog 29 #[.pointer (some ⟨p, 0, none⟩), .string ⟨#[117, 110, 116, 105, 108]⟩] w fun e w' => e = .returned (.bool (tkB wUntil L)) ∧ Rd 69 w' p B (tkL wUntil L) f ∧ Trn p w w' := is_any wUntil p B L f w h

theorem is_wTimes (p B : Nat) (L : List ByteArray) (f : Bool) (w : World) (h : Rd 69 w p B L f) :
    Calls Tryz.prog 29 #[.pointer (some ⟨p, 0, none⟩), .string ⟨#[116, 105, 109, 101, 115]⟩] w fun e w' => e = .returned (.bool (tkB wTimes L)) ∧ Rd 69 w' p B (tkL wTimes L) f ∧ Trn p w w' := is_any wTimes p B L f w h

theorem is_wOn (p B : Nat) (L : List ByteArray) (f : Bool) (w : World) (h : Rd 69 w p B L f) :
    Calls Tryz.prog 29 #[.pointer (some ⟨p, 0, none⟩), .string ⟨#[111, 110]⟩] w fun e w' => e = .returned (.bool (tkB wOn L)) ∧ Rd 69 w' p B (tkL wOn L) f ∧ Trn p w w' := is_any wOn p B L f w h

theorem is_wDates (p B : Nat) (L : List ByteArray) (f : Bool) (w : World) (h : Rd 69 w p B L f) :
    Calls Tryz.prog 29 #[.pointer (some ⟨p, 0, none⟩), .string ⟨#[100, 97, 116, 101, 115]⟩] w fun e w' => e = .returned (.bool (tkB wDates L)) ∧ Rd 69 w' p B (tkL wDates L) f ∧ Trn p w w' := is_any wDates p B L f w h

theorem is_wSkip (p B : Nat) (L : List ByteArray) (f : Bool) (w : World) (h : Rd 69 w p B L f) :
    Calls Tryz.prog 29 #[.pointer (some ⟨p, 0, none⟩), .string ⟨#[115, 107, 105, 112]⟩] w fun e w' => e = .returned (.bool (tkB wSkip L)) ∧ Rd 69 w' p B (tkL wSkip L) f ∧ Trn p w w' := is_any wSkip p B L f w h

/-- What is right so far: where it is so, the words read are the first of all. -/
structure Lst (rd : ByteArray → Option Int) (O : Option Rul) (f0 f : Bool) (L R : List ByteArray) (done : List Int) : Prop where
  ok : f = true → f0 = true ∧ spn rd L = (done ++ (spn rd R).1, (spn rd R).2)
  no : f = false → O = none
  le : done.length + R.length ≤ L.length ∨ (done.length ≤ 1 ∧ R = [])
theorem Lst.start {rd : ByteArray → Option Int} {O : Option Rul} {f0 : Bool} {L : List ByteArray} (h : f0 = false → O = none) : Lst rd O f0 f0 L L [] :=
  ⟨fun h => ⟨h, by simp⟩, h, by simp⟩
/-- One word more; Q: how it goes on behind the words. -/
theorem Lst.step {rd : ByteArray → Option Int} {O : Option Rul} {f0 f : Bool} {L R : List ByteArray} {done : List Int} {Q : List ByteArray → List Int → Option Rul} (h : Lst rd O f0 f L R done) (hg : Goes O (!f0) (if (spn rd L).1 = [] then none else Q (spn rd L).2 (spn rd L).1))
    (hQ : done ≠ [] → f = true → rdO rd R = none → ∀ l, Q R l = none) (k : Int) (hk : ∀ n, rdO rd R = some n → k = n) (hl : R ≠ [] ∨ done = []) : Lst rd O f0 (f && (rdO rd R).isSome) L R.tail (done ++ [k]) := by
  refine ⟨fun he => ?_, fun he => ?_, ?_⟩
  · rw [Bool.and_eq_true] at he
    obtain ⟨h1, h2⟩ := h.ok he.1
    cases R with
    | nil => cases he.2
    | cons x t =>
      cases hx : rd x with
      | none => have : rdO rd (x :: t) = none := hx; rw [this] at he; cases he.2
      | some v =>
        obtain rfl := hk v hx
        refine ⟨h1, ?_⟩
        rw [h2]
        simp [spn, hx]
  · cases hf : f with
    | false => exact h.no hf
    | true =>
      obtain ⟨h1, h2⟩ := h.ok hf
      cases hx : rdO rd R with
      | some v => rw [hf, hx] at he; cases he
      | none =>
        have hs : spn rd R = ([], R) := by
          cases R with
          | nil => rfl
          | cons x t => have hw : rd x = none := hx; simp [spn, hw]
        rw [h1, h2, hs] at hg
        unfold Goes at hg
        simp only [List.append_nil, Bool.not_true, Bool.false_eq_true, if_false] at hg
        rw [hg]
        by_cases hd : done = []
        · rw [if_pos hd]
        · rw [if_neg hd, hQ hd hf hx]
  · rw [List.length_append, List.length_tail, List.length_singleton]
    cases R with
    | nil =>
      rcases hl with hl | hl
      · exact absurd rfl hl
      · subst hl; exact .inr ⟨by simp, rfl⟩
    | cons x t =>
      rcases h.le with h | ⟨_, h⟩
      · left; simp only [List.length_cons] at *; omega
      · cases h
/-- All words are behind that can be. -/
theorem Lst.fin {rd : ByteArray → Option Int} {O : Option Rul} {f0 f : Bool} {L R : List ByteArray} {done : List Int} {Q : List ByteArray → List Int → Option Rul} (h : Lst rd O f0 f L R done) (hg : Goes O (!f0) (if (spn rd L).1 = [] then none else Q (spn rd L).2 (spn rd L).1)) (hd : done ≠ [])
    (hR : f = true → rdO rd R = none) : Goes O (!f) (Q R done) := by
  cases hf : f with
  | false => exact h.no hf
  | true =>
    obtain ⟨h1, h2⟩ := h.ok hf
    have hs : spn rd R = ([], R) := by
      cases R with
      | nil => rfl
      | cons x t => have hw : rd x = none := hR hf; simp [spn, hw]
    rw [h1, h2, hs] at hg
    simp only [List.append_nil] at hg
    rwa [if_neg hd] at hg
theorem goes_out {O : Option Rul} {b : Bool} {L : List ByteArray} {rd : ByteArray → Option Int} {Q : List ByteArray → List Int → Option Rul} (hg : Goes O (!b) (if (spn rd L).1 = [] then none else Q (spn rd L).2 (spn rd L).1)) : b = false → O = none := fun h => by subst h; exact hg
/-- How long the row of words is. -/
def lenAt (w : World) (p : Nat) : Nat := match w.cell? ⟨p, 0, none⟩ with
  | some (.slice _ n _) => n
  | _ => 0
theorem Rd.lenAt {T : TypeId} {w : World} {p B : Nat} {L : List ByteArray} {f : Bool} (h : Rd T w p B L f) : lenAt w p = L.length := by
  obtain ⟨⟨b, o, c, k1, _⟩, _⟩ := h
  unfold Go.Proofs.YtjaoiehjhnmahaaGreatDoor.lenAt
  rw [k1.cell 0]
  rfl

end Go.Proofs.YtjaoiehjhnmahaaGreatDoor
