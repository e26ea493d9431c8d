/-
  PLAIN: a value as text.
-/
import Derived.Test.YtjaoiehjhnmahaaGreatDoorRph
import Derived.Test.YtjaoiehjhnmahaaGreatDoorLayA
import Derived.Test.YtjaoiehjhnmahaaGreatDoorDayS
import Derived.Test.YtjaoiehjhnmahaaGreatDoorDayT
import Derived.Test.YtjaoiehjhnmahaaGreatDoorPvn
import Derived.Test.YtjaoiehjhnmahaaGreatDoorOpv
import Derived.Test.YtjaoiehjhnmahaaGreatDoorJnl
set_option linter.all false
namespace Go.Proofs.YtjaoiehjhnmahaaGreatDoor
open Go.RowKit Go.Lib Cal

def numB (n : Int) : ByteArray := ⟨(Lib.itoa n).toArray⟩

/-- A value that is no list, as text. -/
def V.txt1 (v : V) : ByteArray :=
  if v.k = 1 then (if v.i = 0 then ⟨#[110, 111]⟩ else ⟨#[121, 101, 115]⟩) else
  if v.k = 2 then numB v.i else
  if v.k = 3 then ((⟨#[34]⟩ : ByteArray) ++ escS v.s) ++ (⟨#[34]⟩ : ByteArray) else
  if v.k = 4 then dateS (parts v.i) else
  if v.k = 5 then (dateS (parts v.i) ++ (⟨#[46, 46]⟩ : ByteArray)) ++ dateS (parts v.t) else
  if v.k = 6 then ((⟨#[91, 91]⟩ : ByteArray) ++ v.s) ++ (⟨#[93, 93]⟩ : ByteArray) else ⟨#[45]⟩

def joinB (l : List ByteArray) (sep : ByteArray) : ByteArray := ⟨(Lib.join (l.map (·.data.toList)) sep.data.toList).toArray⟩

def V.txt (v : V) : ByteArray := if v.k = 7 then ((⟨#[91]⟩ : ByteArray) ++ joinB (v.l.map V.txt1) ⟨#[44, 32]⟩) ++ (⟨#[93]⟩ : ByteArray) else v.txt1

theorem V.leaf_cases {v : V} (h : v.selfErr = 0) (h7 : v.k ≠ 7) : v.k = 0 ∨ (v.k = 1 ∧ (v.i = 0 ∨ v.i = 1)) ∨ (v.k = 2 ∧ (-1000000000 ≤ v.i ∧ v.i ≤ 1000000000)) ∨ (v.k = 3 ∧ v.s.size ≤ 2000) ∨
    (v.k = 4 ∧ (0 ≤ v.i ∧ v.i ≤ 100000)) ∨ (v.k = 5 ∧ ((0 ≤ v.i ∧ v.i ≤ 100000) ∧ (0 ≤ v.t ∧ v.t ≤ 100000))) ∨ (v.k = 6 ∧ v.s.size ≤ 100) := by
  rcases v.self_cases with ⟨_, e⟩ | ⟨hk, ⟨_, e⟩ | ⟨_, ⟨e1, e⟩ | ⟨hn, ⟨e1, e⟩ | ⟨ht, _⟩⟩⟩⟩ <;> try omega
  have hc := v.num_cases
  have htx := v.text_cases
  rcases kinds hk.1 hk.2 with h0 | h0 | h0 | h0 | h0 | h0 | h0 | h0
  · exact .inl h0
  · clear htx; exact .inr (.inl ⟨h0, by omega⟩)
  · clear htx; exact .inr (.inr (.inl ⟨h0, by omega⟩))
  · clear hc; exact .inr (.inr (.inr (.inl ⟨h0, by rcases htx with ⟨_, e⟩ | ⟨e, _⟩ | ⟨⟨e, _⟩, _⟩ | ⟨⟨e, _⟩, _⟩ <;> omega⟩)))
  · clear htx; exact .inr (.inr (.inr (.inr (.inl ⟨h0, by omega⟩))))
  · clear htx; exact .inr (.inr (.inr (.inr (.inr (.inl ⟨h0, by omega⟩)))))
  · clear hc; exact .inr (.inr (.inr (.inr (.inr (.inr ⟨h0, by rcases htx with ⟨_, e⟩ | ⟨_, _, _, e⟩ | ⟨⟨_, e⟩, _⟩ | ⟨⟨_, e⟩, _⟩ <;> omega⟩)))))
  · exact absurd h0 h7

theorem escS_size {s : ByteArray} (h : s.size ≤ 2000) : (escS s).size ≤ 4000 := by
  have h1 := escL_len s.data.toList
  have h2 := cE_le s.data.toList
  have h3 : s.data.toList.length = s.size := by simp
  have h4 : (escS s).size = (escL s.data.toList).length := by unfold escS; simp [ByteArray.size]
  omega

theorem four_new (W : World) (b : Nat) (h : b = W.heap.size) : FourAt (W.alloc (.cells #[.string ⟨#[34]⟩, .string ⟨#[92, 34]⟩, .string ⟨#[92]⟩, .string ⟨#[92, 92]⟩] 9)) (some ⟨b, 0, none⟩) := by
  subst h
  have hb := Blk.new W 9 #[.string ⟨#[34]⟩, .string ⟨#[92, 34]⟩, .string ⟨#[92]⟩, .string ⟨#[92, 92]⟩]
  exact ⟨_, 0, rfl, hb.lt, hb.cell 0, hb.cell 1, hb.cell 2, hb.cell 3⟩

theorem four_drew {W : World} {A : Option Addr} (h : FourAt W A) : FourAt W.drew A := h.below (bl_drew (Below.refl _ _))

theorem bytes_app_size (a b : ByteArray) : (a ++ b).size = a.size + b.size := ByteArray.size_append

end Go.Proofs.YtjaoiehjhnmahaaGreatDoor
