/-
  WALK: ValueChecks.
-/
import Derived.Test.YtjaoiehjhnmahaaGreatDoorVtf
set_option linter.all false
namespace Go.Proofs.YtjaoiehjhnmahaaGreatDoor
open Go.RowKit Go.Lib Cal

theorem written_any (v : V) (A : Option Addr) (c : Nat) (w : World) (hp : PowTab w) (hL : LAt w A v.l) (he : v.err = 0) :
    Calls Tryz.prog 20 #[v.arg A c] w fun e w' => e = .returned (.string v.txt) ∧ Below w.heap.size w w' := by
  obtain ⟨hs, h7 | ⟨h7, hl, hok⟩⟩ := V.err_cases he
  · unfold V.txt
    rw [if_neg h7]
    exact written_leaf v A c w hp hs h7
  · unfold V.txt
    rw [if_pos h7]
    obtain ⟨k, i, t, s, l⟩ := v
    obtain rfl : k = 7 := h7
    exact written_list i t s l A c w hp hL hl hok

theorem valueString_any (v : V) (A : Option Addr) (c : Nat) (w : World) (hp : PowTab w) (hL : LAt w A v.l) (he : v.err = 0) :
    Calls Tryz.prog 22 #[v.arg A c] w fun e w' => e = .returned (.string v.txt) ∧ Below w.heap.size w w' := by
  obtain ⟨hs, h7 | ⟨h7, hl, hok⟩⟩ := V.err_cases he
  · unfold V.txt
    rw [if_neg h7]
    exact valueString_leaf v A c w hp hs h7
  · unfold V.txt
    rw [if_pos h7]
    obtain ⟨k, i, t, s, l⟩ := v
    obtain rfl : k = 7 := h7
    exact valueString_list i t s l A c w hp hL hl hok

def V.out (v : V) : ByteArray := if v.err = 0 then v.txt else ⟨#[]⟩

end Go.Proofs.YtjaoiehjhnmahaaGreatDoor
