/-
  WALK: ValueChecks.
-/
import Derived.Test.YtfpcfpjnafnjiaaGreatDoorVtf
set_option linter.all false
namespace Go.Proofs.YtfpcfpjnafnjiaaGreatDoor
open Go.RowKit Go.Lib Cal

theorem written_any (v : V) (A : Option Addr) (c : Nat) (w : World) (hp : PowTab w) (hL : LAt w A v.l) (he : v.err = 0) :
    Calls Tryz.prog 32 #[v.arg A c] w fun e w' => e = .returned (.string v.txt) ∧ Below w.heap.size w w' := by
  obtain ⟨hs, h7 | ⟨h7, hl, hok⟩⟩ := V.err_cases he
  · unfold V.txt
    rw [if_neg h7]
    exact written_leaf v A c w hp hs h7
  · unfold V.txt
    rw [if_pos h7]
    obtain ⟨k, i, t, s, l⟩ := v
    obtain rfl : k = 7 := h7
    exact written_list i t s l A c w hp hL hl hok
theorem valueString_any (v : V) (A : Option Addr) (c : Nat) (w : World) (hp : PowTab w) (hL : LAt w A v.l) (he : v.err = 0) :
    Calls Tryz.prog 10 #[v.arg A c] w fun e w' => e = .returned (.string v.txt) ∧ Below w.heap.size w w' := by
  obtain ⟨hs, h7 | ⟨h7, hl, hok⟩⟩ := V.err_cases he
  · unfold V.txt
    rw [if_neg h7]
    exact valueString_leaf v A c w hp hs h7
  · unfold V.txt
    rw [if_pos h7]
    obtain ⟨k, i, t, s, l⟩ := v
    obtain rfl : k = 7 := h7
    exact valueString_list i t s l A c w hp hL hl hok
def V.out (v : V) : ByteArray := if v.err = 0 then v.txt else ⟨#[]⟩
set_option maxHeartbeats 1600000 in
set_option maxRecDepth 100000 in
theorem text_any (v : V) (A : Option Addr) (c : Nat) (w : World) (hp : PowTab w) (hL : LAt w A v.l) :
    Calls Tryz.prog 9 #[v.arg A c] w fun e w' => e = .returned (.tuple #[.string v.out, .int .i64 v.err]) ∧ Below w.heap.size w w' := by
  have HC := hide (fun W (hb : Below w.heap.size w W) => checkValue_any v A c W (hL.below hb))
  have HW := hide (fun W (hb : Below w.heap.size w W) (he : v.err = 0) => written_any v A c W (powTab_below hp hb) (hL.below hb) he)
  unfold V.out
  clear hp hL
  by_cases he : v.err = 0
  · rw [if_pos he]
    rw [he] at HC ⊢
    have HW2 := hide (fun W hb => HW.out W hb he)
    clear HW he
    generalize v.txt = T at *
    obtain ⟨k, i, t, s, l⟩ := v
    simp only [V.arg, V.k, V.i, V.t, V.s, V.l] at *
    go_enter Tryz.func9, Tryz.ntmps9
    go_wp2_with (first | (go_at_call 11; with_reducible refine (HC.out _ ?hb).mono ?_; (case hb => exact (by repeat (first | exact Below.refl _ _ | with_reducible refine bl_plus ?_ | with_reducible refine bl_alloc ?_ _ | with_reducible refine bl_drew ?_ | with_reducible refine bl_drewN ?_ _))); rintro e w' ⟨rfl, hbl⟩; obtain ⟨os1, n1, rfl⟩ := below_plus hbl; clear hbl) | (go_at_call 32; with_reducible refine (HW2.out _ ?hb).mono ?_; (case hb => exact (by repeat (first | exact Below.refl _ _ | with_reducible refine bl_plus ?_ | with_reducible refine bl_alloc ?_ _ | with_reducible refine bl_drew ?_ | with_reducible refine bl_drewN ?_ _))); rintro e w' ⟨rfl, hbl⟩; obtain ⟨os2, n2, rfl⟩ := below_plus hbl; clear hbl))
    go_ret2
    exact ⟨rfl, (by repeat (first | exact Below.refl _ _ | refine bl_plus ?_ | refine bl_alloc ?_ _ | refine bl_drew ?_ | refine bl_drewN ?_ _))⟩
  · rw [if_neg he]
    have he2 : (v.err != 0) = true := bne_iff_ne.2 he
    clear HW
    generalize v.err = E at *
    obtain ⟨k, i, t, s, l⟩ := v
    simp only [V.arg, V.k, V.i, V.t, V.s, V.l] at *
    go_enter Tryz.func9, Tryz.ntmps9
    go_wp2_with (first | (go_at_call 11; with_reducible refine (HC.out _ ?hb).mono ?_; (case hb => exact (by repeat (first | exact Below.refl _ _ | with_reducible refine bl_plus ?_ | with_reducible refine bl_alloc ?_ _ | with_reducible refine bl_drew ?_ | with_reducible refine bl_drewN ?_ _))); rintro e w' ⟨rfl, hbl⟩; obtain ⟨os1, n1, rfl⟩ := below_plus hbl; clear hbl))
    go_ret2
    exact ⟨rfl, (by repeat (first | exact Below.refl _ _ | refine bl_plus ?_ | refine bl_alloc ?_ _ | refine bl_drew ?_ | refine bl_drewN ?_ _))⟩

set_option maxHeartbeats 3200000 in
set_option maxRecDepth 100000 in
theorem valueChecks_any (v : V) (A : Option Addr) (c : Nat) (w : World) (hp : PowTab w) (hL : LAt w A v.l) :
    Calls Tryz.prog 3 #[v.arg A c] w fun e w' => e = .returned (.bool true) ∧ Below w.heap.size w w' := by
  have HC := hide (fun W (hb : Below w.heap.size w W) => checkValue_any v A c W (hL.below hb))
  have HF := hide (fun W (hb : Below w.heap.size w W) => valueFault_any v A c W (hL.below hb))
  have HT := hide (fun W (hb : Below w.heap.size w W) => text_any v A c W (powTab_below hp hb) (hL.below hb))
  have HS := hide (fun W (hb : Below w.heap.size w W) (he : v.err = 0) => valueString_any v A c W (powTab_below hp hb) (hL.below hb) he)
  clear hp hL
  by_cases he : v.err = 0
  · rw [show v.out = v.txt from if_pos he, he] at HT
    rw [he] at HC HF
    have HS2 := hide (fun W hb => HS.out W hb he)
    clear HS he
    generalize v.txt = T at *
    obtain ⟨k, i, t, s, l⟩ := v
    simp only [V.arg, V.k, V.i, V.t, V.s, V.l] at *
    go_enter Tryz.func3, Tryz.ntmps3
    go_wp2_with (first
      | (go_at_call 8; with_reducible refine (HF.out _ ?hb).mono ?_; (case hb => exact (by repeat (first | exact Below.refl _ _ | with_reducible refine bl_plus ?_ | with_reducible refine bl_alloc ?_ _ | with_reducible refine bl_drew ?_ | with_reducible refine bl_drewN ?_ _))); rintro e w' ⟨rfl, hbl⟩; obtain ⟨os1, n1, rfl⟩ := below_plus hbl; clear hbl)
      | (go_at_call 9; with_reducible refine (HT.out _ ?hb).mono ?_; (case hb => exact (by repeat (first | exact Below.refl _ _ | with_reducible refine bl_plus ?_ | with_reducible refine bl_alloc ?_ _ | with_reducible refine bl_drew ?_ | with_reducible refine bl_drewN ?_ _))); rintro e w' ⟨rfl, hbl⟩; obtain ⟨os2, n2, rfl⟩ := below_plus hbl; clear hbl)
      | (go_at_call 10; with_reducible refine (HS2.out _ ?hb).mono ?_; (case hb => exact (by repeat (first | exact Below.refl _ _ | with_reducible refine bl_plus ?_ | with_reducible refine bl_alloc ?_ _ | with_reducible refine bl_drew ?_ | with_reducible refine bl_drewN ?_ _))); rintro e w' ⟨rfl, hbl⟩; obtain ⟨os3, n3, rfl⟩ := below_plus hbl; clear hbl)
      | (go_at_call 11; with_reducible refine (HC.out _ ?hb).mono ?_; (case hb => exact (by repeat (first | exact Below.refl _ _ | with_reducible refine bl_plus ?_ | with_reducible refine bl_alloc ?_ _ | with_reducible refine bl_drew ?_ | with_reducible refine bl_drewN ?_ _))); rintro e w' ⟨rfl, hbl⟩; obtain ⟨os4, n4, rfl⟩ := below_plus hbl; clear hbl))
    go_ret
    exact ⟨by simp, (by repeat (first | exact Below.refl _ _ | refine bl_plus ?_ | refine bl_alloc ?_ _ | refine bl_drew ?_ | refine bl_drewN ?_ _))⟩
  · rw [show v.out = ⟨#[]⟩ from if_neg he] at HT
    have he2 : (v.err == 0) = false := beq_eq_false_iff_ne.2 he
    clear HS
    generalize v.err = E at *
    obtain ⟨k, i, t, s, l⟩ := v
    simp only [V.arg, V.k, V.i, V.t, V.s, V.l] at *
    go_enter Tryz.func3, Tryz.ntmps3
    go_wp2_with (first
      | (go_at_call 8; with_reducible refine (HF.out _ ?hb).mono ?_; (case hb => exact (by repeat (first | exact Below.refl _ _ | with_reducible refine bl_plus ?_ | with_reducible refine bl_alloc ?_ _ | with_reducible refine bl_drew ?_ | with_reducible refine bl_drewN ?_ _))); rintro e w' ⟨rfl, hbl⟩; obtain ⟨os1, n1, rfl⟩ := below_plus hbl; clear hbl)
      | (go_at_call 9; with_reducible refine (HT.out _ ?hb).mono ?_; (case hb => exact (by repeat (first | exact Below.refl _ _ | with_reducible refine bl_plus ?_ | with_reducible refine bl_alloc ?_ _ | with_reducible refine bl_drew ?_ | with_reducible refine bl_drewN ?_ _))); rintro e w' ⟨rfl, hbl⟩; obtain ⟨os2, n2, rfl⟩ := below_plus hbl; clear hbl)
      | (go_at_call 11; with_reducible refine (HC.out _ ?hb).mono ?_; (case hb => exact (by repeat (first | exact Below.refl _ _ | with_reducible refine bl_plus ?_ | with_reducible refine bl_alloc ?_ _ | with_reducible refine bl_drew ?_ | with_reducible refine bl_drewN ?_ _))); rintro e w' ⟨rfl, hbl⟩; obtain ⟨os4, n4, rfl⟩ := below_plus hbl; clear hbl))
    go_ret
    exact ⟨by simp, (by repeat (first | exact Below.refl _ _ | refine bl_plus ?_ | refine bl_alloc ?_ _ | refine bl_drew ?_ | refine bl_drewN ?_ _))⟩

end Go.Proofs.YtfpcfpjnafnjiaaGreatDoor
