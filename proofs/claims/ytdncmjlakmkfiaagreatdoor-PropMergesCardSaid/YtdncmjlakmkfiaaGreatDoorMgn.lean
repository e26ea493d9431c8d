/-
  WALKS: rows of strings that the call owns, sorted, without doubles, clipped, compared.
-/
import Derived.Test.YtdncmjlakmkfiaaGreatDoorMgl
import Derived.Test.YtdncmjlakmkfiaaGreatDoorSrl
import Derived.Test.YtdncmjlakmkfiaaGreatDoorOwnG
import Derived.Sort.OwnSorted
set_option linter.all false
namespace Go.Proofs.YtdncmjlakmkfiaaGreatDoor
open Go.RowKit Go.Sort

theorem encStr_data (b : ByteArray) : encStr b.data.toList = .string b := rfl

/-- In order. -/
def srt (ss : List (List UInt8)) : List (List UInt8) := ss.mergeSort fun x y => decide (x ≤ y)

theorem srt_len (ss : List (List UInt8)) : (srt ss).length = ss.length := List.length_mergeSort _

theorem compact_le (ss : List (List UInt8)) : (Lib.compact ss).length ≤ ss.length := by
  unfold Lib.compact Lib.compactUpTo
  rw [List.length_map]
  exact Nat.le_trans (List.length_filter_le _ _) (by rw [List.length_range]; exact Nat.le_refl _)

theorem grownBy_same (w : World) (g : Option Nat) : w.grownBy w g := ⟨rfl, rfl, rfl, Nat.le_refl _, fun _ _ _ => rfl⟩

theorem sortS_any (w : World) (base c : Nat) (A : Option Addr) (ss : List (List UInt8)) (h : OwnK 1 9 w base (.slice A ss.length c) ss.length (ss.map encStr)) (hl : ss.length < 4611686018427387904) :
    Calls Tryz.prog 43 #[.slice A ss.length c] w fun e w' => e = .returned (.tuple #[]) ∧ OwnK 1 9 w' base (.slice A ss.length c) ss.length ((srt ss).map encStr) ∧ w.grownBy w' (Value.slice A ss.length c).ownBlock := by
  obtain ⟨_, A', c', hv, h1, h2, h3⟩ := h
  injection hv with e1 _ e3
  subst e1 e3
  rcases h3 with ⟨rfl, h0, rfl⟩ | ⟨g, cur, rfl, hg, hb, h4, h5⟩
  · obtain rfl := List.length_eq_zero_iff.1 h0
    refine (Go.Proofs.Any.slices_Sort_string_none Tryz.sortL none 0 w).mono ?_
    rintro e w' ⟨rfl, rfl⟩
    exact ⟨rfl, by rw [show srt [] = [] from List.length_eq_zero_iff.1 (srt_len [])]; exact OwnK.empty, grownBy_same _ _⟩
  · rw [Nat.mul_one] at h5
    refine (Go.Proofs.Any.slices_Sort_string Tryz.sortL g 0 c ss w (holds_of_block hb h5) (Array.getElem?_eq_some_iff.1 hb).1 hl).mono ?_
    rintro e w' ⟨rfl, n, os, rfl⟩
    refine ⟨rfl, ⟨by rw [List.length_map, srt_len, Nat.mul_one], some ⟨g, 0, none⟩, c, rfl, h1, h2, .inr ⟨g, _, rfl, hg, heap_sorted _ hb, by simpa [putCells] using h4, ?_⟩⟩, grownBy_sorted _⟩
    rw [Nat.mul_one, ← srt_len ss]
    exact take_putCells cur (srt ss) (by rw [srt_len]; omega)

theorem compactS_any (w : World) (base c : Nat) (A : Option Addr) (ss : List (List UInt8)) (h : OwnK 1 9 w base (.slice A ss.length c) ss.length (ss.map encStr)) (hl : ss.length ≤ 9223372036854775807) :
    Calls Tryz.prog 44 #[.slice A ss.length c] w fun e w' => e = .returned (.slice A (Lib.compact ss).length c) ∧ OwnK 1 9 w' base (.slice A (Lib.compact ss).length c) (Lib.compact ss).length ((Lib.compact ss).map encStr) ∧ w.grownBy w' (Value.slice A ss.length c).ownBlock := by
  obtain ⟨_, A', c', hv, h1, h2, h3⟩ := h
  injection hv with e1 _ e3
  subst e1 e3
  have hle := compact_le ss
  rcases h3 with ⟨rfl, h0, rfl⟩ | ⟨g, cur, rfl, hg, hb, h4, h5⟩
  · obtain rfl := List.length_eq_zero_iff.1 h0
    refine (Go.Proofs.Any.slices_Compact_string_empty Tryz.compL none 0 w).mono ?_
    rintro e w' ⟨rfl, rfl⟩
    exact ⟨rfl, OwnK.empty, grownBy_same _ _⟩
  · rw [Nat.mul_one] at h5
    refine (Go.Proofs.Any.slices_Compact_string Tryz.compL g 0 c ss w (holds_of_block hb h5) hl h1).mono ?_
    rintro e w' ⟨rfl, n, rfl⟩
    have hw := heap_sorted (n := n) (os := #[]) (Lib.compact ss ++ List.replicate (ss.length - (Lib.compact ss).length) []).toArray hb
    have hgr := grownBy_sorted (w := w) (g := g) (n := n) (os := #[]) (Lib.compact ss ++ List.replicate (ss.length - (Lib.compact ss).length) []).toArray
    rw [grow_empty] at hw hgr
    refine ⟨rfl, ⟨by rw [List.length_map, Nat.mul_one], some ⟨g, 0, none⟩, c, rfl, by omega, h2, .inr ⟨g, _, rfl, hg, hw, by simpa [putCells] using h4, ?_⟩⟩, hgr⟩
    have ht := take_putCells cur (Lib.compact ss ++ List.replicate (ss.length - (Lib.compact ss).length) []) (by rw [List.length_append, List.length_replicate]; omega)
    have h6 := congrArg (List.take (Lib.compact ss).length) ht
    rw [List.take_take, List.map_append, List.take_left' (List.length_map _)] at h6
    rw [Nat.mul_one, ← h6]
    congr 1
    rw [List.length_append, List.length_replicate]
    omega

theorem clipS_any (A : Option Addr) (n c : Nat) (w : World) (hn : n ≤ c) (hc : c ≤ maxLen) (h0 : A = none → c = 0) (hf : ∀ a, A = some a → ∃ g, a = ⟨g, 0, none⟩) :
    Calls Tryz.prog 41 #[.slice A n c] w fun e w' => e = .returned (.slice A n n) ∧ w' = w := by
  unfold maxLen at hc
  cases A with
  | none =>
    obtain rfl := h0 rfl
    obtain rfl : n = 0 := by omega
    go_enter Tryz.func41, Tryz.ntmps41
    go_wp2
    go_ret
    exact ⟨rfl, rfl⟩
  | some a =>
    obtain ⟨g, rfl⟩ := hf a rfl
    clear h0 hf
    go_enter Tryz.func41, Tryz.ntmps41
    go_wp2
    go_ret
    exact ⟨rfl, rfl⟩


theorem encStr_b (l : List UInt8) : encStr l = .string (bStr l) := rfl

theorem bStr_map (nm : List ByteArray) : (nm.map (·.data.toList)).map bStr = nm := by
  rw [List.map_map]
  conv => rhs; rw [← List.map_id nm]
  refine List.map_congr_left fun x _ => ?_
  show bStr x.data.toList = x
  simp [bStr]

/-- Texts as values. -/
def strV (l : List ByteArray) : List Value := l.map Value.string

theorem strV_enc (l : List ByteArray) : strV l = (l.map (·.data.toList)).map encStr := by
  unfold strV
  rw [List.map_map]
  rfl

theorem strV_b (L : List (List UInt8)) : strV (L.map bStr) = L.map encStr := by
  unfold strV
  rw [List.map_map]
  rfl

theorem strV_snoc (l : List ByteArray) (x : ByteArray) : strV (l ++ [x]) = strV l ++ [.string x] := by simp [strV]

theorem strV_len (l : List ByteArray) : (strV l).length = l.length := List.length_map _

/-- A row of strings that the call owns, read by its cells. -/
theorem sAt_of_own {w : World} {base n m c : Nat} {A : Option Addr} {l : List ByteArray} (h : OwnK 1 9 w base (.slice A m c) n (strV l)) : n = l.length ∧ m = n ∧ SAt w A l := by
  obtain ⟨hl, A', c', hv, h1, h2, h3⟩ := h
  injection hv with e1 e2 e3
  subst e1 e2 e3
  rw [strV_len, Nat.mul_one] at hl
  refine ⟨hl.symm, rfl, by omega, fun h0 => ?_⟩
  rcases h3 with ⟨rfl, h4, -⟩ | ⟨g, cur, rfl, hg, hb, h4, h5⟩
  · omega
  · refine ⟨g, 0, rfl, (Array.getElem?_eq_some_iff.1 hb).1, fun j hj => ?_⟩
    rw [Nat.zero_add, cell_of_row w g j cur _ (0, 0) hb]
    have h6 : (cur.toList.take (m * 1))[j]? = (strV l)[j]? := by rw [h5]
    rw [List.getElem?_take_of_lt (by omega), strV, List.getElem?_map, List.getElem?_eq_getElem hj] at h6
    rw [← Array.getElem?_toList, h6]
    rfl

theorem equalS_sat (w : World) (c d : Nat) (A B : Option Addr) (l : List ByteArray) (h1 : SAt w A l) (h2 : SAt w B l) :
    Calls Tryz.prog 11 #[.slice A l.length c, .slice B l.length d] w fun e w' => e = .returned (.bool true) ∧ Below w.heap.size w w' := by
  have hbig : l.length ≤ 9223372036854775807 := by have := h1.1; unfold maxLen at this; omega
  by_cases h0 : l.length = 0
  · rw [h0]
    refine (Go.Proofs.Any.slices_Equal_string_empty Tryz.eqL A B c 0 d w (by omega)).mono ?_
    rintro e w' ⟨rfl, rfl⟩
    exact ⟨rfl, Below.refl _ _⟩
  · obtain ⟨g, o, rfl, hg, q1⟩ := h1.2 (by omega)
    obtain ⟨g2, o2, rfl, hg2, q2⟩ := h2.2 (by omega)
    refine (Go.Proofs.Any.slices_Equal_string Tryz.eqL g o l.length c g2 o2 l.length d l l w (Nat.le_refl _) (Nat.le_refl _) hbig hbig (fun j hj => by rw [q1 j hj, List.getD_eq_getElem?_getD, List.getElem?_eq_getElem hj]; rfl) (fun j hj => by rw [q2 j hj, List.getD_eq_getElem?_getD, List.getElem?_eq_getElem hj]; rfl)).mono ?_
    rintro e w' ⟨rfl, q, rfl⟩
    exact ⟨by rw [decide_eq_true rfl], (by repeat (first | exact Below.refl _ _ | refine bl_plus ?_ | refine bl_alloc ?_ _ | refine bl_drew ?_ | refine bl_drewN ?_ _))⟩

theorem sort_le_srt (ss : List (List UInt8)) : srt ss = ss.mergeSort (fun x y => decide (x ≤ y)) := rfl

end Go.Proofs.YtdncmjlakmkfiaaGreatDoor
