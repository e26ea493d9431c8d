/-
  WALKS: rows of strings that the call owns, sorted, without doubles, clipped.
-/
import Derived.Test.YtpbkidjbbhkjnaaTmd
import Derived.Test.YtpbkidjbbhkjnaaSrl
import Derived.Sort.OwnSorted
namespace Go.Proofs.Ytpbkidjbbhkjnaa
open Go.RowKit Go.Sort

theorem encStr_data (b : ByteArray) : encStr b.data.toList = .string b := rfl
theorem strV_enc (l : List ByteArray) : strV l = (l.map (·.data.toList)).map encStr := by
  unfold strV
  rw [List.map_map]
  rfl
/-- In order. -/
def srt (ss : List (List UInt8)) : List (List UInt8) := ss.mergeSort fun x y => decide (x ≤ y)
theorem srt_len (ss : List (List UInt8)) : (srt ss).length = ss.length := List.length_mergeSort _
theorem compact_le (ss : List (List UInt8)) : (Lib.compact ss).length ≤ ss.length := by
  unfold Lib.compact Lib.compactUpTo
  rw [List.length_map]
  exact Nat.le_trans (List.length_filter_le _ _) (by rw [List.length_range]; exact Nat.le_refl _)
theorem grownBy_same (w : World) (g : Option Nat) : w.grownBy w g := ⟨rfl, rfl, rfl, Nat.le_refl _, fun _ _ _ => rfl⟩

theorem sortS_any (w : World) (base c : Nat) (A : Option Addr) (ss : List (List UInt8)) (h : OwnK 1 9 w base (.slice A ss.length c) ss.length (ss.map encStr)) (hl : ss.length < 4611686018427387904) :
    Calls Try.prog 25 #[.slice A ss.length c] w fun e w' => e = .returned (.tuple #[]) ∧ OwnK 1 9 w' base (.slice A ss.length c) ss.length ((srt ss).map encStr) ∧ w.grownBy w' (Value.slice A ss.length c).ownBlock := by
  obtain ⟨_, A', c', hv, h1, h2, h3⟩ := h
  injection hv with e1 _ e3
  subst e1 e3
  rcases h3 with ⟨rfl, h0, rfl⟩ | ⟨g, cur, rfl, hg, hb, h4, h5⟩
  · obtain rfl := List.length_eq_zero_iff.1 h0
    refine (Go.Proofs.Any.slices_Sort_string_none Try.sortL none 0 w).mono ?_
    rintro e w' ⟨rfl, rfl⟩
    exact ⟨rfl, by rw [show srt [] = [] from List.length_eq_zero_iff.1 (srt_len [])]; exact OwnK.empty, grownBy_same _ _⟩
  · rw [Nat.mul_one] at h5
    refine (Go.Proofs.Any.slices_Sort_string Try.sortL g 0 c ss w (holds_of_block hb h5) (Array.getElem?_eq_some_iff.1 hb).1 hl).mono ?_
    rintro e w' ⟨rfl, n, os, rfl⟩
    refine ⟨rfl, ⟨by rw [List.length_map, srt_len, Nat.mul_one], some ⟨g, 0, none⟩, c, rfl, h1, h2, .inr ⟨g, _, rfl, hg, heap_sorted _ hb, by simpa [putCells] using h4, ?_⟩⟩, grownBy_sorted _⟩
    rw [Nat.mul_one, ← srt_len ss]
    exact take_putCells cur (srt ss) (by rw [srt_len]; omega)

theorem compactS_any (w : World) (base c : Nat) (A : Option Addr) (ss : List (List UInt8)) (h : OwnK 1 9 w base (.slice A ss.length c) ss.length (ss.map encStr)) (hl : ss.length ≤ 9223372036854775807) :
    Calls Try.prog 27 #[.slice A ss.length c] w fun e w' => e = .returned (.slice A (Lib.compact ss).length c) ∧ OwnK 1 9 w' base (.slice A (Lib.compact ss).length c) (Lib.compact ss).length ((Lib.compact ss).map encStr) ∧ w.grownBy w' (Value.slice A ss.length c).ownBlock := by
  obtain ⟨_, A', c', hv, h1, h2, h3⟩ := h
  injection hv with e1 _ e3
  subst e1 e3
  have hle := compact_le ss
  rcases h3 with ⟨rfl, h0, rfl⟩ | ⟨g, cur, rfl, hg, hb, h4, h5⟩
  · obtain rfl := List.length_eq_zero_iff.1 h0
    refine (Go.Proofs.Any.slices_Compact_string_empty Try.compL none 0 w).mono ?_
    rintro e w' ⟨rfl, rfl⟩
    exact ⟨rfl, OwnK.empty, grownBy_same _ _⟩
  · rw [Nat.mul_one] at h5
    refine (Go.Proofs.Any.slices_Compact_string Try.compL g 0 c ss w (holds_of_block hb h5) hl h1).mono ?_
    rintro e w' ⟨rfl, n, rfl⟩
    have hw := heap_sorted (n := n) (os := #[]) (Lib.compact ss ++ List.replicate (ss.length - (Lib.compact ss).length) []).toArray hb
    have hgr := grownBy_sorted (w := w) (g := g) (n := n) (os := #[]) (Lib.compact ss ++ List.replicate (ss.length - (Lib.compact ss).length) []).toArray
    rw [grow_empty] at hw hgr
    refine ⟨rfl, ⟨by rw [List.length_map, Nat.mul_one], some ⟨g, 0, none⟩, c, rfl, by omega, h2, .inr ⟨g, _, rfl, hg, hw, by simpa [putCells] using h4, ?_⟩⟩, hgr⟩
    have ht := take_putCells cur (Lib.compact ss ++ List.replicate (ss.length - (Lib.compact ss).length) []) (by rw [List.length_append, List.length_replicate]; omega)
    have h6 := congrArg (List.take (Lib.compact ss).length) ht
    rw [List.take_take, List.map_append, List.take_left' (List.length_map _)] at h6
    rw [Nat.mul_one, ← h6]
    congr 1
    rw [List.length_append, List.length_replicate]
    omega

theorem clipS_any (A : Option Addr) (n c : Nat) (w : World) (hn : n ≤ c) (hc : c ≤ maxLen) (h0 : A = none → c = 0) (hf : ∀ a, A = some a → ∃ g, a = ⟨g, 0, none⟩) :
    Calls Try.prog 26 #[.slice A n c] w fun e w' => e = .returned (.slice A n n) ∧ w' = w := by
  unfold maxLen at hc
  cases A with
  | none =>
    obtain rfl := h0 rfl
    obtain rfl : n = 0 := by omega
    go_enter Try.func26, Try.ntmps26
    go_wp2
    go_ret
    exact ⟨rfl, rfl⟩
  | some a =>
    obtain ⟨g, rfl⟩ := hf a rfl
    clear h0 hf
    go_enter Try.func26, Try.ntmps26
    go_wp2
    go_ret
    exact ⟨rfl, rfl⟩

/-- The names of a template in order, each once. -/
def nmList (s : ByteArray) : List (List UInt8) := Lib.compact (srt ((tm s 0).1.map (·.data.toList)))
/-- What Fields and the reference's hand back. -/
def FsOut (s : ByteArray) (w : World) (e : Ending) (w' : World) : Prop :=
  Below w.heap.size w w' ∧ (((tq s).2 ≠ 0 ∧ e = .returned (.tuple #[.slice none 0 0, .int .i64 ((tq s).2 : Nat)])) ∨
    (tq s = (0, 0) ∧ ∃ A c, e = .returned (.tuple #[.slice A (nmList s).length c, .int .i64 0]) ∧ OwnK 1 9 w' w.heap.size (.slice A (nmList s).length c) (nmList s).length ((nmList s).map encStr)))

end Go.Proofs.Ytpbkidjbbhkjnaa
