/-
  WALKS: the reader's phrase at every input; the reader's part behind a quotation mark.
-/
import Derived.Test.YtfklaahakibljaaQryC
namespace Go.Proofs.Ytfklaahakibljaa
open Go.RowKit Go.Shelf

theorem phrase_any (s : ByteArray) (i g : Nat) (w : World) (h : Blk w g 94 #[.string s, .int .i64 i, .int .i64 (-1)]) (hi : i ≤ s.size) (h1 : 1 ≤ i) (hs : s.size ≤ 400) :
    Calls Try.prog 172 #[.pointer (some ⟨g, 0, none⟩)] w (PartOut s g w (phraseR s i)) := by
  have h2 := ixB_ge (s.extract i s.size) 34
  have h3 := ixB_lt (s.extract i s.size) 34
  rw [ByteArray.size_extract] at h3
  unfold phraseR
  by_cases hx : ixB (s.extract i s.size) 34 < 0
  · rw [if_pos hx]
    exact phrase_none s i g w h hi h1 hs (by omega)
  · rw [if_neg hx]
    exact (callsIn_wide (n := 5)).1 (phrase_some 5 (by omega) s i (ixB (s.extract i s.size) 34).toNat g w h (by omega) h1 hs (by omega))

theorem KeepT.plus2 {t : TypeId} {A B : World} {os : Array Obj} {n m : Nat} (h : KeepT t A B) (hs : B.heap.size = A.heap.size) : KeepT t (Go.Proofs.Ytfklaahakibljaa.plus A os n) (Go.Proofs.Ytfklaahakibljaa.plus B os m) := by
  intro b cur hb
  by_cases hlt : b < A.heap.size
  · rw [plus_heap hlt] at hb
    exact (plus_heap (by omega)).trans (h b cur hb)
  · exact (plus_far hs (by omega)).trans hb
theorem KeepT.alloc2 {t t' : TypeId} {A B : World} {a c : Array Value} (h : KeepT t A B) (hs : B.heap.size = A.heap.size) (hne : t ≠ t') : KeepT t (A.alloc (.cells a t')) (B.alloc (.cells c t')) := by
  intro b cur hb
  by_cases hlt : b < A.heap.size
  · rw [Below.heap_alloc A _ b hlt] at hb
    exact (Below.heap_alloc B _ b (by omega)).trans (h b cur hb)
  · by_cases he : b = A.heap.size
    · subst he
      exact absurd rfl (Blk.ne_ (show Blk _ _ t cur from hb) (Blk.new A t' a) hne)
    · have : (A.alloc (.cells a t')).heap.size ≤ b := by simp; omega
      rw [Array.getElem?_eq_none this] at hb
      cases hb

set_option maxHeartbeats 3200000 in
theorem part_quote (s : ByteArray) (i g : Nat) (w : World) (h : Blk w g 94 #[.string s, .int .i64 i, .int .i64 (-1)]) (hi : i < s.size) (hc : (s[i].toNat : Int) = 34) (hs : s.size ≤ 400) :
    Calls Try.prog 136 #[.pointer (some ⟨g, 0, none⟩)] w (PartOut s g w (phraseR s (i + 1))) := by
  have hl := h.lt
  have HT := hide (fun w' (h' : Blk w' g 94 #[.string s, .int .i64 i, .int .i64 (-1)]) => take_yes s i g (-1) 34 w' h' hi hc hs)
  have HP := hide (fun w' h' => phrase_any s (i + 1) g w' h' (by omega) (by omega) hs)
  have H := hide h
  clear h hc
  generalize phraseR s (i + 1) = R at *
  cases R with
  | bad k =>
    go_enter Try.func136, Try.ntmps136
    go_wp2_with (first
      | (go_at_call 65; refine (HT.out _ (H.out.alloc _)).mono ?_; rintro e w' ⟨rfl, os, n, rfl⟩)
      | (go_at_call 172; refine (HP.out _ (((putBlk_at hl).alloc _).plus)).mono ?_; rintro e w' ⟨k', A, m, c, i', rfl, hi', os2, n2, rfl⟩))
    go_returns
    exact ⟨k', A, m, c, i', rfl, hi', (((RdTo.base w g s _ _).alloc _).plus _ _).plus _ _⟩
  | good p j =>
    go_enter Try.func136, Try.ntmps136
    go_wp2_with (first
      | (go_at_call 65; refine (HT.out _ (H.out.alloc _)).mono ?_; rintro e w' ⟨rfl, os, n, rfl⟩)
      | (go_at_call 172; refine (HP.out _ (((putBlk_at hl).alloc _).plus)).mono ?_; rintro e w' ⟨A, c, rfl, hst, os2, n2, rfl⟩; have HS := hide hst; clear hst))
    go_returns
    have hst := HS.out
    rw [putBlk_plus (by rw [World.size_alloc, putBlk_size]; omega), putBlk_alloc (by rw [putBlk_size]; exact hl), putBlk_put] at hst
    exact ⟨A, c, rfl, hst.keep ((((KeepT.refl _ _).alloc2 rfl (by decide)).plus2 (by simp)).plus2 (by simp [go_sem])), (((RdTo.base w g s _ _).alloc _).plus _ _).plus _ _⟩

end Go.Proofs.Ytfklaahakibljaa
