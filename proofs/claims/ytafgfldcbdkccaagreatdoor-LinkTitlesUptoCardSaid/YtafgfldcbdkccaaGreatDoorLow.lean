/-
  WALKS: letters made small, the program's and the reference's.
-/
import Derived.Test.YtafgfldcbdkccaaGreatDoorInts
import Derived.Laws.IdiomStrings
import Derived.Laws.BytesArg
set_option linter.all false
namespace Go.Proofs.YtafgfldcbdkccaaGreatDoor
open Go.RowKit

def lowI (n : Int) : Int := if 65 ≤ n ∧ n ≤ 90 then n + 32 else n

def lowS (s : ByteArray) : ByteArray := strOfNums (s.data.toList.map fun c => lowI c.toNat)

/-- The bytes of a string in a block of the call, the first k of them made small. -/
structure LowAt (w wr : World) (s : ByteArray) (cap k : Nat) : Prop where
  bel : Below w.heap.size w wr
  blk : ∃ cs n, wr.heap[w.heap.size]? = some (.cells cs 5 (n, n + 1)) ∧ s.size ≤ n ∧ ∀ j (h : j < s.size), cs[j]? = some (.int .u8 (if j < k then lowI s[j].toNat else s[j].toNat))

theorem LowAt.start {w : World} {s : ByteArray} {cap : Nat} (h : s.size ≤ cap) : LowAt w (w.alloc (.cells (bytesRow s cap) 5 ((bytesRow s cap).size, (bytesRow s cap).size + 1))).drew s cap 0 := by
  have hsz : (bytesRow s cap).size = cap := by unfold bytesRow; simp; omega
  refine ⟨bl_drew (bl_alloc (Below.refl _ _) _), bytesRow s cap, _, heap_alloc_new w _, by rw [hsz]; exact h, fun j hj => ?_⟩
  rw [if_neg (by omega)]
  unfold bytesRow
  rw [Array.getElem?_append, if_pos (by simpa using hj)]
  rw [Array.getElem?_map, Array.getElem?_eq_getElem (by simpa using hj)]
  rfl

theorem frozen_of_row {w : World} {g j n : Nat} {cs : Array Value} {t : TypeId} (h : w.heap[g]? = some (.cells cs t (n, n + 1))) (hj : j < n) : w.frozen? ⟨g, j, none⟩ = false := by
  simp [World.frozen?, h]; omega

theorem LowAt.at_ {w wr : World} {s : ByteArray} {cap k j : Nat} (h : LowAt w wr s cap k) (hj : j < s.size) : wr.cell? ⟨w.heap.size, j, none⟩ = some (.int .u8 (if j < k then lowI s[j].toNat else s[j].toNat)) ∧ wr.frozen? ⟨w.heap.size, j, none⟩ = false := by
  obtain ⟨cs, n, h1, h2, h3⟩ := h.blk
  exact ⟨(cell_of_row wr _ j cs _ _ h1).trans (h3 j hj), frozen_of_row h1 (by omega)⟩

theorem LowAt.skip {w wr : World} {s : ByteArray} {cap k : Nat} (h : LowAt w wr s cap k) (hk : k < s.size) (hx : lowI (s[k].toNat : Int) = (s[k].toNat : Int)) : LowAt w wr s cap (k + 1) := by
  obtain ⟨cs, n, h1, h2, h3⟩ := h.blk
  refine ⟨h.bel, cs, n, h1, h2, fun j hj => ?_⟩
  rw [h3 j hj]
  by_cases c1 : j < k
  · rw [if_pos c1, if_pos (by omega)]
  · by_cases c2 : j = k
    · subst c2; rw [if_neg c1, if_pos (by omega), hx]
    · rw [if_neg c1, if_neg (by omega)]

theorem LowAt.store {w wr : World} {s : ByteArray} {cap k : Nat} {x : Int} (h : LowAt w wr s cap k) (hk : k < s.size) (hx : lowI (s[k].toNat : Int) = x) : LowAt w (wr.setCell ⟨w.heap.size, k, none⟩ (.int .u8 x)) s cap (k + 1) := by
  obtain ⟨cs, n, h1, h2, h3⟩ := h.blk
  refine ⟨h.bel.setCell (Nat.le_refl _) _, cs.setIfInBounds k (.int .u8 x), n, ?_, h2, fun j hj => ?_⟩
  · simp [World.setCell, Array.getElem?_modify, h1]
  · rw [Array.getElem?_setIfInBounds]
    by_cases c2 : k = j
    · subst c2
      have := (Array.getElem?_eq_some_iff.1 (h3 k hk)).1
      rw [if_pos rfl, if_pos this, if_pos (by omega), hx]
    · rw [if_neg c2, h3 j hj]
      by_cases c1 : j < k
      · rw [if_pos c1, if_pos (by omega)]
      · rw [if_neg c1, if_neg (by omega)]

theorem LowAt.back {w wr : World} {s : ByteArray} {cap : Nat} (h : LowAt w wr s cap s.size) : (convert 73 9 (.slice (some ⟨w.heap.size, 0, none⟩) s.size cap)).run Tryz.prog wr = .ok (.string (lowS s)) wr := by
  refine run_convert_bytes_arg wr 73 5 Tryz.underlying73 Tryz.underlying5 w.heap.size 0 s.size cap _ (by simp) (fun i hi => ?_) 9 Tryz.underlying9
  rw [Nat.zero_add, (h.at_ hi).1, if_pos hi]
  have hl : i < (s.data.toList.map fun c => lowI c.toNat).length := by simpa using hi
  rw [List.getD_eq_getElem?_getD, List.getElem?_eq_getElem hl]
  simp
  rfl

set_option maxHeartbeats 3200000 in
set_option maxRecDepth 100000 in
theorem bytesSmall_any (s : ByteArray) (w : World) (hs : s.size ≤ 1000000000) :
    Calls Tryz.prog 48 #[.string s] w fun e w' => e = .returned (.string (lowS s)) ∧ Below w.heap.size w w' := by
  have hcv := run_bytes_of_string (P := Tryz.prog) w 9 73 5 s Tryz.underlying9 Tryz.underlying73 Tryz.underlying5
  have hge := grownCap_ge w s.size 0 5
  generalize grownCap w s.size 0 5 = cap at hcv hge
  go_enter Tryz.func48, Tryz.ntmps48
  go_wp2
  clear hcv
  have hL0 : LowAt w (w.alloc (.cells (bytesRow s cap) 5 ((bytesRow s cap).size, (bytesRow s cap).size + 1))).drew s cap 0 := LowAt.start hge
  have HL0 := hide hL0
  generalize (w.alloc (.cells (bytesRow s cap) 5 ((bytesRow s cap).size, (bytesRow s cap).size + 1))).drew = W0 at HL0 ⊢
  clear hL0
  generalize hg : w.heap.size = g
  have HG := hide hg
  clear hg
  go_loopw [10] (fun i wr => ∃ k : Nat, k ≤ s.size ∧ i = .int .i64 k ∧ Hid (LowAt w wr s cap k)) (fun i _ => s.size - (intOf i).toNat)
  case atStart => exact ⟨0, Nat.zero_le _, rfl, HL0⟩
  case round =>
    clear HL0
    obtain ⟨k, hk, rfl, HL⟩ := hrel
    by_cases hlt : k < s.size
    · have cd := (HL.out.at_ hlt).1
      have fz := (HL.out.at_ hlt).2
      rw [HG.out] at cd fz
      rw [if_neg (Nat.lt_irrefl k)] at cd
      have hbd : (s[k].toNat : Int) ≤ 255 ∧ 0 ≤ (s[k].toNat : Int) := by have := s[k].toNat_lt; omega
      obtain ⟨hb1, hb2⟩ := hbd
      have hlo : lowI (s[k].toNat : Int) = if 65 ≤ (s[k].toNat : Int) ∧ (s[k].toNat : Int) ≤ 90 then (s[k].toNat : Int) + 32 else (s[k].toNat : Int) := rfl
      have HLO := hide hlo
      clear hlo
      have hnx := fun h => HL.out.skip hlt h
      have hst := fun x h => HL.out.store hlt (x := x) h
      rw [HG.out] at hst
      have HNX := hide hnx
      have HST := hide hst
      clear hnx hst
      generalize (s[k].toNat : Int) = c at *
      have i1 : (k : Int) < (s.size : Int) := by omega
      by_cases h1 : 65 ≤ c
      · by_cases h2 : c ≤ 90
        · have w1 : IntKind.u8.wrap (c + 97) = c + 97 := by rw [IntKind.wrap_u8]; omega
          have w2 : IntKind.u8.wrap (c + 97 - 65) = c + 32 := by rw [IntKind.wrap_u8]; omega
          have w3 : IntKind.u8.wrap (c + 32) = c + 32 := by rw [IntKind.wrap_u8]; omega
          go_wp2
          go_roundw
          case rel => exact ⟨k + 1, by omega, by go_num, hide (HST.out _ (by rw [HLO.out, if_pos ⟨h1, h2⟩]))⟩
          case measure => simp [intOf]; omega
        · go_wp2
          go_roundw
          case rel => exact ⟨k + 1, by omega, by go_num, hide (HNX.out (by rw [HLO.out, if_neg (fun h => h2 h.2)]))⟩
          case measure => simp [intOf]; omega
      · go_wp2
        go_roundw
        case rel => exact ⟨k + 1, by omega, by go_num, hide (HNX.out (by rw [HLO.out, if_neg (fun h => h1 h.1)]))⟩
        case measure => simp [intOf]; omega
    · have hks : k = s.size := by omega
      subst hks
      have hcv2 := HL.out.back
      rw [HG.out] at hcv2
      have hbel := HL.out.bel
      have i1 : ¬ (s.size : Int) < (s.size : Int) := by omega
      clear HL
      go_wp2
      go_ret
      exact ⟨rfl, hbel⟩

end Go.Proofs.YtafgfldcbdkccaaGreatDoor
