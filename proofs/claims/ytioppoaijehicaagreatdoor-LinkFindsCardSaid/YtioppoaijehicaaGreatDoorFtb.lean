/-
  WALKS: letters made small: link's way; the reference's small.
-/
import Derived.Test.YtioppoaijehicaaGreatDoorFta
import Derived.Laws.IdiomStrings
import Derived.Laws.BytesArg
set_option linter.all false
namespace Go.Proofs.YtioppoaijehicaaGreatDoor
open Go.RowKit

set_option maxHeartbeats 3200000 in
set_option maxRecDepth 100000 in
theorem lowerK_any (s : ByteArray) (w : World) (hs : s.size ≤ 1000000000) :
    Calls Tryz.prog 106 #[.string s] w fun e w' => e = .returned (.string (lowS s)) ∧ Below w.heap.size w w' := by
  have hcv := run_bytes_of_string (P := Tryz.prog) w 9 104 5 s Tryz.underlying9 Tryz.underlying104 Tryz.underlying5
  have hge := grownCap_ge w s.size 0 5
  generalize grownCap w s.size 0 5 = cap at hcv hge
  go_enter Tryz.func106, Tryz.ntmps106
  go_wp2
  clear hcv
  have hL0 : LowAt w (w.alloc (.cells (bytesRow s cap) 5 ((bytesRow s cap).size, (bytesRow s cap).size + 1))).drew s cap 0 := LowAt.start hge
  have HL0 := hide hL0
  generalize (w.alloc (.cells (bytesRow s cap) 5 ((bytesRow s cap).size, (bytesRow s cap).size + 1))).drew = W0 at HL0 ⊢
  clear hL0
  generalize hg : w.heap.size = g
  have HG := hide hg
  clear hg
  go_loopw [10] (fun i wr => ∃ k : Nat, k ≤ s.size ∧ i = .int .i64 k ∧ Hid (LowAt w wr s cap k)) (fun i _ => s.size - (intOf i).toNat)
  case atStart => exact ⟨0, Nat.zero_le _, rfl, HL0⟩
  case round =>
    clear HL0
    obtain ⟨k, hk, rfl, HL⟩ := hrel
    by_cases hlt : k < s.size
    · have cd := (HL.out.at_ hlt).1
      have fz := (HL.out.at_ hlt).2
      rw [HG.out] at cd fz
      rw [if_neg (Nat.lt_irrefl k)] at cd
      have hbd : (s[k].toNat : Int) ≤ 255 ∧ 0 ≤ (s[k].toNat : Int) := by have := s[k].toNat_lt; omega
      obtain ⟨hb1, hb2⟩ := hbd
      have hlo : lowI (s[k].toNat : Int) = if 65 ≤ (s[k].toNat : Int) ∧ (s[k].toNat : Int) ≤ 90 then (s[k].toNat : Int) + 32 else (s[k].toNat : Int) := rfl
      have HLO := hide hlo
      clear hlo
      have hnx := fun h => HL.out.skip hlt h
      have hst := fun x h => HL.out.store hlt (x := x) h
      rw [HG.out] at hst
      have HNX := hide hnx
      have HST := hide hst
      clear hnx hst
      generalize (s[k].toNat : Int) = c at *
      have i1 : (k : Int) < (s.size : Int) := by omega
      by_cases h1 : 65 ≤ c
      · by_cases h2 : c ≤ 90
        · have w1 : IntKind.u8.wrap (c + 97) = c + 97 := by rw [IntKind.wrap_u8]; omega
          have w2 : IntKind.u8.wrap (c + 97 - 65) = c + 32 := by rw [IntKind.wrap_u8]; omega
          have w3 : IntKind.u8.wrap (c + 32) = c + 32 := by rw [IntKind.wrap_u8]; omega
          go_wp2
          go_roundw
          case rel => exact ⟨k + 1, by omega, by go_num, hide (HST.out _ (by rw [HLO.out, if_pos ⟨h1, h2⟩]))⟩
          case measure => simp [intOf]; omega
        · go_wp2
          go_roundw
          case rel => exact ⟨k + 1, by omega, by go_num, hide (HNX.out (by rw [HLO.out, if_neg (fun h => h2 h.2)]))⟩
          case measure => simp [intOf]; omega
      · go_wp2
        go_roundw
        case rel => exact ⟨k + 1, by omega, by go_num, hide (HNX.out (by rw [HLO.out, if_neg (fun h => h1 h.1)]))⟩
        case measure => simp [intOf]; omega
    · have hks : k = s.size := by omega
      subst hks
      have hcv2 := HL.out.back
      rw [HG.out] at hcv2
      have hbel := HL.out.bel
      have i1 : ¬ (s.size : Int) < (s.size : Int) := by omega
      clear HL
      go_wp2
      go_ret
      exact ⟨rfl, hbel⟩

set_option maxHeartbeats 800000 in
theorem small_any (s : ByteArray) (w : World) (hs : s.size ≤ 1000000000) :
    Calls Tryz.prog 152 #[.string s] w fun e w' => e = .returned (.string (lowS s)) ∧ Below w.heap.size w w' := by
  have HS := hide (fun W => bytesSmall_any s W hs)
  go_enter Tryz.func152, Tryz.ntmps152
  go_wp2_with (go_at_call 195; refine (HS.out _).mono ?_; rintro e w' ⟨rfl, hb⟩)
  go_ret
  exact ⟨rfl, hb⟩

end Go.Proofs.YtioppoaijehicaaGreatDoor
