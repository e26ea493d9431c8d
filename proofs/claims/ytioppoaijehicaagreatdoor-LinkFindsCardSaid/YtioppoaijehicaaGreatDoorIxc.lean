/-
  A RUNE AND ITS BYTES; contracts of the shelf that strings.IndexAny's own form leans on.
-/
import Derived.Shelf.Strings.IndexAnyAll
import Derived.Shelf.Small.Utf8
import Derived.Shelf.Small.Strs
import Derived.Lib.OthersKept
import Derived.Lib.DecodeN
import Derived.Test.YtioppoaijehicaaGreatDoorIxl
import Derived.Test.YtioppoaijehicaaGreatDoorInts
import Derived.Scope
import Derived.Deep.QuietTactic
import Derived.BigQuiet
import Derived.Deep.CutBlock
set_option linter.all false
namespace Go.Proofs
open Go.Shelf Go.RowKit

namespace YtioppoaijehicaaGreatDoor
open Go.Lib

/-! ### A rune and its bytes -/

theorem decodeN_hi (n b0 b1 b2 b3 : Nat) (hb : 128 ≤ b0) : 128 ≤ (decodeN n b0 b1 b2 b3).1 ∧
    ((decodeN n b0 b1 b2 b3).2 = 1 ∨ ((decodeN n b0 b1 b2 b3).2 = 2 ∧ 1 < n ∧ 128 ≤ b1) ∨ ((decodeN n b0 b1 b2 b3).2 = 3 ∧ 2 < n ∧ 128 ≤ b1 ∧ 128 ≤ b2) ∨ ((decodeN n b0 b1 b2 b3).2 = 4 ∧ 3 < n ∧ 128 ≤ b1 ∧ 128 ≤ b2 ∧ 128 ≤ b3)) := by
  unfold decodeN
  rw [if_neg (by omega)]
  split
  · split
    · exact ⟨by simp only; omega, .inr (.inl ⟨rfl, by omega, by omega⟩)⟩
    · exact ⟨by decide, .inl rfl⟩
  · split
    · split
      · exact ⟨by simp only; omega, .inr (.inr (.inl ⟨rfl, by omega, by omega, by omega⟩))⟩
      · exact ⟨by decide, .inl rfl⟩
    · split
      · split
        · exact ⟨by simp only; omega, .inr (.inr (.inr ⟨rfl, by omega, by omega, by omega, by omega⟩))⟩
        · exact ⟨by decide, .inl rfl⟩
      · exact ⟨by decide, .inl rfl⟩

theorem get_bang (s : ByteArray) (i : Nat) (h : i < s.size) : s.get! i = s[i]'h := by
  have h' : i < s.data.size := h
  show s.data[i]! = s.data[i]
  exact getElem!_pos s.data i h'

/-- A rune that begins with a byte beyond ASCII. -/
theorem dec_hi (s : ByteArray) (i : Nat) (hi : i < s.size) (hb : 128 ≤ (s[i]'hi).toNat) :
    128 ≤ (Utf8.decode s i).1 ∧ 1 ≤ (Utf8.decode s i).2 ∧ i + (Utf8.decode s i).2 ≤ s.size ∧ ∀ j (hj : j < s.size), i ≤ j → j < i + (Utf8.decode s i).2 → 128 ≤ (s[j]'hj).toNat := by
  rw [decode_at]
  obtain ⟨h1, h2⟩ := decodeN_hi (s.size - i) (s.get! i).toNat (s.get! (i + 1)).toNat (s.get! (i + 2)).toNat (s.get! (i + 3)).toNat (by rw [get_bang s i hi]; exact hb)
  refine ⟨h1, ?_⟩
  generalize (decodeN (s.size - i) (s.get! i).toNat (s.get! (i + 1)).toNat (s.get! (i + 2)).toNat (s.get! (i + 3)).toNat).2 = K at *
  refine ⟨by omega, by omega, fun j hj hij hjk => ?_⟩
  have hc : j = i ∨ (j = i + 1 ∧ 2 ≤ K) ∨ (j = i + 2 ∧ 3 ≤ K) ∨ (j = i + 3 ∧ 4 ≤ K) := by omega
  rcases hc with rfl | ⟨rfl, hk⟩ | ⟨rfl, hk⟩ | ⟨rfl, hk⟩
  · exact hb
  · rw [← get_bang]; omega
  · rw [← get_bang]; omega
  · rw [← get_bang]; omega

theorem dec_lo (s : ByteArray) (i : Nat) (hi : i < s.size) (hb : (s[i]'hi).toNat < 128) : Utf8.decode s i = ((s[i]'hi).toNat, 1) := by
  rw [decode_at, get_bang s i hi]
  unfold decodeN
  rw [if_pos hb]

end YtioppoaijehicaaGreatDoor

theorem Tryz.indexByte_any (s : ByteArray) (c : Int) (w : World) :
    Calls Tryz.prog 159 #[.string s, .int .u8 c] w fun e w' => e = .returned (.int .i64 (Lib.indexByte s.data.toList c.toNat.toUInt8)) ∧ w' = w := Any.strings_IndexByte { Tryz.idxL with } s c w

theorem Tryz.validRune_any (r : Int) (w : World) :
    Calls Tryz.prog 229 #[.int .i32 r] w fun e w' => e = .returned (.bool (Lib.validRune r)) ∧ w' = w := Any.utf8_ValidRune { Tryz.idxL with } r w

end Go.Proofs
/-
  WALKS: strings.IndexRune at a rune beyond ASCII among ASCII letters.
-/
namespace Go.Proofs.YtioppoaijehicaaGreatDoor
open Go.RowKit Go.Lib

theorem enc_hi (r : Int) (h : 128 ≤ r) : ∃ (m : Nat) (x : UInt8), 1 ≤ m ∧ m ≤ 3 ∧ (Utf8.encode r).size = m + 1 ∧ (Utf8.encode r).data.toList[m]? = some x ∧ 128 ≤ x.toNat := by
  unfold Utf8.encode
  have hc : 128 ≤ (if Utf8.valid r = true then r.toNat else Utf8.runeError) := by
    split
    · omega
    · decide
  generalize (if Utf8.valid r = true then r.toNat else Utf8.runeError) = c at *
  have hb : ∀ n : Nat, n < 64 → 128 ≤ (UInt8.ofNat (128 + n)).toNat := fun n hn => by rw [UInt8.toNat_ofNat']; omega
  simp only
  rw [if_neg (by omega)]
  split
  · exact ⟨1, _, by omega, by omega, rfl, rfl, hb _ (by omega)⟩
  · split
    · exact ⟨2, _, by omega, by omega, rfl, rfl, hb _ (by omega)⟩
    · exact ⟨3, _, by omega, by omega, rfl, rfl, hb _ (by omega)⟩

theorem conv_rune (r : Int) (w : World) : (convert 21 9 (.int .i32 r)).run Tryz.prog w = .ok (.string (Utf8.encode r)) w := by
  simp [convert, run_underlying Tryz.underlying21, run_underlying Tryz.underlying9, Conv.intToString]

theorem idx_str {s : ByteArray} {i : Nat} {x : UInt8} (h : s.data.toList[i]? = some x) (w : World) : (Instr.index 9 (.string s) (.int .i64 (i : Int))).run Tryz.prog w = .ok (.int .u8 x.toNat) w := by
  have hlt : i < s.size := by
    have := (List.getElem?_eq_some_iff.1 h).1
    rw [Array.length_toList] at this
    exact this
  have hx : s[i]'hlt = x := by
    rw [Array.getElem?_toList] at h
    have := (Array.getElem?_eq_some_iff.1 h).2
    exact this
  rw [run_index_string (h := Tryz.underlying9)]
  have h1 : (0 : Int) ≤ (i : Int) := by omega
  have h2 : (i : Int) < (s.size : Int) := by omega
  simp [h2, hx, hlt]

/-- ASCII letters alone. -/
def Ascii (s : ByteArray) : Prop := ∀ (j : Nat) b, s.data.toList[j]? = some b → b.toNat < 128

theorem indexByte_none {l : List UInt8} {c : UInt8} (h : ∀ x ∈ l, x ≠ c) : Lib.indexByte l c = -1 := by
  have h1 := Lib.contains_iff_indexByte l c
  have h2 : l.contains c = false := by
    cases hc : l.contains c with
    | false => rfl
    | true => exact absurd rfl (h c (by simpa using hc))
  rw [h2] at h1
  have h3 := Lib.indexByte_ge l c
  have h4 := of_decide_eq_false h1.symm
  omega

set_option maxHeartbeats 1600000 in
set_option maxRecDepth 100000 in
theorem indexRune_good (chars : ByteArray) (r : Int) (w : World) (h : 128 ≤ r) (hr : (r == 65533) = false) (ha : Ascii chars) (hs : chars.size ≤ 1000) :
    Calls Tryz.prog 198 #[.string chars, .int .i32 r] w fun e w' => e = .returned (.int .i64 (-1)) ∧ Below w.heap.size w w' := by
  obtain ⟨m, x, hm1, hm3, hE, hx, hx8⟩ := enc_hi r h
  have hcv := fun w => conv_rune r w
  have HX := hide hx
  have HA := hide ha
  generalize Utf8.encode r = E at *
  clear ha hx
  cases hV : Lib.validRune r with
  | false =>
    go_enter Tryz.func198, Tryz.ntmps198
    go_wp2_with (go_at_call 229; refine (Tryz.validRune_any _ _).mono ?_; rintro e w' ⟨rfl, hw⟩; rw [hw, hV]; clear hw)
    go_ret
    exact ⟨rfl, Below.refl _ _⟩
  | true =>
    go_enter Tryz.func198, Tryz.ntmps198
    go_wp2_with (go_at_call 229; refine (Tryz.validRune_any _ _).mono ?_; rintro e w' ⟨rfl, hw⟩; rw [hw, hV]; clear hw)
    have hwm : IntKind.i64.wrap (m : Int) = (m : Int) := by rw [IntKind.wrap_i64]; omega
    refine wp_scope_straight ?_
    go_wp2
    go_loop [9] (fun i => i = .int .i64 m) (fun _ => 0)
    case atStart => rfl
    case round =>
      subst hrel
      by_cases hlt : m < chars.size
      · obtain ⟨y, hy⟩ : ∃ y, chars.data.toList[m]? = some y := ⟨_, List.getElem?_eq_getElem (by rw [Array.length_toList]; exact hlt)⟩
        have hy8 := HA.out m y hy
        have i1 := idx_str hy
        have i2 := idx_str HX.out
        have hne : ((y.toNat : Int) != (x.toNat : Int)) = true := bne_iff_ne.2 (by omega)
        have hib : Lib.indexByte (chars.extract (m + 1) chars.size).data.toList ((x.toNat : Int)).toNat.toUInt8 = -1 := by
          refine indexByte_none (fun z hz => ?_)
          rw [Lib.extract_data] at hz
          obtain ⟨j, hj, rfl⟩ := List.getElem_of_mem (List.mem_of_mem_drop (List.mem_of_mem_take hz))
          have hz8 := HA.out j _ (List.getElem?_eq_getElem hj)
          intro he
          rw [he] at hz8
          simp at hz8
          omega
        have hw1 : IntKind.i64.wrap ((m : Int) + 1) = (m : Int) + 1 := by rw [IntKind.wrap_i64]; omega
        have j1 : (0 : Int) ≤ (m : Int) + 1 := by omega
        have j2 : (m : Int) + 1 ≤ (chars.size : Int) := by omega
        have hcall := fun w => Tryz.indexByte_any (chars.extract (m + 1) chars.size) (x.toNat : Int) w
        rw [hib] at hcall
        have HCALL := hide hcall
        clear hy hcall hib
        go_wp2_with fail
        refine wp_scope_straight ?_
        go_upto_region 6 with (fail)
        go_quiet (fail)
        generalize hV2 : w.drewN nq = V
        have HV := hide hV2
        clear hV2
        go_upto_region 7 with (fail)
        go_quiet ((go_at_call 159; exact Calls.quiet_of_same (HCALL.out _)))
        go_wp2
        simp +zetaDelta only [Exit.noGoto, Exit.inBlock, Exit.then]
        go_ret
        refine ⟨rfl, ?_⟩
        rw [← HV.out]
        exact bl_drewN (bl_drewN (Below.refl _ _) _) _
      · go_wp2_with fail
        go_ret
        exact ⟨rfl, Below.refl _ _⟩

set_option maxHeartbeats 1600000 in
set_option maxRecDepth 100000 in
theorem indexRune_err (chars : ByteArray) (w : World) (ha : Ascii chars) :
    Calls Tryz.prog 198 #[.string chars, .int .i32 65533] w fun e w' => e = .returned (.int .i64 (-1)) ∧ Below w.heap.size w w' := by
  have HA := hide ha
  clear ha
  go_enter Tryz.func198, Tryz.ntmps198
  go_wp2
  go_loopg [] chars.size (fun gf wx => ∃ pos : Nat, wx.heap[w.heap.size]? = some (.stringIter chars pos) ∧ Hid (Below w.heap.size w wx) ∧ chars.size ≤ pos + gf)
  case atStart => exact ⟨0, World.iter_heap w chars 0, hide ((Below.refl _ w).alloc (Nat.le_refl _) _), by omega⟩
  case round =>
    obtain ⟨pos, hit, HB, hfu⟩ := hrel
    by_cases hps : pos < chars.size
    · obtain ⟨g', rfl⟩ : ∃ g', gk = g' + 1 := ⟨gk - 1, by omega⟩
      have hb8 : (chars[pos]'hps).toNat < 128 := HA.out pos _ (Lib.data_getElem? chars pos hps)
      have hnx : ∀ ty, (Instr.next (.pointer (some ⟨w.heap.size, 0, none⟩)) true ty).run Tryz.prog wr = _ := fun ty => Lib.run_next_any_at wr w.heap.size chars pos ty hit hps
      rw [dec_lo chars pos hps hb8] at hnx
      have hit2 := Lib.iterAt_heap wr w.heap.size chars pos (pos + 1) hit
      have HB2 := hide (Lib.below_iterAt HB.out (k := w.heap.size) (Nat.le_refl _) chars (pos + 1))
      have HIT := hide hit2
      clear hit hit2
      generalize wr.iterAt w.heap.size chars (pos + 1) = W at *
      generalize (chars[pos]'hps).toNat = b at *
      have hne : (((b : Nat) : Int) == 65533) = false := beq_eq_false_iff_ne.2 (by omega)
      simp only at hnx
      go_wp2
      go_roundg g'
      case measure => omega
      case rel => exact ⟨pos + 1, HIT.out, HB2, by omega⟩
    · have hnx : ∀ ty, (Instr.next (.pointer (some ⟨w.heap.size, 0, none⟩)) true ty).run Tryz.prog wr = _ := fun ty => Lib.run_next_end_at wr w.heap.size chars pos ty hit hps
      go_wp2
      go_ret
      exact ⟨rfl, HB.out⟩

theorem indexRune_hi (chars : ByteArray) (r : Int) (w : World) (h : 128 ≤ r) (ha : Ascii chars) (hs : chars.size ≤ 1000) :
    Calls Tryz.prog 198 #[.string chars, .int .i32 r] w fun e w' => e = .returned (.int .i64 (-1)) ∧ Below w.heap.size w w' := by
  by_cases hr : r = 65533
  · subst hr
    exact indexRune_err chars w ha
  · exact indexRune_good chars r w h (beq_eq_false_iff_ne.2 hr) ha hs

theorem indexRune_lo (chars : ByteArray) (b : UInt8) (w : World) (h : b.toNat < 128) :
    Calls Tryz.prog 198 #[.string chars, .int .i32 b.toNat] w fun e w' => e = .returned (.int .i64 (Lib.indexByte chars.data.toList b)) ∧ Below w.heap.size w w' := by
  have := Any.strings_IndexRune_ascii { Tryz.idxL with } chars (b.toNat : Int) w (by omega) (by omega)
  refine this.mono ?_
  rintro e w' ⟨rfl, rfl⟩
  refine ⟨?_, Below.refl _ _⟩
  simp

end Go.Proofs.YtioppoaijehicaaGreatDoor
/-
  WALK: strings.IndexAny and ContainsAny at every string, among ASCII letters: the first byte that is one of them.
-/
namespace Go.Proofs.YtioppoaijehicaaGreatDoor
open Go.RowKit Go.Lib

theorem noAny_step {s chars : ByteArray} {i k : Nat} (h : NoAny s.data.toList chars.data.toList i) (ha : Ascii chars) (hk : ∀ j (hj : j < s.size), i ≤ j → j < i + k → 128 ≤ (s[j]'hj).toNat) : NoAny s.data.toList chars.data.toList (i + k) := by
  intro j b hj hb
  by_cases hji : j < i
  · exact h j b hji hb
  · have hlt : j < s.size := by
      have := (List.getElem?_eq_some_iff.1 hb).1
      rw [Array.length_toList] at this
      exact this
    have h1 := hk j hlt (by omega) hj
    have h2 : s[j]'hlt = b := by
      have := Lib.data_getElem? s j hlt
      rw [this] at hb
      exact Option.some.inj hb
    rw [h2] at h1
    cases hc : chars.data.toList.contains b with
    | false => rfl
    | true =>
      have hm : b ∈ chars.data.toList := by simpa using hc
      obtain ⟨q, hq, hq2⟩ := List.getElem_of_mem hm
      have := ha q b (by rw [List.getElem?_eq_getElem hq, hq2])
      omega

set_option maxHeartbeats 3200000 in
set_option maxRecDepth 100000 in
theorem indexAny_short (s chars : ByteArray) (w : World) (h2 : 2 ≤ chars.size) (hc : chars.size ≤ 1000) (h8 : s.size ≤ 8) (ha : Ascii chars) :
    Calls Tryz.prog 160 #[.string s, .string chars] w fun e w' => e = .returned (.int .i64 (Lib.indexAny s.data.toList chars.data.toList)) ∧ Below w.heap.size w w' := by
  have HA := hide ha
  clear ha
  have hemp : chars.toList.isEmpty = false := by
    rw [Lib.toList_data]
    cases h : chars.data.toList with
    | nil => have := Lib.size_eq chars; rw [h, List.length_nil] at this; omega
    | cons _ _ => rfl
  have hn1 : ((chars.size : Int) == 1) = false := beq_eq_false_iff_ne.2 (by omega)
  have h8z : decide ((8 : Int) < (s.size : Int)) = false := decide_eq_false (by omega)
  go_enter Tryz.func160, Tryz.ntmps160
  go_wp2_with (go_at_call 199; refine (Any.strings_shouldUseASCIISet { Tryz.idxL with } _ _).mono ?_; rintro e w' ⟨rfl, hw⟩; rw [hw, h8z]; clear hw)
  go_loopg [9, 10] s.size (fun gf _ _ wx => ∃ pos : Nat, wx.heap[w.heap.size]? = some (.stringIter s pos) ∧ Hid (Below w.heap.size w wx) ∧ s.size ≤ pos + gf ∧ Hid (NoAny s.data.toList chars.data.toList pos) ∧ pos ≤ s.size)
  case atStart => exact ⟨0, World.iter_heap w s 0, hide ((Below.refl _ w).alloc (Nat.le_refl _) _), by omega, hide (NoAny.zero _ _), Nat.zero_le _⟩
  case round =>
    obtain ⟨pos, hit, HB, hfu, HN, hpl⟩ := hrel
    by_cases hps : pos < s.size
    · obtain ⟨g', rfl⟩ : ∃ g', gk = g' + 1 := ⟨gk - 1, by omega⟩
      have hnx : ∀ ty, (Instr.next (.pointer (some ⟨w.heap.size, 0, none⟩)) true ty).run Tryz.prog wr = _ := fun ty => Lib.run_next_any_at wr w.heap.size s pos ty hit hps
      have hwlt : w.heap.size < wr.heap.size := (Array.getElem?_eq_some_iff.1 hit).1
      by_cases hb8 : (s[pos]'hps).toNat < 128
      · rw [dec_lo s pos hps hb8] at hnx
        have hit2 := Lib.iterAt_heap wr w.heap.size s pos (pos + 1) hit
        have HB2 := hide (Lib.below_iterAt HB.out (k := w.heap.size) (Nat.le_refl _) s (pos + 1))
        have HIT := hide hit2
        have HX := hide (Lib.data_getElem? s pos hps)
        clear hit hit2
        generalize wr.iterAt w.heap.size s (pos + 1) = W at *
        generalize s[pos]'hps = b at *
        have hcon := Lib.contains_iff_indexByte chars.data.toList b
        simp only at hnx
        cases hin : chars.data.toList.contains b
        · rw [hin] at hcon
          have hlt : ¬ ((0 : Int) ≤ Lib.indexByte chars.data.toList b) := of_decide_eq_false hcon.symm
          have HNX := hide (HN.out.succ HX.out hin)
          clear hcon hin
          go_wp2_with (go_at_call 198; refine (indexRune_lo chars b _ hb8).mono ?_; rintro e w' ⟨rfl, hb⟩; have HB3 := hide hb; clear hb)
          go_roundg g'
          case measure => omega
          case rel => exact ⟨pos + 1, (HB3.out.block _ (Array.getElem?_eq_some_iff.1 HIT.out).1).trans HIT.out, hide (HB2.out.trans (HB3.out.mono HB2.out.size)), by omega, HNX, by omega⟩
        · rw [hin] at hcon
          have hge : (0 : Int) ≤ Lib.indexByte chars.data.toList b := of_decide_eq_true hcon.symm
          have HNX := hide (Lib.indexAny_hit HN.out HX.out hin)
          clear hcon hin
          go_wp2_with (go_at_call 198; refine (indexRune_lo chars b _ hb8).mono ?_; rintro e w' ⟨rfl, hb⟩; have HB3 := hide hb; clear hb)
          go_ret
          exact ⟨by rw [HNX.out]; rfl, HB2.out.trans (HB3.out.mono HB2.out.size)⟩
      · obtain ⟨hR, hwp, hK, hall⟩ := dec_hi s pos hps (by omega)
        have HNX := hide (noAny_step HN.out HA.out hall)
        clear hall
        generalize Utf8.decode s pos = D at *
        obtain ⟨R, K⟩ := D
        simp only at hR hK hwp hnx HNX
        have hit2 := Lib.iterAt_heap wr w.heap.size s pos (pos + K) hit
        have HB2 := hide (Lib.below_iterAt HB.out (k := w.heap.size) (Nat.le_refl _) s (pos + K))
        have HIT := hide hit2
        clear hit hit2
        generalize wr.iterAt w.heap.size s (pos + K) = W at *
        go_wp2_with (go_at_call 198; refine (indexRune_hi chars (R : Int) _ (by omega) HA.out hc).mono ?_; rintro e w' ⟨rfl, hb⟩; have HB3 := hide hb; clear hb)
        go_roundg g'
        case measure => omega
        case rel => exact ⟨pos + K, (HB3.out.block _ (Array.getElem?_eq_some_iff.1 HIT.out).1).trans HIT.out, hide (HB2.out.trans (HB3.out.mono HB2.out.size)), by omega, HNX, by omega⟩
    · have hnx : ∀ ty, (Instr.next (.pointer (some ⟨w.heap.size, 0, none⟩)) true ty).run Tryz.prog wr = _ := fun ty => Lib.run_next_end_at wr w.heap.size s pos ty hit hps
      have hpe : pos = s.size := by omega
      have HNX := hide (Lib.indexAny_none (s := s.data.toList) (chars := chars.data.toList) (by rw [← Lib.size_eq, ← hpe]; exact HN.out))
      clear hpe
      go_wp2
      go_ret
      exact ⟨by rw [HNX.out]; rfl, HB.out⟩

theorem indexAny_any (s chars : ByteArray) (w : World) (h2 : 2 ≤ chars.size) (hc : chars.size ≤ 1000) (hs : s.size < 4294967281) (ha : Ascii chars) :
    Calls Tryz.prog 160 #[.string s, .string chars] w fun e w' => e = .returned (.int .i64 (Lib.indexAny s.data.toList chars.data.toList)) ∧ Below w.heap.size w w' := by
  by_cases h8 : s.size ≤ 8
  · exact indexAny_short s chars w h2 hc h8 ha
  · refine (Any.strings_IndexAny_long { Tryz.idxL with } (zero_of_info (v := .agg (Array.replicate 256 (.bool false))) (n := 256) (by kernel_rfl)).1 (zero_of_info (v := .agg (Array.replicate 256 (.bool false))) (n := 256) (by kernel_rfl)).2 s chars w h2 (by omega) hs (by omega) ha).mono ?_
    rintro e w' ⟨he, rfl⟩
    exact ⟨he, by repeat (first | exact Below.refl _ _ | refine bl_alloc ?_ _)⟩

end Go.Proofs.YtioppoaijehicaaGreatDoor
