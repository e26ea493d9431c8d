/-
  WALKS: strings.IndexRune at a rune beyond ASCII among ASCII letters.
-/
import Derived.Test.YtidpfjdlchffcaaDoorIxa
import Derived.Test.YtidpfjdlchffcaaDoorInts
import Derived.Scope
import Derived.Deep.QuietTactic
import Derived.BigQuiet
import Derived.Deep.CutBlock
set_option linter.all false
namespace Go.Proofs.YtidpfjdlchffcaaDoor
open Go.RowKit Go.Lib

theorem enc_hi (r : Int) (h : 128 ≤ r) : ∃ (m : Nat) (x : UInt8), 1 ≤ m ∧ m ≤ 3 ∧ (Utf8.encode r).size = m + 1 ∧ (Utf8.encode r).data.toList[m]? = some x ∧ 128 ≤ x.toNat := by
  unfold Utf8.encode
  have hc : 128 ≤ (if Utf8.valid r = true then r.toNat else Utf8.runeError) := by
    split
    · omega
    · decide
  generalize (if Utf8.valid r = true then r.toNat else Utf8.runeError) = c at *
  have hb : ∀ n : Nat, n < 64 → 128 ≤ (UInt8.ofNat (128 + n)).toNat := fun n hn => by rw [UInt8.toNat_ofNat']; omega
  simp only
  rw [if_neg (by omega)]
  split
  · exact ⟨1, _, by omega, by omega, rfl, rfl, hb _ (by omega)⟩
  · split
    · exact ⟨2, _, by omega, by omega, rfl, rfl, hb _ (by omega)⟩
    · exact ⟨3, _, by omega, by omega, rfl, rfl, hb _ (by omega)⟩

theorem conv_rune (r : Int) (w : World) : (convert 21 9 (.int .i32 r)).run Tryd.prog w = .ok (.string (Utf8.encode r)) w := by
  simp [convert, run_underlying Tryd.underlying21, run_underlying Tryd.underlying9, Conv.intToString]

theorem idx_str {s : ByteArray} {i : Nat} {x : UInt8} (h : s.data.toList[i]? = some x) (w : World) : (Instr.index 9 (.string s) (.int .i64 (i : Int))).run Tryd.prog w = .ok (.int .u8 x.toNat) w := by
  have hlt : i < s.size := by
    have := (List.getElem?_eq_some_iff.1 h).1
    rw [Array.length_toList] at this
    exact this
  have hx : s[i]'hlt = x := by
    rw [Array.getElem?_toList] at h
    have := (Array.getElem?_eq_some_iff.1 h).2
    exact this
  rw [run_index_string (h := Tryd.underlying9)]
  have h1 : (0 : Int) ≤ (i : Int) := by omega
  have h2 : (i : Int) < (s.size : Int) := by omega
  simp [h2, hx, hlt]

/-- ASCII letters alone. -/
def Ascii (s : ByteArray) : Prop := ∀ (j : Nat) b, s.data.toList[j]? = some b → b.toNat < 128

theorem indexByte_none {l : List UInt8} {c : UInt8} (h : ∀ x ∈ l, x ≠ c) : Lib.indexByte l c = -1 := by
  have h1 := Lib.contains_iff_indexByte l c
  have h2 : l.contains c = false := by
    cases hc : l.contains c with
    | false => rfl
    | true => exact absurd rfl (h c (by simpa using hc))
  rw [h2] at h1
  have h3 := Lib.indexByte_ge l c
  have h4 := of_decide_eq_false h1.symm
  omega

set_option maxHeartbeats 1600000 in
set_option maxRecDepth 100000 in
theorem indexRune_good (chars : ByteArray) (r : Int) (w : World) (h : 128 ≤ r) (hr : (r == 65533) = false) (ha : Ascii chars) (hs : chars.size ≤ 1000) :
    Calls Tryd.prog 45 #[.string chars, .int .i32 r] w fun e w' => e = .returned (.int .i64 (-1)) ∧ Below w.heap.size w w' := by
  obtain ⟨m, x, hm1, hm3, hE, hx, hx8⟩ := enc_hi r h
  have hcv := fun w => conv_rune r w
  have HX := hide hx
  have HA := hide ha
  generalize Utf8.encode r = E at *
  clear ha hx
  cases hV : Lib.validRune r with
  | false =>
    go_enter Tryd.func45, Tryd.ntmps45
    go_wp2_with (go_at_call 61; refine (Tryd.validRune_any _ _).mono ?_; rintro e w' ⟨rfl, hw⟩; rw [hw, hV]; clear hw)
    go_ret
    exact ⟨rfl, Below.refl _ _⟩
  | true =>
    go_enter Tryd.func45, Tryd.ntmps45
    go_wp2_with (go_at_call 61; refine (Tryd.validRune_any _ _).mono ?_; rintro e w' ⟨rfl, hw⟩; rw [hw, hV]; clear hw)
    have hwm : IntKind.i64.wrap (m : Int) = (m : Int) := by rw [IntKind.wrap_i64]; omega
    refine wp_scope_straight ?_
    go_wp2
    go_loop [9] (fun i => i = .int .i64 m) (fun _ => 0)
    case atStart => rfl
    case round =>
      subst hrel
      by_cases hlt : m < chars.size
      · obtain ⟨y, hy⟩ : ∃ y, chars.data.toList[m]? = some y := ⟨_, List.getElem?_eq_getElem (by rw [Array.length_toList]; exact hlt)⟩
        have hy8 := HA.out m y hy
        have i1 := idx_str hy
        have i2 := idx_str HX.out
        have hne : ((y.toNat : Int) != (x.toNat : Int)) = true := bne_iff_ne.2 (by omega)
        have hib : Lib.indexByte (chars.extract (m + 1) chars.size).data.toList ((x.toNat : Int)).toNat.toUInt8 = -1 := by
          refine indexByte_none (fun z hz => ?_)
          rw [Lib.extract_data] at hz
          obtain ⟨j, hj, rfl⟩ := List.getElem_of_mem (List.mem_of_mem_drop (List.mem_of_mem_take hz))
          have hz8 := HA.out j _ (List.getElem?_eq_getElem hj)
          intro he
          rw [he] at hz8
          simp at hz8
          omega
        have hw1 : IntKind.i64.wrap ((m : Int) + 1) = (m : Int) + 1 := by rw [IntKind.wrap_i64]; omega
        have j1 : (0 : Int) ≤ (m : Int) + 1 := by omega
        have j2 : (m : Int) + 1 ≤ (chars.size : Int) := by omega
        have hcall := fun w => Tryd.indexByte_any (chars.extract (m + 1) chars.size) (x.toNat : Int) w
        rw [hib] at hcall
        have HCALL := hide hcall
        clear hy hcall hib
        go_wp2_with fail
        refine wp_scope_straight ?_
        go_upto_region 6 with (fail)
        go_quiet (fail)
        generalize hV2 : w.drewN nq = V
        have HV := hide hV2
        clear hV2
        go_upto_region 7 with (fail)
        go_quiet ((go_at_call 60; exact Calls.quiet_of_same (HCALL.out _)))
        go_wp2
        simp +zetaDelta only [Exit.noGoto, Exit.inBlock, Exit.then]
        go_ret
        refine ⟨rfl, ?_⟩
        rw [← HV.out]
        exact bl_drewN (bl_drewN (Below.refl _ _) _) _
      · go_wp2_with fail
        go_ret
        exact ⟨rfl, Below.refl _ _⟩

set_option maxHeartbeats 1600000 in
set_option maxRecDepth 100000 in
theorem indexRune_err (chars : ByteArray) (w : World) (ha : Ascii chars) :
    Calls Tryd.prog 45 #[.string chars, .int .i32 65533] w fun e w' => e = .returned (.int .i64 (-1)) ∧ Below w.heap.size w w' := by
  have HA := hide ha
  clear ha
  go_enter Tryd.func45, Tryd.ntmps45
  go_wp2
  go_loopg [] chars.size (fun gf wx => ∃ pos : Nat, wx.heap[w.heap.size]? = some (.stringIter chars pos) ∧ Hid (Below w.heap.size w wx) ∧ chars.size ≤ pos + gf)
  case atStart => exact ⟨0, World.iter_heap w chars 0, hide ((Below.refl _ w).alloc (Nat.le_refl _) _), by omega⟩
  case round =>
    obtain ⟨pos, hit, HB, hfu⟩ := hrel
    by_cases hps : pos < chars.size
    · obtain ⟨g', rfl⟩ : ∃ g', gk = g' + 1 := ⟨gk - 1, by omega⟩
      have hb8 : (chars[pos]'hps).toNat < 128 := HA.out pos _ (Lib.data_getElem? chars pos hps)
      have hnx : ∀ ty, (Instr.next (.pointer (some ⟨w.heap.size, 0, none⟩)) true ty).run Tryd.prog wr = _ := fun ty => Lib.run_next_any_at wr w.heap.size chars pos ty hit hps
      rw [dec_lo chars pos hps hb8] at hnx
      have hit2 := Lib.iterAt_heap wr w.heap.size chars pos (pos + 1) hit
      have HB2 := hide (Lib.below_iterAt HB.out (k := w.heap.size) (Nat.le_refl _) chars (pos + 1))
      have HIT := hide hit2
      clear hit hit2
      generalize wr.iterAt w.heap.size chars (pos + 1) = W at *
      generalize (chars[pos]'hps).toNat = b at *
      have hne : (((b : Nat) : Int) == 65533) = false := beq_eq_false_iff_ne.2 (by omega)
      simp only at hnx
      go_wp2
      go_roundg g'
      case measure => omega
      case rel => exact ⟨pos + 1, HIT.out, HB2, by omega⟩
    · have hnx : ∀ ty, (Instr.next (.pointer (some ⟨w.heap.size, 0, none⟩)) true ty).run Tryd.prog wr = _ := fun ty => Lib.run_next_end_at wr w.heap.size chars pos ty hit hps
      go_wp2
      go_ret
      exact ⟨rfl, HB.out⟩

theorem indexRune_hi (chars : ByteArray) (r : Int) (w : World) (h : 128 ≤ r) (ha : Ascii chars) (hs : chars.size ≤ 1000) :
    Calls Tryd.prog 45 #[.string chars, .int .i32 r] w fun e w' => e = .returned (.int .i64 (-1)) ∧ Below w.heap.size w w' := by
  by_cases hr : r = 65533
  · subst hr
    exact indexRune_err chars w ha
  · exact indexRune_good chars r w h (beq_eq_false_iff_ne.2 hr) ha hs

theorem indexRune_lo (chars : ByteArray) (b : UInt8) (w : World) (h : b.toNat < 128) :
    Calls Tryd.prog 45 #[.string chars, .int .i32 b.toNat] w fun e w' => e = .returned (.int .i64 (Lib.indexByte chars.data.toList b)) ∧ Below w.heap.size w w' := by
  have := Any.strings_IndexRune_ascii { Tryd.idxL with } chars (b.toNat : Int) w (by omega) (by omega)
  refine this.mono ?_
  rintro e w' ⟨rfl, rfl⟩
  refine ⟨?_, Below.refl _ _⟩
  simp

end Go.Proofs.YtidpfjdlchffcaaDoor
