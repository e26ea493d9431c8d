/-
  WALK: strings.IndexAny and ContainsAny at every string, among ASCII letters: the first byte that is one of them.
-/
import Derived.Test.YtidpfjdlchffcaaDoorIxb
set_option linter.all false
namespace Go.Proofs.YtidpfjdlchffcaaDoor
open Go.RowKit Go.Lib

theorem noAny_step {s chars : ByteArray} {i k : Nat} (h : NoAny s.data.toList chars.data.toList i) (ha : Ascii chars) (hk : ∀ j (hj : j < s.size), i ≤ j → j < i + k → 128 ≤ (s[j]'hj).toNat) : NoAny s.data.toList chars.data.toList (i + k) := by
  intro j b hj hb
  by_cases hji : j < i
  · exact h j b hji hb
  · have hlt : j < s.size := by
      have := (List.getElem?_eq_some_iff.1 hb).1
      rw [Array.length_toList] at this
      exact this
    have h1 := hk j hlt (by omega) hj
    have h2 : s[j]'hlt = b := by
      have := Lib.data_getElem? s j hlt
      rw [this] at hb
      exact Option.some.inj hb
    rw [h2] at h1
    cases hc : chars.data.toList.contains b with
    | false => rfl
    | true =>
      have hm : b ∈ chars.data.toList := by simpa using hc
      obtain ⟨q, hq, hq2⟩ := List.getElem_of_mem hm
      have := ha q b (by rw [List.getElem?_eq_getElem hq, hq2])
      omega

set_option maxHeartbeats 3200000 in
set_option maxRecDepth 100000 in
theorem indexAny_short (s chars : ByteArray) (w : World) (h2 : 2 ≤ chars.size) (hc : chars.size ≤ 1000) (h8 : s.size ≤ 8) (ha : Ascii chars) :
    Calls Tryd.prog 27 #[.string s, .string chars] w fun e w' => e = .returned (.int .i64 (Lib.indexAny s.data.toList chars.data.toList)) ∧ Below w.heap.size w w' := by
  have HA := hide ha
  clear ha
  have hemp : chars.toList.isEmpty = false := by
    rw [Lib.toList_data]
    cases h : chars.data.toList with
    | nil => have := Lib.size_eq chars; rw [h, List.length_nil] at this; omega
    | cons _ _ => rfl
  have hn1 : ((chars.size : Int) == 1) = false := beq_eq_false_iff_ne.2 (by omega)
  have h8z : decide ((8 : Int) < (s.size : Int)) = false := decide_eq_false (by omega)
  go_enter Tryd.func27, Tryd.ntmps27
  go_wp2_with (go_at_call 46; refine (Any.strings_shouldUseASCIISet { Tryd.idxL with } _ _).mono ?_; rintro e w' ⟨rfl, hw⟩; rw [hw, h8z]; clear hw)
  go_loopg [9, 10] s.size (fun gf _ _ wx => ∃ pos : Nat, wx.heap[w.heap.size]? = some (.stringIter s pos) ∧ Hid (Below w.heap.size w wx) ∧ s.size ≤ pos + gf ∧ Hid (NoAny s.data.toList chars.data.toList pos) ∧ pos ≤ s.size)
  case atStart => exact ⟨0, World.iter_heap w s 0, hide ((Below.refl _ w).alloc (Nat.le_refl _) _), by omega, hide (NoAny.zero _ _), Nat.zero_le _⟩
  case round =>
    obtain ⟨pos, hit, HB, hfu, HN, hpl⟩ := hrel
    by_cases hps : pos < s.size
    · obtain ⟨g', rfl⟩ : ∃ g', gk = g' + 1 := ⟨gk - 1, by omega⟩
      have hnx : ∀ ty, (Instr.next (.pointer (some ⟨w.heap.size, 0, none⟩)) true ty).run Tryd.prog wr = _ := fun ty => Lib.run_next_any_at wr w.heap.size s pos ty hit hps
      have hwlt : w.heap.size < wr.heap.size := (Array.getElem?_eq_some_iff.1 hit).1
      by_cases hb8 : (s[pos]'hps).toNat < 128
      · rw [dec_lo s pos hps hb8] at hnx
        have hit2 := Lib.iterAt_heap wr w.heap.size s pos (pos + 1) hit
        have HB2 := hide (Lib.below_iterAt HB.out (k := w.heap.size) (Nat.le_refl _) s (pos + 1))
        have HIT := hide hit2
        have HX := hide (Lib.data_getElem? s pos hps)
        clear hit hit2
        generalize wr.iterAt w.heap.size s (pos + 1) = W at *
        generalize s[pos]'hps = b at *
        have hcon := Lib.contains_iff_indexByte chars.data.toList b
        simp only at hnx
        cases hin : chars.data.toList.contains b
        · rw [hin] at hcon
          have hlt : ¬ ((0 : Int) ≤ Lib.indexByte chars.data.toList b) := of_decide_eq_false hcon.symm
          have HNX := hide (HN.out.succ HX.out hin)
          clear hcon hin
          go_wp2_with (go_at_call 45; refine (indexRune_lo chars b _ hb8).mono ?_; rintro e w' ⟨rfl, hb⟩; have HB3 := hide hb; clear hb)
          go_roundg g'
          case measure => omega
          case rel => exact ⟨pos + 1, (HB3.out.block _ (Array.getElem?_eq_some_iff.1 HIT.out).1).trans HIT.out, hide (HB2.out.trans (HB3.out.mono HB2.out.size)), by omega, HNX, by omega⟩
        · rw [hin] at hcon
          have hge : (0 : Int) ≤ Lib.indexByte chars.data.toList b := of_decide_eq_true hcon.symm
          have HNX := hide (Lib.indexAny_hit HN.out HX.out hin)
          clear hcon hin
          go_wp2_with (go_at_call 45; refine (indexRune_lo chars b _ hb8).mono ?_; rintro e w' ⟨rfl, hb⟩; have HB3 := hide hb; clear hb)
          go_ret
          exact ⟨by rw [HNX.out]; rfl, HB2.out.trans (HB3.out.mono HB2.out.size)⟩
      · obtain ⟨hR, hwp, hK, hall⟩ := dec_hi s pos hps (by omega)
        have HNX := hide (noAny_step HN.out HA.out hall)
        clear hall
        generalize Utf8.decode s pos = D at *
        obtain ⟨R, K⟩ := D
        simp only at hR hK hwp hnx HNX
        have hit2 := Lib.iterAt_heap wr w.heap.size s pos (pos + K) hit
        have HB2 := hide (Lib.below_iterAt HB.out (k := w.heap.size) (Nat.le_refl _) s (pos + K))
        have HIT := hide hit2
        clear hit hit2
        generalize wr.iterAt w.heap.size s (pos + K) = W at *
        go_wp2_with (go_at_call 45; refine (indexRune_hi chars (R : Int) _ (by omega) HA.out hc).mono ?_; rintro e w' ⟨rfl, hb⟩; have HB3 := hide hb; clear hb)
        go_roundg g'
        case measure => omega
        case rel => exact ⟨pos + K, (HB3.out.block _ (Array.getElem?_eq_some_iff.1 HIT.out).1).trans HIT.out, hide (HB2.out.trans (HB3.out.mono HB2.out.size)), by omega, HNX, by omega⟩
    · have hnx : ∀ ty, (Instr.next (.pointer (some ⟨w.heap.size, 0, none⟩)) true ty).run Tryd.prog wr = _ := fun ty => Lib.run_next_end_at wr w.heap.size s pos ty hit hps
      have hpe : pos = s.size := by omega
      have HNX := hide (Lib.indexAny_none (s := s.data.toList) (chars := chars.data.toList) (by rw [← Lib.size_eq, ← hpe]; exact HN.out))
      clear hpe
      go_wp2
      go_ret
      exact ⟨by rw [HNX.out]; rfl, HB.out⟩

theorem indexAny_any (s chars : ByteArray) (w : World) (h2 : 2 ≤ chars.size) (hc : chars.size ≤ 1000) (hs : s.size < 4294967281) (ha : Ascii chars) :
    Calls Tryd.prog 27 #[.string s, .string chars] w fun e w' => e = .returned (.int .i64 (Lib.indexAny s.data.toList chars.data.toList)) ∧ Below w.heap.size w w' := by
  by_cases h8 : s.size ≤ 8
  · exact indexAny_short s chars w h2 hc h8 ha
  · refine (Any.strings_IndexAny_long { Tryd.idxL with } (zero_of_info (v := .agg (Array.replicate 256 (.bool false))) (n := 256) (by kernel_rfl)).1 (zero_of_info (v := .agg (Array.replicate 256 (.bool false))) (n := 256) (by kernel_rfl)).2 s chars w h2 (by omega) hs (by omega) ha).mono ?_
    rintro e w' ⟨he, rfl⟩
    exact ⟨he, by repeat (first | exact Below.refl _ _ | refine bl_alloc ?_ _)⟩

end Go.Proofs.YtidpfjdlchffcaaDoor
