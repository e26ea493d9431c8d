/-
  WALKS: the reader's part that begins with a word.
-/
import Derived.Test.YtfklaahakibljaaQryP
import Derived.Deep.RegionHeld3
import Derived.Deep.CutBlock
import Derived.Deep.CutRange
namespace Go.Proofs.Ytfklaahakibljaa
open Go.RowKit Go.Shelf

/-- Where the scan stops. -/
theorem scan_stop {s : ByteArray} {i k : Nat} (hk1 : i ≤ k) (hk2 : k ≤ s.size) (hk3 : k ≤ i + 30) (hK : wEnd s k = wEnd s i) (h : ¬ (k < s.size ∧ k < i + 30 ∧ isWI (sb s k).toNat = true)) :
    kEnd s i = k ∧ (k < wEnd s i ↔ (k < s.size ∧ k = i + 30 ∧ isWI (sb s k).toNat = true)) := by
  have hge : k ≤ wEnd s k := wEnd_geS s _ k
  unfold kEnd
  rw [← hK]
  by_cases h1 : k < s.size
  · by_cases h2 : isWI (sb s k).toNat = true
    · have h3 : k = i + 30 := by
        rcases Nat.lt_or_ge k (i + 30) with h4 | h4
        · exact absurd ⟨h1, h4, h2⟩ h
        · omega
      refine ⟨by omega, fun _ => ⟨h1, h3, h2⟩, fun _ => ?_⟩
      rw [sb_at h1] at h2
      rw [wEnd_step h1 h2]
      exact wEnd_geS s _ (k + 1)
    · have h3 : wEnd s k = k := wEnd_stop h1 (by rw [← sb_at h1]; simpa using h2)
      rw [h3]
      exact ⟨by omega, fun h => absurd h (Nat.lt_irrefl _), fun ⟨_, _, h⟩ => absurd h h2⟩
  · have h3 : wEnd s k = k := wEnd_over (by omega)
    rw [h3]
    exact ⟨by omega, fun h => absurd h (Nat.lt_irrefl _), fun ⟨h, _⟩ => absurd h h1⟩
theorem loop_next {w W : World} {g m q : Nat} {t : TypeId} {cs : Array Value} {o : Obj} {os : Array Obj} {v : Value} (hl : g < w.heap.size) (hW : plus ((putBlk w g t cs).alloc o) os m = W) :
    (W.drewN q).setCell ⟨g, 1, none⟩ v = plus ((putBlk w g t (cs.setIfInBounds 1 v)).alloc o) os (m + q) := by
  subst hW
  show (plus ((putBlk w g t cs).alloc o) os (m + q)).setCell ⟨g, 1, none⟩ v = _
  rw [plus_setCell (by rw [World.size_alloc, putBlk_size]; omega), set_put ((putBlk_at hl).alloc o), putBlk_alloc (by rw [putBlk_size]; exact hl), putBlk_put]

theorem rd_next {w W : World} {g m q m2 : Nat} {t : TypeId} {cs cs' : Array Value} {o : Obj} {os os2 : Array Obj} (hl : g < w.heap.size) (hW : plus ((putBlk w g t cs).alloc o) os m = W) :
    plus (putBlk (W.drewN q) g t cs') os2 m2 = plus ((putBlk w g t cs').alloc o) (os ++ os2) m2 := by
  subst hW
  show plus (putBlk (plus ((putBlk w g t cs).alloc o) os (m + q)) g t cs') os2 m2 = _
  rw [putBlk_plus (by rw [World.size_alloc, putBlk_size]; omega), putBlk_alloc (by rw [putBlk_size]; exact hl), putBlk_put, plus_plus]

theorem cell_alloc_lt {w : World} {b i : Nat} {o : Obj} (h : b < w.heap.size) : (w.alloc o).cell? ⟨b, i, none⟩ = w.cell? ⟨b, i, none⟩ := World.cell?_of_block (Below.heap_alloc w o b h)
theorem cell_setCell_lt {w : World} {b i b' i' : Nat} {v : Value} (h : b < b') : (w.setCell ⟨b', i', none⟩ v).cell? ⟨b, i, none⟩ = w.cell? ⟨b, i, none⟩ := World.cell?_of_block (Below.heap_setCell w ⟨b', i', none⟩ v b (by show b ≠ b'; omega))

theorem part_end {s : ByteArray} {g i k j : Nat} {w w' : World} {wr q : Int} {A : Option Addr} {c : Nat} {lo : ByteArray} {e : Ending} (HWR : Hid ((wr = -1 ∧ ¬ (kEnd s i = i ∨ kEnd s i < wEnd s i)) ∨ (wr = k ∧ (kEnd s i = i ∨ kEnd s i < wEnd s i))))
    (hR : ¬ (kEnd s i = i ∨ kEnd s i < wEnd s i) → wordR s i = .good ⟨q, [lo]⟩ j) (hk : kEnd s i = k) (hj : j ≤ s.size) (he : e = .returned (.agg #[.int .i64 q, .slice A 1 c])) (hst : StrsIn w' A [lo]) (hrd : RdTo w g s (j : Nat) wr w') : PartOut s g w (wordR s i) e w' := by
  rcases HWR.out with ⟨rfl, h⟩ | ⟨rfl, h⟩
  · rw [hR h]
    exact ⟨A, c, he, hst, hrd⟩
  · have h2 : wordR s i = .bad k := by
      unfold wordR
      rw [if_pos h, hk]
    rw [h2]
    exact ⟨q, A, 1, c, j, he, hj, hrd⟩
theorem Blk.new' {w : World} {g : Nat} {t : TypeId} {cs : Array Value} (hg : g = w.heap.size) : Blk (w.alloc (.cells cs t)) g t cs := by subst hg; exact Blk.new w t cs
theorem strs_one {W : World} {b : Nat} {x : ByteArray} (h : Blk W b 9 #[.string x]) : StrsIn W (some ⟨b, 0, none⟩) [x] := fun _ => ⟨b, _, rfl, h, fun j hj => by
  have : j = 0 := by simpa using hj
  subst this
  rfl⟩

set_option maxHeartbeats 6400000 in
set_option maxRecDepth 100000 in
theorem part_word (s : ByteArray) (i g : Nat) (w : World) (h : Blk w g 94 #[.string s, .int .i64 i, .int .i64 (-1)]) (hi : i ≤ s.size) (hc : ∀ h : i < s.size, (s[i].toNat : Int) ≠ 34) (hs : s.size ≤ 400) :
    Calls Try.prog 136 #[.pointer (some ⟨g, 0, none⟩)] w (PartOut s g w (wordR s i)) := by
  have hl := h.lt
  have HT := hide (fun w' (h' : Blk w' g 94 #[.string s, .int .i64 i, .int .i64 (-1)]) => take_no s i g (-1) 34 w' h' hi hc hs)
  have H := hide h
  clear h hc
  go_enter Try.func136, Try.ntmps136
  go_upto_block 0 with (first
    | (go_at_call 65; refine (HT.out _ (H.out.alloc _)).mono ?_; rintro e w' ⟨rfl, os, n, rfl⟩))
  go_cut [] from 13 to 50 (fun wx => ∃ (k : Nat) (os' : Array Obj) (m : Nat), i ≤ k ∧ k ≤ s.size ∧ k ≤ i + 30 ∧ Hid (wEnd s k = wEnd s i ∧ ¬ (k < s.size ∧ k < i + 30 ∧ isWI (sb s k).toNat = true)) ∧ wx = plus ((putBlk w g 94 #[.string s, .int .i64 k, .int .i64 (-1)]).alloc (.cells #[.int .i64 0, .slice none 0 0] 102)) os' m)
  case first =>
    go_wp2_with fail
    go_loopw [] (fun wr => ∃ (k : Nat) (os' : Array Obj) (m : Nat), i ≤ k ∧ k ≤ s.size ∧ k ≤ i + 30 ∧ Hid (wEnd s k = wEnd s i) ∧ wr = plus ((putBlk w g 94 #[.string s, .int .i64 k, .int .i64 (-1)]).alloc (.cells #[.int .i64 0, .slice none 0 0] 102)) os' m) (fun wr => s.size - (intOf ((wr.cell? ⟨g, 1, none⟩).getD undef)).toNat)
    case atStart => exact ⟨i, _, _, Nat.le_refl _, hi, by omega, hide rfl, rfl⟩
    case round =>
      obtain ⟨k, os', m, hk1, hk2, hk3, HK, rfl⟩ := hrel
      have HB := ((putBlk_at (t := 94) (cs := #[.string s, .int .i64 k, .int .i64 (-1)]) hl).alloc (.cells #[.int .i64 0, .slice none 0 0] 102)).plus (os := os') (n := m)
      generalize hW : plus ((putBlk w g 94 #[.string s, .int .i64 k, .int .i64 (-1)]).alloc (.cells #[.int .i64 0, .slice none 0 0] 102)) os' m = W at *
      have HWW := hide hW
      have c0 := HB.cell 0
      have c1 := HB.cell 1
      have f1 := HB.frozen 1
      have hlW := HB.lt
      simp only [List.getElem?_toArray, List.getElem?_cons_zero, List.getElem?_cons_succ] at c0 c1
      clear hW HB
      by_cases hkl : k < s.size ∧ k < i + 30 ∧ isWI (sb s k).toNat = true
      · obtain ⟨hks, hkb, hkw⟩ := hkl
        rw [sb_at hks] at hkw
        have hst := wEnd_step hks hkw
        have HST := hide (hst.symm.trans HK.out)
        have hbd : 0 ≤ (s[k].toNat : Int) ∧ (s[k].toNat : Int) ≤ 255 := by have := s[k].toNat_lt; omega
        have hw := fun w => isWordByte_any (s[k].toNat : Int) w hbd.1 hbd.2
        rw [hkw] at hw
        have HW := hide hw
        have k1 : (k : Int) < (s.size : Int) := by omega
        have k0 : (0 : Int) ≤ (k : Int) := by omega
        have x1 : IntKind.i64.wrap ((k : Int) - (i : Int)) = (k : Int) - (i : Int) := by rw [wrap_small] <;> omega
        have x2 : IntKind.i64.wrap ((k : Int) + 1) = ((k + 1 : Nat) : Int) := by rw [wrap_small] <;> omega
        have x3 : (k : Int) - (i : Int) < 30 := by omega
        clear hst hw hkw hbd
        go_wp2_with fail
        go_quiet ((go_at_call 134; exact Calls.quiet_of_same ((HW.out _).mono fun _ _ h => ⟨h.1, h.2.symm⟩)))
        go_wp2
        go_roundw
        case rel =>
          rw [loop_next hl HWW.out]
          exact ⟨k + 1, _, _, by omega, by omega, by omega, HST, rfl⟩
        case measure =>
          rw [loop_next hl HWW.out]
          have HB2 := (((putBlk_at (t := 94) (cs := #[.string s, .int .i64 ((k : Int) + 1), .int .i64 (-1)]) hl).alloc (.cells #[.int .i64 0, .slice none 0 0] 102)).plus (os := os') (n := m + nq)).cell 1
          have HB3 := HB2
          simp only [List.getElem?_toArray, List.getElem?_cons_zero, List.getElem?_cons_succ] at HB3
          show s.size - (intOf ((World.cell? (plus ((putBlk w g 94 #[.string s, .int .i64 ((k : Int) + 1), .int .i64 (-1)]).alloc (.cells #[.int .i64 0, .slice none 0 0] 102)) os' (m + nq)) ⟨g, 1, none⟩).getD undef)).toNat < s.size - (intOf ((W.cell? ⟨g, 1, none⟩).getD undef)).toNat
          rw [HB3, c1]
          simp [intOf]
          omega
      · have HSTOP := hide (And.intro HK.out hkl)
        have x1 : IntKind.i64.wrap ((k : Int) - (i : Int)) = (k : Int) - (i : Int) := by rw [wrap_small] <;> omega
        by_cases hks : k < s.size
        · have k1 : (k : Int) < (s.size : Int) := by omega
          by_cases hkb : k < i + 30
          · have hkw : isWI s[k].toNat = false := by
              rw [← sb_at hks]
              cases h : isWI (sb s k).toNat with
              | false => rfl
              | true => exact absurd ⟨hks, hkb, h⟩ hkl
            have hbd : 0 ≤ (s[k].toNat : Int) ∧ (s[k].toNat : Int) ≤ 255 := by have := s[k].toNat_lt; omega
            have hw := fun w => isWordByte_any (s[k].toNat : Int) w hbd.1 hbd.2
            rw [hkw] at hw
            have HW := hide hw
            have x3 : (k : Int) - (i : Int) < 30 := by omega
            clear hw hkl hbd hkw
            go_wp2_with fail
            go_quiet ((go_at_call 134; exact Calls.quiet_of_same ((HW.out _).mono fun _ _ h => ⟨h.1, h.2.symm⟩)))
            go_wp2
            go_meet
            exact ⟨k, os', m + nq, hk1, hk2, hk3, HSTOP, by rw [← HWW.out]; rfl⟩
          · have x3 : ¬ (k : Int) - (i : Int) < 30 := by omega
            have x4 : decide ((k : Int) - (i : Int) < 30) = false := decide_eq_false x3
            clear hkl
            go_wp2_with fail
            go_quiet (fail)
            go_wp2
            go_meet
            exact ⟨k, os', m + nq, hk1, hk2, hk3, HSTOP, by rw [← HWW.out]; rfl⟩
        · have k1 : ¬ (k : Int) < (s.size : Int) := by omega
          have k2 : decide ((k : Int) < (s.size : Int)) = false := decide_eq_false k1
          have k3 : decide (k < s.size) = false := decide_eq_false hks
          clear hkl
          go_wp2_with fail
          go_quiet (fail)
          go_wp2
          go_meet
          exact ⟨k, os', m + nq, hk1, hk2, hk3, HSTOP, by rw [← HWW.out]; rfl⟩
  case rest =>
    obtain ⟨k, os', m, hk1, hk2, hk3, HS, rfl⟩ := hcut
    obtain ⟨hke, hmore⟩ := scan_stop hk1 hk2 hk3 HS.out.1 HS.out.2
    have HKE := hide hke
    have HMORE := hide hmore
    clear hke hmore
    go_upto_region 6 with (fail)
    go_cut [80] from 51 to 80 (fun c wx => c = .bool (decide (kEnd s i = i ∨ kEnd s i < wEnd s i)) ∧ ∃ (os2 : Array Obj) (m2 : Nat), wx = plus ((putBlk w g 94 #[.string s, .int .i64 k, .int .i64 (-1)]).alloc (.cells #[.int .i64 0, .slice none 0 0] 102)) os2 m2)
    case first =>
      have HB := ((putBlk_at (t := 94) (cs := #[.string s, .int .i64 k, .int .i64 (-1)]) hl).alloc (.cells #[.int .i64 0, .slice none 0 0] 102)).plus (os := os') (n := m)
      generalize hW : plus ((putBlk w g 94 #[.string s, .int .i64 k, .int .i64 (-1)]).alloc (.cells #[.int .i64 0, .slice none 0 0] 102)) os' m = W at *
      have HWW := hide hW
      have HBW := hide HB
      have c0 := HB.cell 0
      have c1 := HB.cell 1
      have hlW := HB.lt
      simp only [List.getElem?_toArray, List.getElem?_cons_zero, List.getElem?_cons_succ] at c0 c1
      clear hW HB
      by_cases hki : k = i
      · subst hki
        have HBAD := hide (show decide (kEnd s k = k ∨ kEnd s k < wEnd s k) = true from decide_eq_true (.inl HKE.out))
        go_wp2_with fail
        go_quiet (fail)
        go_wp2
        go_meet
        exact ⟨by rw [HBAD.out], os', m + nq, by rw [← HWW.out]; rfl⟩
      · have hki2 : decide ((k : Int) = (i : Int)) = false := decide_eq_false (by omega)
        have hki3 : ((k : Int) == (i : Int)) = false := beq_eq_false_iff_ne.2 (by omega)
        by_cases hks : k < s.size
        · have k1 : (k : Int) < (s.size : Int) := by omega
          have hbd : 0 ≤ (s[k].toNat : Int) ∧ (s[k].toNat : Int) ≤ 255 := by have := s[k].toNat_lt; omega
          have hw := fun w => isWordByte_any (s[k].toNat : Int) w hbd.1 hbd.2
          have hbad : decide (kEnd s i = i ∨ kEnd s i < wEnd s i) = isWI s[k].toNat := by
            have h2 := HMORE.out
            rw [sb_at hks] at h2
            rw [HKE.out]
            cases h : isWI s[k].toNat with
            | false =>
              rw [h] at h2
              refine decide_eq_false (fun hh => ?_)
              rcases hh with hh | hh
              · exact hki hh
              · have := (h2.1 hh).2.2; cases this
            | true =>
              refine decide_eq_true (.inr (h2.2 ⟨hks, ?_, h⟩))
              rcases Nat.lt_or_ge k (i + 30) with h4 | h4
              · exact absurd ⟨hks, h4, by rw [sb_at hks]; exact h⟩ HS.out.2
              · omega
          have HBAD := hide hbad
          generalize isWI s[k].toNat = bw at hw hbad HBAD
          have HW := hide hw
          clear hw hbd hbad
          cases bw
          all_goals
            go_wp2_with fail
            go_quiet ((go_at_call 134; exact Calls.quiet_of_same ((HW.out _).mono fun _ _ h => ⟨h.1, h.2.symm⟩)))
            go_wp2
            go_meet
            exact ⟨by rw [HBAD.out], os', m + nq, by rw [← HWW.out]; rfl⟩
        · have k1 : ¬ (k : Int) < (s.size : Int) := by omega
          have k2 : decide ((k : Int) < (s.size : Int)) = false := decide_eq_false k1
          have k3 : decide (k < s.size) = false := decide_eq_false hks
          have HBAD := hide (show decide (kEnd s i = i ∨ kEnd s i < wEnd s i) = false from decide_eq_false (fun hh => by
            rw [HKE.out] at hh
            rcases hh with hh | hh
            · exact hki hh
            · exact hks (HMORE.out.1 hh).1))
          go_wp2_with fail
          go_quiet (fail)
          go_wp2
          go_meet
          exact ⟨by rw [HBAD.out], os', m + nq, by rw [← HWW.out]; rfl⟩
    case rest =>
      obtain ⟨rfl, os2, m2, rfl⟩ := hcut
      generalize hbd : decide (kEnd s i = i ∨ kEnd s i < wEnd s i) = bd
      have HBD := hide hbd
      clear hbd
      go_upto_if 80 with (fail)
      go_cut [] from 81 to 86 (fun wx => ∃ (wr : Int) (os2 : Array Obj) (m2 : Nat), Hid ((wr = -1 ∧ ¬ (kEnd s i = i ∨ kEnd s i < wEnd s i)) ∨ (wr = k ∧ (kEnd s i = i ∨ kEnd s i < wEnd s i))) ∧ wx = plus ((putBlk w g 94 #[.string s, .int .i64 k, .int .i64 wr]).alloc (.cells #[.int .i64 0, .slice none 0 0] 102)) os2 m2)
      case first =>
        cases bd with
        | true =>
          go_wp2_with (go_at_call 137; refine (fail_yes s _ _ g _ (((putBlk_at hl).alloc _).plus)).mono ?_; rintro e w' ⟨rfl, os3, m3, rfl⟩)
          go_meet
          exact ⟨k, _, _, hide (.inr ⟨rfl, of_decide_eq_true HBD.out⟩), plus_plus⟩
        | false =>
          go_wp2
          go_meet
          exact ⟨-1, _, _, hide (.inl ⟨rfl, of_decide_eq_false HBD.out⟩), rfl⟩
      case rest =>
      clear HBD
      obtain ⟨wr, os2, m2, HWR, rfl⟩ := hcut
      have HB := ((putBlk_at (t := 94) (cs := #[.string s, .int .i64 k, .int .i64 wr]) hl).alloc (.cells #[.int .i64 0, .slice none 0 0] 102)).plus (os := os2) (n := m2)
      generalize hW : plus ((putBlk w g 94 #[.string s, .int .i64 k, .int .i64 wr]).alloc (.cells #[.int .i64 0, .slice none 0 0] 102)) os2 m2 = W at *
      have HWW := hide hW
      have HBW := hide HB
      have c0 := HB.cell 0
      have c1 := HB.cell 1
      have hlW := HB.lt
      simp only [List.getElem?_toArray, List.getElem?_cons_zero, List.getElem?_cons_succ] at c0 c1
      clear hW HB
      have k5 : (k : Int) ≤ (s.size : Int) := by omega
      have k6 : (i : Int) ≤ (k : Int) := by omega
      have hlow := fun w => lower_any (s.extract i k) w (by rw [ByteArray.size_extract]; omega)
      have HLOW := hide hlow
      clear hlow
      by_cases hks : k < s.size
      · have hR : ¬ (kEnd s i = i ∨ kEnd s i < wEnd s i) → wordR s i = (if (s[k].toNat : Int) = 42 then .good ⟨1, [lowS (s.extract i k)]⟩ (k + 1)
            else if (s[k].toNat : Int) = 126 then .good ⟨2, [lowS (s.extract i k)]⟩ (k + 1) else .good ⟨0, [lowS (s.extract i k)]⟩ k) := fun hb => by
          have h2 := HKE.out
          unfold wordR
          rw [if_neg hb]
          subst h2
          rw [dif_pos hks]
        by_cases h42 : (s[k].toNat : Int) = 42
        · have HT1 := hide (fun w' h' => take_yes s k g wr 42 w' h' hks h42 hs)
          have HR := hide (fun hb => (hR hb).trans (if_pos h42))
          clear hR h42
          go_wp2_with fail
          go_region_held3 (fun w' => w'.cell? ⟨g, 0, none⟩ = some (.string s) ∧ w'.cell? ⟨g, 1, none⟩ = some (.int .i64 k) ∧ g < w'.heap.size) (simp [*, cell_alloc_lt, plus_cell, plus_size, lt_more1, lt_more2, World.size_alloc])
            ((go_at_call 135; refine (HLOW.out _).mono ?_; rintro e w' ⟨rfl, hb⟩; obtain ⟨os7, n7, rfl⟩ := below_plus hb; clear hb))
          all_goals (rename_i hHeld; clear hHeld c0 c1 hlW)
          all_goals obtain rfl := HWW.out
          all_goals go_wp2_with ((go_at_call 65; with_reducible refine Calls.mono (HT1.out _ (by repeat (first | exact HBW.out | refine Blk.alloc ?_ _ | refine Blk.plus ?_ | refine Blk.drew ?_))) ?_); rintro e w' ⟨rfl, os9, n9, rfl⟩)
          all_goals go_returns
          all_goals exact part_end HWR HR.out HKE.out (by omega) rfl (strs_one (by repeat (first | exact Blk.new' (by simp only [plus_size, World.size_alloc, putBlk_size]) | refine Blk.alloc ?_ _ | refine Blk.plus ?_))) (by repeat (first | exact RdTo.base _ _ _ _ _ | refine RdTo.alloc ?_ _ | refine RdTo.plus ?_ _ _))
        · by_cases h126 : (s[k].toNat : Int) = 126
          · have HT1 := hide (fun w' h' => take_no s k g wr 42 w' h' hk2 (fun _ => h42) hs)
            have HT2 := hide (fun w' h' => take_yes s k g wr 126 w' h' hks h126 hs)
            have HR := hide (fun hb => (hR hb).trans ((if_neg h42).trans (if_pos h126)))
            clear hR h42 h126
            go_wp2_with fail
            go_region_held3 (fun w' => w'.cell? ⟨g, 0, none⟩ = some (.string s) ∧ w'.cell? ⟨g, 1, none⟩ = some (.int .i64 k) ∧ g < w'.heap.size) (simp [*, cell_alloc_lt, plus_cell, plus_size, lt_more1, lt_more2, World.size_alloc])
              ((go_at_call 135; refine (HLOW.out _).mono ?_; rintro e w' ⟨rfl, hb⟩; obtain ⟨os7, n7, rfl⟩ := below_plus hb; clear hb))
            all_goals (rename_i hHeld; clear hHeld c0 c1 hlW)
            all_goals obtain rfl := HWW.out
            all_goals go_wp2_with ((go_at_call 65; first | (with_reducible refine Calls.mono (HT1.out _ (by repeat (first | exact HBW.out | refine Blk.alloc ?_ _ | refine Blk.plus ?_ | refine Blk.drew ?_))) ?_) | (with_reducible refine Calls.mono (HT2.out _ (by repeat (first | exact HBW.out | refine Blk.alloc ?_ _ | refine Blk.plus ?_ | refine Blk.drew ?_))) ?_)); rintro e w' ⟨rfl, os9, n9, rfl⟩)
            all_goals go_returns
            all_goals exact part_end HWR HR.out HKE.out (by omega) rfl (strs_one (by repeat (first | exact Blk.new' (by simp only [plus_size, World.size_alloc, putBlk_size]) | refine Blk.alloc ?_ _ | refine Blk.plus ?_))) (by repeat (first | exact RdTo.base _ _ _ _ _ | refine RdTo.alloc ?_ _ | refine RdTo.plus ?_ _ _))
          · have HT1 := hide (fun w' h' => take_no s k g wr 42 w' h' hk2 (fun _ => h42) hs)
            have HT2 := hide (fun w' h' => take_no s k g wr 126 w' h' hk2 (fun _ => h126) hs)
            have HR := hide (fun hb => (hR hb).trans ((if_neg h42).trans (if_neg h126)))
            clear hR h42 h126
            go_wp2_with fail
            go_region_held3 (fun w' => w'.cell? ⟨g, 0, none⟩ = some (.string s) ∧ w'.cell? ⟨g, 1, none⟩ = some (.int .i64 k) ∧ g < w'.heap.size) (simp [*, cell_alloc_lt, plus_cell, plus_size, lt_more1, lt_more2, World.size_alloc])
              ((go_at_call 135; refine (HLOW.out _).mono ?_; rintro e w' ⟨rfl, hb⟩; obtain ⟨os7, n7, rfl⟩ := below_plus hb; clear hb))
            all_goals (rename_i hHeld; clear hHeld c0 c1 hlW)
            all_goals obtain rfl := HWW.out
            all_goals go_wp2_with ((go_at_call 65; first | (with_reducible refine Calls.mono (HT1.out _ (by repeat (first | exact HBW.out | refine Blk.alloc ?_ _ | refine Blk.plus ?_ | refine Blk.drew ?_))) ?_) | (with_reducible refine Calls.mono (HT2.out _ (by repeat (first | exact HBW.out | refine Blk.alloc ?_ _ | refine Blk.plus ?_ | refine Blk.drew ?_))) ?_)); rintro e w' ⟨rfl, os9, n9, rfl⟩)
            all_goals go_returns
            all_goals exact part_end HWR HR.out HKE.out (by omega) rfl (strs_one (by repeat (first | exact Blk.new' (by simp only [plus_size, World.size_alloc, putBlk_size]) | refine Blk.alloc ?_ _ | refine Blk.plus ?_))) (by repeat (first | exact RdTo.base _ _ _ _ _ | refine RdTo.alloc ?_ _ | refine RdTo.plus ?_ _ _))
      · have hR : ¬ (kEnd s i = i ∨ kEnd s i < wEnd s i) → wordR s i = .good ⟨0, [lowS (s.extract i k)]⟩ k := fun hb => by
          have h2 := HKE.out
          unfold wordR
          rw [if_neg hb]
          subst h2
          rw [dif_neg hks]
        have HR := hide hR
        clear hR
        have HT1 := hide (fun w' h' => take_no s k g wr 42 w' h' hk2 (fun h => absurd h hks) hs)
        have HT2 := hide (fun w' h' => take_no s k g wr 126 w' h' hk2 (fun h => absurd h hks) hs)
        go_wp2_with fail
        go_region_held3 (fun w' => w'.cell? ⟨g, 0, none⟩ = some (.string s) ∧ w'.cell? ⟨g, 1, none⟩ = some (.int .i64 k) ∧ g < w'.heap.size) (simp [*, cell_alloc_lt, plus_cell, plus_size, lt_more1, lt_more2, World.size_alloc])
          ((go_at_call 135; refine (HLOW.out _).mono ?_; rintro e w' ⟨rfl, hb⟩; obtain ⟨os7, n7, rfl⟩ := below_plus hb; clear hb))
        all_goals (rename_i hHeld; clear hHeld c0 c1 hlW)
        all_goals obtain rfl := HWW.out
        all_goals go_wp2_with ((go_at_call 65; first | (with_reducible refine Calls.mono (HT1.out _ (by repeat (first | exact HBW.out | refine Blk.alloc ?_ _ | refine Blk.plus ?_ | refine Blk.drew ?_))) ?_) | (with_reducible refine Calls.mono (HT2.out _ (by repeat (first | exact HBW.out | refine Blk.alloc ?_ _ | refine Blk.plus ?_ | refine Blk.drew ?_))) ?_)); rintro e w' ⟨rfl, os9, n9, rfl⟩)
        all_goals go_returns
        all_goals exact part_end HWR HR.out HKE.out (by omega) rfl (strs_one (by repeat (first | exact Blk.new' (by simp only [plus_size, World.size_alloc, putBlk_size]) | refine Blk.alloc ?_ _ | refine Blk.plus ?_))) (by repeat (first | exact RdTo.base _ _ _ _ _ | refine RdTo.alloc ?_ _ | refine RdTo.plus ?_ _ _))

theorem part_any (s : ByteArray) (i g : Nat) (w : World) (h : Blk w g 94 #[.string s, .int .i64 i, .int .i64 (-1)]) (hi : i ≤ s.size) (hs : s.size ≤ 400) :
    Calls Try.prog 136 #[.pointer (some ⟨g, 0, none⟩)] w (PartOut s g w (partR s i)) := by
  unfold partR
  by_cases h1 : i < s.size
  · rw [dif_pos h1]
    by_cases h2 : (s[i].toNat : Int) = 34
    · rw [if_pos h2]
      exact part_quote s i g w h h1 h2 hs
    · rw [if_neg h2]
      exact part_word s i g w h hi (fun _ => h2) hs
  · rw [dif_neg h1]
    exact part_word s i g w h hi (fun h => absurd h h1) hs

end Go.Proofs.Ytfklaahakibljaa
