/-
  WALK: the cards of a string, in the reference.
-/
import Derived.Test.YtidpfjdlchffcaaDoorCdf
set_option linter.all false
namespace Go.Proofs.YtidpfjdlchffcaaDoor
open Go.RowKit

theorem preC_at (s : ByteArray) (i : Nat) : preC (s.extract (i + 2) s.size) = bth s i := by
  unfold preC bth
  rw [ext_drop]
  by_cases h : i + 2 < s.size
  · rw [dif_pos h, drop_at s h]
    unfold Lib.hasPrefix
    simp only [List.isPrefixOf, Bool.and_true]
    have h1 := u8_eq (a := s[i + 2]) (c := 58) (by decide)
    rw [Bool.beq_comm]
    refine h1.trans ?_
    rw [Bool.eq_iff_iff, beq_iff_eq, beq_iff_eq]
    omega
  · rw [dif_neg h, List.drop_eq_nil_of_le (by rw [← Lib.size_eq]; omega)]
    rfl

theorem cutPreD_any (s : ByteArray) (i : Nat) (w : World) (h : i + 1 < s.size) (hs : s.size ≤ 1100000) : Calls Tryd.prog 15 #[.string (s.extract (i + 2) s.size), .string ⟨#[58]⟩] w fun e w' => e = .returned (.tuple #[.string (s.extract (dvE s i) s.size), .bool (bth s i)]) ∧ w' = w := by
  have h1 := cutPre_any (s.extract (i + 2) s.size) w (by rw [ByteArray.size_extract]; omega)
  rw [preC_at] at h1
  have h2 : (if bth s i = true then (s.extract (i + 2) s.size).extract 1 (s.extract (i + 2) s.size).size else s.extract (i + 2) s.size) = s.extract (dvE s i) s.size := by
    unfold dvE
    split
    · apply ByteArray.ext
      apply Array.toList_inj.1
      rw [ext_drop, ext_drop, ext_drop, List.drop_drop]
    · rfl
  rw [h2] at h1
  exact h1

set_option maxHeartbeats 3200000 in
set_option maxRecDepth 100000 in
theorem cutOf_any (s : ByteArray) (w : World) (hs : s.size ≤ 1100000) (hm : MaxTold w) :
    Calls Tryd.prog 8 #[.string s] w fun e w' => ∃ A c, e = Ending.returned (.slice A (cutL s).length c) ∧ OwnK 4 29 w' w.heap.size (.slice A (cutL s).length c) (cutL s).length (flatC (cutL s)) ∧ Below w.heap.size w w' := by
  have HPO : Hid (∀ A c w', OwnK 4 29 w' w.heap.size (.slice A (cutL s).length c) (cutL s).length (flatC (cutL s)) → Below w.heap.size w w' → (fun e w' => ∃ A c, e = Ending.returned (.slice A (cutL s).length c) ∧ OwnK 4 29 w' w.heap.size (.slice A (cutL s).length c) (cutL s).length (flatC (cutL s)) ∧ Below w.heap.size w w') (.returned (.slice A (cutL s).length c)) w') := hide fun A c w' h1 h2 => ⟨A, c, rfl, h1, h2⟩
  generalize (fun e w' => ∃ A c, e = Ending.returned (.slice A (cutL s).length c) ∧ OwnK 4 29 w' w.heap.size (.slice A (cutL s).length c) (cutL s).length (flatC (cutL s)) ∧ Below w.heap.size w w') = PO at *
  have HT := hide (fun x W hx => trimB_any x W hx)
  have HM := hide hm
  have HGC := hide (fun W hW => gapCards_any s W hs hW)
  clear hm
  go_enter Tryd.func8, Tryd.ntmps8
  go_wp2
  go_loopw [3] (fun i9 wr => ∃ (i : Nat), i ≤ s.size ∧ i9 = .int .i64 i ∧ Hid (∀ j, j < i → divOk s j = false) ∧ Hid (Below w.heap.size w wr)) (fun i9 _ => s.size - (intOf i9).toNat)
  case atStart => exact ⟨0, Nat.zero_le _, rfl, hide (fun j hj => absurd hj (by omega)), hide (by repeat (first | with_reducible exact Below.refl _ _ | with_reducible refine bl_plus ?_ | with_reducible refine bl_alloc ?_ _ | with_reducible refine bl_drew ?_ | with_reducible refine bl_drewN ?_ _))⟩
  case round =>
    obtain ⟨i, hi, rfl, HN, HB⟩ := hrel
    by_cases hlt : i + 1 < s.size
    · have i1 : (i : Int) + 1 < (s.size : Int) := by omega
      have HOK := hide (divOk_at hlt)
      have HN2 := hide (fun (h : divOk s i = false) => (fun (j : Nat) (hj : j < i + 1) => (if e : j = i then (by subst e; exact h) else HN.out j (by omega) : divOk s j = false)))
      cases h1 : ((s[i].toNat : Int) == 58) with
      | false =>
        have h1' : ((s[i].toNat : Int) != 58) = true := by simp at h1; simp [h1]
        have HNX := hide (HN2.out (by rw [HOK.out, h1]; rfl))
        clear HOK HN2 HGC
        go_wp2
        go_roundw
        case rel => exact ⟨i + 1, by omega, by go_num, HNX, hide (by first | exact HB.out | exact below_chainT HB.out (by repeat (first | with_reducible exact Below.refl _ _ | with_reducible refine bl_plus ?_ | with_reducible refine bl_alloc ?_ _ | with_reducible refine bl_drew ?_ | with_reducible refine bl_drewN ?_ _)))⟩
        case measure => simp [intOf]; omega
      | true =>
        have h1' : ((s[i].toNat : Int) != 58) = false := by simp at h1; simp [h1]
        cases h2 : ((s[i + 1].toNat : Int) == 58) with
        | false =>
          have h2' : ((s[i + 1].toNat : Int) != 58) = true := by simp at h2; simp [h2]
          have HNX := hide (HN2.out (by rw [HOK.out, h1, h2]; rfl))
          clear HOK HN2 HGC
          go_wp2
          go_roundw
          case rel => exact ⟨i + 1, by omega, by go_num, HNX, hide (by first | exact HB.out | exact below_chainT HB.out (by repeat (first | with_reducible exact Below.refl _ _ | with_reducible refine bl_plus ?_ | with_reducible refine bl_alloc ?_ _ | with_reducible refine bl_drew ?_ | with_reducible refine bl_drewN ?_ _)))⟩
          case measure => simp [intOf]; omega
        | true =>
          have h2' : ((s[i + 1].toNat : Int) != 58) = false := by simp at h2; simp [h2]
          rw [h1, h2] at HOK
          simp only [Bool.true_and] at HOK
          have HCP := hide (fun W => cutPreD_any s i W hlt hs)
          have HDI := hide (fun (h : divOk s i = true) => (show divR s = (divA s i, divB s i, bth s i, true) by unfold divR; rw [divI_some HN.out hlt h]))
          have hx1 : (s.extract 0 i).size ≤ 1100000 := by rw [ByteArray.size_extract]; omega
          have hx2 : (s.extract (dvE s i) s.size).size ≤ 1100000 := by rw [ByteArray.size_extract]; omega
          unfold divA divB at HOK HDI
          generalize s.extract (dvE s i) s.size = xb at *
          by_cases hA : (trimB (s.extract 0 i)).size = 0
          · have t1 : (trimB (s.extract 0 i)).toList.isEmpty = true := by rw [emp_sizeC]; simpa using hA
            have t2 : ((trimB (s.extract 0 i)).toList == []) = true := by rw [emp_nilC]; simpa using hA
            have HNX := hide (HN2.out (by rw [HOK.out]; simp [hA]))
            clear hA HDI HOK HN2 HGC
            go_wp2_with (first | (go_at_call 15; (refine (HCP.out _).mono ?_); rintro e w' ⟨rfl, hw⟩; subst w') | (go_at_call 16; (refine (HT.out _ _ (by first | exact hx1 | exact hx2)).mono ?_); rintro e w' ⟨rfl, n1, rfl⟩))
            go_roundw
            case rel => exact ⟨i + 1, by omega, by go_num, HNX, hide (by first | exact HB.out | exact below_chainT HB.out (by repeat (first | with_reducible exact Below.refl _ _ | with_reducible refine bl_plus ?_ | with_reducible refine bl_alloc ?_ _ | with_reducible refine bl_drew ?_ | with_reducible refine bl_drewN ?_ _)))⟩
            case measure => simp [intOf]; omega
          · have t1 : (trimB (s.extract 0 i)).toList.isEmpty = false := by rw [emp_sizeC]; simpa using hA
            have t2 : ((trimB (s.extract 0 i)).toList == []) = false := by rw [emp_nilC]; simpa using hA
            by_cases hB : (trimB xb).size = 0
            · have t3 : (trimB xb).toList.isEmpty = true := by rw [emp_sizeC]; simpa using hB
              have t4 : ((trimB xb).toList == []) = true := by rw [emp_nilC]; simpa using hB
              have HNX := hide (HN2.out (by rw [HOK.out]; simp [hB]))
              clear hA hB HDI HOK HN2 HGC
              go_wp2_with (first | (go_at_call 15; (refine (HCP.out _).mono ?_); rintro e w' ⟨rfl, hw⟩; subst w') | (go_at_call 16; (refine (HT.out _ _ (by first | exact hx1 | exact hx2)).mono ?_); rintro e w' ⟨rfl, n1, rfl⟩))
              go_roundw
              case rel => exact ⟨i + 1, by omega, by go_num, HNX, hide (by first | exact HB.out | exact below_chainT HB.out (by repeat (first | with_reducible exact Below.refl _ _ | with_reducible refine bl_plus ?_ | with_reducible refine bl_alloc ?_ _ | with_reducible refine bl_drew ?_ | with_reducible refine bl_drewN ?_ _)))⟩
              case measure => simp [intOf]; omega
            · have t3 : (trimB xb).toList.isEmpty = false := by rw [emp_sizeC]; simpa using hB
              have t4 : ((trimB xb).toList == []) = false := by rw [emp_nilC]; simpa using hB
              have HDI2 := hide (HDI.out (by rw [HOK.out]; simp [hA, hB]))
              clear hA hB HDI HOK HN2 HGC
              obtain ⟨iP, hiP, hzP0, hzP1, hzP2⟩ := info_parts info_cardC
              have HIP := hide (And.intro hiP (And.intro hzP0 (And.intro hzP1 hzP2)))
              clear hiP hzP0 hzP1 hzP2
              cases hbo : bth s i with
              | false =>
                rw [hbo] at HDI2 HCP
                have HL := hide (cutL_one HDI2.out)
                clear HDI2 hbo
                go_upto_region 8 with (first | (go_at_call 15; (refine (HCP.out _).mono ?_); rintro e w' ⟨rfl, hw⟩; subst w') | (go_at_call 16; (refine (HT.out _ _ (by first | exact hx1 | exact hx2)).mono ?_); rintro e w' ⟨rfl, hbt⟩; have HBx := hide (show Below w.heap.size w w' from by obtain ⟨n1, hw⟩ := hbt; rw [hw]; exact bl_drewN HB.out n1); clear HB hbt; have HB := HBx; clear HBx))
                generalize w' = WB at *
                go_wp2
                have HZ := hide (HPO.out (some ⟨WB.heap.size, 0, none⟩) 1 (WB.alloc (.cells #[.int .i64 0, .int .i64 1, .string (trimB (s.extract 0 i)), .string (trimB xb)] 29)))
                rw [HL.out] at HZ
                (first | exact HZ.out (ownK_new WB _ _ rfl rfl HB.out.size) (bl_alloc HB.out _) | (go_returns; exact HZ.out (ownK_new WB _ _ rfl rfl HB.out.size) (bl_alloc HB.out _)))
              | true =>
                rw [hbo] at HDI2 HCP
                have HL := hide (cutL_two HDI2.out)
                clear HDI2 hbo
                go_upto_region 8 with (first | (go_at_call 15; (refine (HCP.out _).mono ?_); rintro e w' ⟨rfl, hw⟩; subst w') | (go_at_call 16; (refine (HT.out _ _ (by first | exact hx1 | exact hx2)).mono ?_); rintro e w' ⟨rfl, hbt⟩; have HBx := hide (show Below w.heap.size w w' from by obtain ⟨n1, hw⟩ := hbt; rw [hw]; exact bl_drewN HB.out n1); clear HB hbt; have HB := HBx; clear HBx))
                generalize w' = WB at *
                have HBG := hide (show (1 + 1) * iP.bytes ≤ 140737488355328 ∧ 1 + 1 ≤ 140737488355328 by have h9 := HIP.out.2.2.2; rw [h9]; omega)
                have HO1 := hide (ownK_new (K := 4) WB 29 [.int .i64 0, .int .i64 1, .string (trimB (s.extract 0 i)), .string (trimB xb)] (base := w.heap.size) rfl rfl HB.out.size)
                go_wp2_with (at_builtin; refine wpList_append_b rfl (.tmp 56) (.tmp 60) rfl rfl Tryd.underlying23 HIP.out.1 HIP.out.2.1 HIP.out.2.2.1 (by decide) rfl (by have := HIP.out.2.2.2; omega) w.heap.size 1 (.slice (some ⟨WB.heap.size, 0, none⟩) 1 1) [.int .i64 0, .int .i64 1, .string (trimB (s.extract 0 i)), .string (trimB xb)] [.int .i64 0, .int .i64 2, .string (trimB xb), .string (trimB (s.extract 0 i))] _ rfl (ownK_alloc HO1.out _) rfl (by intro u hu; simp only [List.mem_cons, List.not_mem_nil, or_false] at hu; rcases hu with rfl | rfl | rfl | rfl <;> rfl) rfl (newN_cells (cs := [.int .i64 0, .int .i64 2, .string (trimB xb), .string (trimB (s.extract 0 i))]) (World.size_alloc _ _).symm) HBG.out (by rw [World.size_alloc, World.size_alloc]; have := HB.out.size; omega) ?_; intro v' w8 hown8 hgr8 hfr8; obtain ⟨A7, c7, rfl, hc71, hc72, hc73⟩ := ownK_form hown8; have HB8 := hide ((bl_alloc (bl_alloc HB.out (.cells #[.int .i64 0, .int .i64 1, .string (trimB (s.extract 0 i)), .string (trimB xb)] 29)) (.cells #[.int .i64 0, .int .i64 2, .string (trimB xb), .string (trimB (s.extract 0 i))] 29)).grown hgr8 (by rw [World.size_alloc, World.size_alloc]; have := HB.out.size; omega) (fun k9 hk9 => (HO1.out.lt k9 hk9).1)); have HOW8 := hide hown8; clear hown8 hgr8 hfr8 hc71 hc72 hc73)
                have HZ := hide (HPO.out A7 c7 w8)
                rw [HL.out] at HZ
                (first | exact HZ.out HOW8.out HB8.out | (go_returns; exact HZ.out HOW8.out HB8.out))
    · have i1 : ¬ (i : Int) + 1 < (s.size : Int) := by omega
      have HDN := hide (show divR s = (⟨#[]⟩, ⟨#[]⟩, false, false) by unfold divR; rw [divI_none (fun j hj => HN.out j (by omega))])
      have HL := hide (cutL_gap HDN.out)
      have HG := hide (HGC.out wr (maxTold_b HM.out HB.out))
      clear HGC HDN HN
      go_wp2_with (go_at_call 17; refine HG.out.mono ?_; rintro e w' ⟨A, c, rfl, hown, hbl⟩; have HOW := hide hown; have HB2 := hide (HB.out.trans (hbl.mono HB.out.size)); clear hown hbl)
      have HZ := hide (HPO.out A c w')
      rw [HL.out] at HZ
      (first | exact HZ.out (ownK_low HOW.out HB.out.size) HB2.out | (go_returns; exact HZ.out (ownK_low HOW.out HB.out.size) HB2.out))

end Go.Proofs.YtidpfjdlchffcaaDoor
