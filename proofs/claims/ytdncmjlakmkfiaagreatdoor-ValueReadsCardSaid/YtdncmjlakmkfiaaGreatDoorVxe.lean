/-
  WALK: the reference reads a word.
-/
import Derived.Test.YtdncmjlakmkfiaaGreatDoorVxd
set_option linter.all false
namespace Go.Proofs.YtdncmjlakmkfiaaGreatDoor
open Go.RowKit
attribute [local go_sem high] lit45 litYes litNo run_max_i

set_option maxHeartbeats 3200000 in
set_option maxRecDepth 100000 in
theorem readItem_wordA (s : ByteArray) (it : Bool) (X Y : ByteArray) (hE : it = false ∧ X = s ∧ Y = ByteArray.empty) (w : World) (hs : s.size ≤ 400000) (hm : MaxTold w) (hq : Lib.hasPrefix s.data.toList [34] = false) (h2 : Lib.hasPrefix s.data.toList [91, 91] = false) (h1 : it = true ∨ Lib.hasPrefix s.data.toList [91] = false) :
    Calls Tryz.prog 17 #[.string s, .bool it] w (RfLeaf s (wdO X Y) w) := by
  have HA := hide (fun W => hpS_any s ⟨#[34]⟩ false W hq)
  have HB := hide (fun W => hpS_any s ⟨#[91, 91]⟩ false W h2)
  have HS := hide (Sr.start (w := w))
  obtain ⟨d0, d1, d2, d3, d4, y0, y1, y2, y3, y4, hg⟩ := HS.out.cells
  have HM := hide hm
  have HIX := hide (indexAny_tw s.data.toList)
  have HIA := hide (fun W => indexAny_any s ⟨#[44, 93]⟩ W (by decide) (by decide) (by omega) (fun j b h => (show ∀ b ∈ ([44, 93] : List UInt8), b.toNat < 128 by decide) b (List.mem_of_getElem? h)))
  change Hid (∀ W, Calls Tryz.prog 62 #[.string s, .string ⟨#[44, 93]⟩] W fun e w' => e = .returned (.int .i64 (Lib.indexAny s.data.toList [44, 93])) ∧ Below W.heap.size W w') at HIA
  clear hm hq h2
  obtain ⟨rfl, hX, hY⟩ := hE
  rw [hX, hY]
  clear hX hY
  have h91 : Lib.hasPrefix s.data.toList [91] = false := by
    rcases h1 with h | h
    · cases h
    · exact h
  have HC := hide (fun W => hpS_any s ⟨#[91]⟩ false W h91)
  clear h91 h1
  rcases HIX.out with ⟨hi, -⟩ | hi
  all_goals
    rw [hi] at HIA
    clear hi
    go_enter Tryz.func17, Tryz.ntmps17
    go_upto_region 17 with (first | (go_at_call_of 50 (Value.string ⟨#[34]⟩); (refine (HA.out _).mono ?_); rintro e w' ⟨rfl, hw⟩; subst hw) | (go_at_call_of 50 (Value.string ⟨#[91, 91]⟩); (refine (HB.out _).mono ?_); rintro e w' ⟨rfl, hw⟩; subst hw) | (go_at_call_of 50 (Value.string ⟨#[91]⟩); (refine (HC.out _).mono ?_); rintro e w' ⟨rfl, hw⟩; subst hw) | (go_at_call 62; (refine (HIA.out _).mono ?_); rintro e W1 ⟨rfl, hbl⟩; have HS1 := hide (HS.out.below hbl); clear d0 d1 d2 d3 d4 y0 y1 y2 y3 y4 hg; clear HS; have HS := HS1; clear HS1; obtain ⟨d0, d1, d2, d3, d4, y0, y1, y2, y3, y4, hg⟩ := HS.out.cells; clear hbl))
    clear HIA HA HB HC
    go_wp2_with fail
    go_quiet (fail)
    have HS1 := hide (HS.out.below (bl_drewN (Below.refl _ _) nq))
    clear d0 d1 d2 d3 d4 y0 y1 y2 y3 y4 hg
    clear HS
    have HS := HS1
    clear HS1
    obtain ⟨d0, d1, d2, d3, d4, y0, y1, y2, y3, y4, hg⟩ := HS.out.cells
    have HXS := hide (show s.size ≤ 400000 by first | exact hs | (rw [ByteArray.size_extract]; omega))
    by_cases h45 : s.data.toList = [45]
    · have HL := hide (show lf s.data.toList = some (vN, false) by rw [h45]; rfl)
      have t1 : (s.toList == [45]) = true := by rw [Lib.toList_data]; exact beq_iff_eq.2 h45
      clear h45
      go_wp2
      refine bodyPost_ret (res_cell3 (P := Tryz.prog) (fn := Tryz.f17) (p := 4) (u := 5) (v := 6) rfl _ _ _ 24 #[.int .i64 0, .int .i64 0, .int .i64 0, .string ⟨#[]⟩, .slice none 0 0] (0, 0) _ rfl (HS.out.end _ _ _ _ _).1 Tryz.underlying24 rfl (by kernel_rfl)) rfl ?_
      exact ⟨(HS.out.end _ _ _ _ _).2, vN, ByteArray.empty, 0, rfl, rfl, (show ByteArray.empty.size ≤ s.size by first | exact Nat.zero_le _ | (rw [ByteArray.size_extract]; omega)), .inr ⟨false, by unfold wdO; rw [HL.out], rfl⟩⟩
    · have t1 : (s.toList == [45]) = false := by rw [Lib.toList_data]; exact beq_no h45
      by_cases hye : s.data.toList = yesL
      · have HL := hide (show lf s.data.toList = some (vFlag 1, false) by rw [hye]; rfl)
        have t2 : (s.toList == [121, 101, 115]) = true := by rw [Lib.toList_data]; exact beq_iff_eq.2 hye
        clear h45 hye
        go_wp2
        refine bodyPost_ret (res_cell3 (P := Tryz.prog) (fn := Tryz.f17) (p := 4) (u := 5) (v := 6) rfl _ _ _ 24 #[.int .i64 1, .int .i64 1, .int .i64 0, .string ⟨#[]⟩, .slice none 0 0] (0, 0) _ rfl (HS.out.end _ _ _ _ _).1 Tryz.underlying24 rfl (by kernel_rfl)) rfl ?_
        exact ⟨(HS.out.end _ _ _ _ _).2, vFlag 1, ByteArray.empty, 0, rfl, rfl, (show ByteArray.empty.size ≤ s.size by first | exact Nat.zero_le _ | (rw [ByteArray.size_extract]; omega)), .inr ⟨false, by unfold wdO; rw [HL.out], rfl⟩⟩
      · have t2 : (s.toList == [121, 101, 115]) = false := by rw [Lib.toList_data]; exact beq_no hye
        by_cases hno : s.data.toList = noL
        · have HL := hide (show lf s.data.toList = some (vFlag 0, false) by rw [hno]; rfl)
          have t3 : (s.toList == [110, 111]) = true := by rw [Lib.toList_data]; exact beq_iff_eq.2 hno
          clear h45 hye hno
          go_wp2
          refine bodyPost_ret (res_cell3 (P := Tryz.prog) (fn := Tryz.f17) (p := 4) (u := 5) (v := 6) rfl _ _ _ 24 #[.int .i64 1, .int .i64 0, .int .i64 0, .string ⟨#[]⟩, .slice none 0 0] (0, 0) _ rfl (HS.out.end _ _ _ _ _).1 Tryz.underlying24 rfl (by kernel_rfl)) rfl ?_
          exact ⟨(HS.out.end _ _ _ _ _).2, vFlag 0, ByteArray.empty, 0, rfl, rfl, (show ByteArray.empty.size ≤ s.size by first | exact Nat.zero_le _ | (rw [ByteArray.size_extract]; omega)), .inr ⟨false, by unfold wdO; rw [HL.out], rfl⟩⟩
        · have t3 : (s.toList == [110, 111]) = false := by rw [Lib.toList_data]; exact beq_no hno
          have HDG := hide (fun W => digitsT_any s W)
          cases hn : num10 s.data.toList with
          | some n =>
            have HL := hide (show lf s.data.toList = some (vNum n, false) by unfold lf; rw [if_neg h45, if_neg hye, if_neg hno, hn])
            have HN := hide hn
            clear h45 hye hno hn
            go_wp2_with (first | (go_at_call 63; (refine (HDG.out _).mono ?_); intro e W1 hno; obtain ⟨rfl, hbl⟩ := hno.yes HN.out; have HS1 := hide (HS.out.below hbl); clear d0 d1 d2 d3 d4 y0 y1 y2 y3 y4 hg; clear HS; have HS := HS1; clear HS1; obtain ⟨d0, d1, d2, d3, d4, y0, y1, y2, y3, y4, hg⟩ := HS.out.cells; clear hbl hno))
            refine bodyPost_ret (res_cell3 (P := Tryz.prog) (fn := Tryz.f17) (p := 4) (u := 5) (v := 6) rfl _ _ _ 24 #[.int .i64 2, .int .i64 n, .int .i64 0, .string ⟨#[]⟩, .slice none 0 0] (0, 0) _ rfl (HS.out.end _ _ _ _ _).1 Tryz.underlying24 rfl (by kernel_rfl)) rfl ?_
            exact ⟨(HS.out.end _ _ _ _ _).2, vNum n, ByteArray.empty, 0, rfl, rfl, (show ByteArray.empty.size ≤ s.size by first | exact Nat.zero_le _ | (rw [ByteArray.size_extract]; omega)), .inr ⟨false, by unfold wdO; rw [HL.out], rfl⟩⟩
          | none =>
            have HN := hide hn
            have HCT := hide (fun W hm => Tryz.cut_any s ⟨#[46, 46]⟩ W hm (by have := HXS.out; omega))
            change Hid (∀ W, MaxTold W → Calls Tryz.prog 48 #[.string s, .string ⟨#[46, 46]⟩] W fun e w' => e = .returned (.tuple #[.string (strOf (Lib.cut s.data.toList [46, 46]).1), .string (strOf (Lib.cut s.data.toList [46, 46]).2.1), .bool (Lib.cut s.data.toList [46, 46]).2.2]) ∧ ∃ n, w' = W.drewN n) at HCT
            have hlf : lf s.data.toList = if (Lib.cut s.data.toList [46, 46]).2.2 = true then (if (isDateF (Lib.cut s.data.toList [46, 46]).1 && isDateF (Lib.cut s.data.toList [46, 46]).2.1) = true then some (vSpan (dateR (Lib.cut s.data.toList [46, 46]).1).1 (dateR (Lib.cut s.data.toList [46, 46]).2.1).1, farB (Lib.cut s.data.toList [46, 46]).1 || farB (Lib.cut s.data.toList [46, 46]).2.1) else none) else if isDateF s.data.toList = true then some (vDate (dateR s.data.toList).1, farB s.data.toList) else none := by
              unfold lf
              rw [if_neg h45, if_neg hye, if_neg hno, hn]
            have hz1 : (strOf (Lib.cut s.data.toList [46, 46]).1).size ≤ 400000 ∧ (strOf (Lib.cut s.data.toList [46, 46]).2.1).size ≤ 400000 := by
              have h9 := HXS.out
              have h8 := size_list s
              rw [strOf_size, strOf_size]
              unfold Lib.cut
              split
              · simp only [List.length_take, List.length_drop]; omega
              · simp only [List.length_nil]; omega
            have hfalse : (Lib.cut s.data.toList [46, 46]).2.2 = false → (Lib.cut s.data.toList [46, 46]).1 = s.data.toList := by
              unfold Lib.cut
              split
              · intro h; cases h
              · intro _; rfl
            generalize Lib.cut s.data.toList [46, 46] = Q at *
            obtain ⟨a, b, two⟩ := Q
            simp only at hlf hz1 hfalse HCT
            have HDA := hide (fun W hm => dateRead_any (strOf a) W hz1.1 hm)
            have HDB := hide (fun W hm => dateRead_any (strOf b) W hz1.2 hm)
            rw [strOf_data] at HDA HDB
            clear h45 hye hno hn hz1
            cases two with
            | false =>
              obtain rfl := hfalse rfl
              rw [if_neg (by decide)] at hlf
              have HLF := hide hlf
              have HDC := hide (fun hd => dateR_yes (l := s.data.toList) hd)
              have HDN := hide (fun hd => dateR_no (l := s.data.toList) hd)
              clear hlf hfalse HDB
              generalize dateR s.data.toList = D at *
              obtain ⟨D1, D2⟩ := D
              go_wp2_with (first | (go_at_call 63; (refine (HDG.out _).mono ?_); intro e W1 hno; obtain ⟨kv, rfl, hbl⟩ := hno.no HN.out; have HS1 := hide (HS.out.below hbl); clear d0 d1 d2 d3 d4 y0 y1 y2 y3 y4 hg; clear HS; have HS := HS1; clear HS1; obtain ⟨d0, d1, d2, d3, d4, y0, y1, y2, y3, y4, hg⟩ := HS.out.cells; clear hbl hno) | (go_at_call 48; (refine (HCT.out _ (maxTold_below HM.out HS.out.bel)).mono ?_); rintro e w' ⟨rfl, n9, rfl⟩; have HS1 := hide (HS.out.below (bl_drewN (Below.refl _ _) n9)); clear d0 d1 d2 d3 d4 y0 y1 y2 y3 y4 hg; clear HS; have HS := HS1; clear HS1; obtain ⟨d0, d1, d2, d3, d4, y0, y1, y2, y3, y4, hg⟩ := HS.out.cells) | (go_at_call_of 64 (Value.string (strOf s.data.toList)); (refine (HDA.out _ (maxTold_below HM.out HS.out.bel)).mono ?_); rintro e W1 ⟨rfl, hbl⟩; have HS1 := hide (HS.out.below hbl); clear d0 d1 d2 d3 d4 y0 y1 y2 y3 y4 hg; clear HS; have HS := HS1; clear HS1; obtain ⟨d0, d1, d2, d3, d4, y0, y1, y2, y3, y4, hg⟩ := HS.out.cells; clear hbl))
              refine bodyPost_ret (res_cell3 (P := Tryz.prog) (fn := Tryz.f17) (p := 4) (u := 5) (v := 6) rfl _ _ _ 24 #[.int .i64 4, .int .i64 D1, .int .i64 0, .string ⟨#[]⟩, .slice none 0 0] (0, 0) _ rfl (HS.out.end _ _ _ _ _).1 Tryz.underlying24 rfl (by kernel_rfl)) rfl ?_
              refine ⟨(HS.out.end _ _ _ _ _).2, vDate D1, ByteArray.empty, D2, rfl, rfl, (show ByteArray.empty.size ≤ s.size by first | exact Nat.zero_le _ | (rw [ByteArray.size_extract]; omega)), ?_⟩
              cases hd : isDateF s.data.toList with
              | true => exact .inr ⟨farB s.data.toList, by unfold wdO; rw [HLF.out, if_pos hd], HDC.out hd⟩
              | false =>
                have h9 := HDN.out hd
                injection h9 with _ h9
                exact .inl ⟨by unfold wdO; rw [HLF.out, hd]; rfl, h9⟩
            | true =>
              rw [if_pos rfl] at hlf
              clear hfalse
              cases ha : isDateF a with
              | true =>
                have h1 := dateR_yes ha
                cases hb : isDateF b with
                | true =>
                  have h2 := dateR_yes hb
                  rw [ha, hb] at hlf
                  simp only [Bool.and_self, if_true] at hlf
                  have HLF := hide hlf
                  clear hlf ha hb
                  generalize dateR a = DA at *
                  generalize dateR b = DB at *
                  obtain ⟨A1, A2⟩ := DA
                  obtain ⟨B1, B2⟩ := DB
                  simp only at h1 h2
                  have q1 : (A2 == 8) = false := by rw [h1]; split <;> rfl
                  have q2 : (B2 == 8) = false := by rw [h2]; split <;> rfl
                  have H12 := hide (And.intro h1 h2)
                  clear h1 h2
                  go_wp2_with (first | (go_at_call 63; (refine (HDG.out _).mono ?_); intro e W1 hno; obtain ⟨kv, rfl, hbl⟩ := hno.no HN.out; have HS1 := hide (HS.out.below hbl); clear d0 d1 d2 d3 d4 y0 y1 y2 y3 y4 hg; clear HS; have HS := HS1; clear HS1; obtain ⟨d0, d1, d2, d3, d4, y0, y1, y2, y3, y4, hg⟩ := HS.out.cells; clear hbl hno) | (go_at_call 48; (refine (HCT.out _ (maxTold_below HM.out HS.out.bel)).mono ?_); rintro e w' ⟨rfl, n9, rfl⟩; have HS1 := hide (HS.out.below (bl_drewN (Below.refl _ _) n9)); clear d0 d1 d2 d3 d4 y0 y1 y2 y3 y4 hg; clear HS; have HS := HS1; clear HS1; obtain ⟨d0, d1, d2, d3, d4, y0, y1, y2, y3, y4, hg⟩ := HS.out.cells) | (go_at_call_of 64 (Value.string (strOf a)); (refine (HDA.out _ (maxTold_below HM.out HS.out.bel)).mono ?_); rintro e W1 ⟨rfl, hbl⟩; have HS1 := hide (HS.out.below hbl); clear d0 d1 d2 d3 d4 y0 y1 y2 y3 y4 hg; clear HS; have HS := HS1; clear HS1; obtain ⟨d0, d1, d2, d3, d4, y0, y1, y2, y3, y4, hg⟩ := HS.out.cells; clear hbl) | (go_at_call_of 64 (Value.string (strOf b)); (refine (HDB.out _ (maxTold_below HM.out HS.out.bel)).mono ?_); rintro e W1 ⟨rfl, hbl⟩; have HS1 := hide (HS.out.below hbl); clear d0 d1 d2 d3 d4 y0 y1 y2 y3 y4 hg; clear HS; have HS := HS1; clear HS1; obtain ⟨d0, d1, d2, d3, d4, y0, y1, y2, y3, y4, hg⟩ := HS.out.cells; clear hbl))
                  refine bodyPost_ret (res_cell3 (P := Tryz.prog) (fn := Tryz.f17) (p := 4) (u := 5) (v := 6) rfl _ _ _ 24 #[.int .i64 5, .int .i64 A1, .int .i64 B1, .string ⟨#[]⟩, .slice none 0 0] (0, 0) _ rfl (HS.out.end _ _ _ _ _).1 Tryz.underlying24 rfl (by kernel_rfl)) rfl ?_
                  exact ⟨(HS.out.end _ _ _ _ _).2, vSpan A1 B1, ByteArray.empty, max A2 B2, rfl, rfl, (show ByteArray.empty.size ≤ s.size by first | exact Nat.zero_le _ | (rw [ByteArray.size_extract]; omega)), .inr ⟨_, by unfold wdO; rw [HLF.out], by rw [H12.out.1, H12.out.2]; cases farB a <;> cases farB b <;> rfl⟩⟩
                | false =>
                  have h2 := dateR_no hb
                  rw [h2] at HDB
                  have HLF := hide (show lf s.data.toList = none by rw [hlf, ha, hb]; rfl)
                  clear hlf ha hb
                  generalize dateR a = DA at *
                  obtain ⟨A1, A2⟩ := DA
                  simp only at h1
                  have q1 : (A2 == 8) = false := by rw [h1]; split <;> rfl
                  clear h1 h2
                  go_wp2_with (first | (go_at_call 63; (refine (HDG.out _).mono ?_); intro e W1 hno; obtain ⟨kv, rfl, hbl⟩ := hno.no HN.out; have HS1 := hide (HS.out.below hbl); clear d0 d1 d2 d3 d4 y0 y1 y2 y3 y4 hg; clear HS; have HS := HS1; clear HS1; obtain ⟨d0, d1, d2, d3, d4, y0, y1, y2, y3, y4, hg⟩ := HS.out.cells; clear hbl hno) | (go_at_call 48; (refine (HCT.out _ (maxTold_below HM.out HS.out.bel)).mono ?_); rintro e w' ⟨rfl, n9, rfl⟩; have HS1 := hide (HS.out.below (bl_drewN (Below.refl _ _) n9)); clear d0 d1 d2 d3 d4 y0 y1 y2 y3 y4 hg; clear HS; have HS := HS1; clear HS1; obtain ⟨d0, d1, d2, d3, d4, y0, y1, y2, y3, y4, hg⟩ := HS.out.cells) | (go_at_call_of 64 (Value.string (strOf a)); (refine (HDA.out _ (maxTold_below HM.out HS.out.bel)).mono ?_); rintro e W1 ⟨rfl, hbl⟩; have HS1 := hide (HS.out.below hbl); clear d0 d1 d2 d3 d4 y0 y1 y2 y3 y4 hg; clear HS; have HS := HS1; clear HS1; obtain ⟨d0, d1, d2, d3, d4, y0, y1, y2, y3, y4, hg⟩ := HS.out.cells; clear hbl) | (go_at_call_of 64 (Value.string (strOf b)); (refine (HDB.out _ (maxTold_below HM.out HS.out.bel)).mono ?_); rintro e W1 ⟨rfl, hbl⟩; have HS1 := hide (HS.out.below hbl); clear d0 d1 d2 d3 d4 y0 y1 y2 y3 y4 hg; clear HS; have HS := HS1; clear HS1; obtain ⟨d0, d1, d2, d3, d4, y0, y1, y2, y3, y4, hg⟩ := HS.out.cells; clear hbl) | (go_at_call 58; (refine (badR_any _).mono ?_); rintro e W9 ⟨rfl, hbl⟩; have HS1 := hide (HS.out.below hbl); clear d0 d1 d2 d3 d4 y0 y1 y2 y3 y4 hg; clear HS; have HS := HS1; clear HS1; obtain ⟨d0, d1, d2, d3, d4, y0, y1, y2, y3, y4, hg⟩ := HS.out.cells; clear hbl))
                  refine bodyPost_ret (res_cell3 (P := Tryz.prog) (fn := Tryz.f17) (p := 4) (u := 5) (v := 6) rfl _ _ _ 24 #[.int .i64 0, .int .i64 0, .int .i64 0, .string ⟨#[]⟩, .slice none 0 0] (0, 0) _ rfl (HS.out.end _ _ _ _ _).1 Tryz.underlying24 rfl (by kernel_rfl)) rfl ?_
                  exact ⟨(HS.out.end _ _ _ _ _).2, vN, ⟨#[]⟩, 8, rfl, rfl, Nat.zero_le _, .inl ⟨by unfold wdO; rw [HLF.out], rfl⟩⟩
              | false =>
                have h1 := dateR_no ha
                rw [h1] at HDA
                have HLF := hide (show lf s.data.toList = none by rw [hlf, ha]; rfl)
                clear hlf ha h1
                generalize dateR b = DB at *
                obtain ⟨B1, B2⟩ := DB
                go_wp2_with (first | (go_at_call 63; (refine (HDG.out _).mono ?_); intro e W1 hno; obtain ⟨kv, rfl, hbl⟩ := hno.no HN.out; have HS1 := hide (HS.out.below hbl); clear d0 d1 d2 d3 d4 y0 y1 y2 y3 y4 hg; clear HS; have HS := HS1; clear HS1; obtain ⟨d0, d1, d2, d3, d4, y0, y1, y2, y3, y4, hg⟩ := HS.out.cells; clear hbl hno) | (go_at_call 48; (refine (HCT.out _ (maxTold_below HM.out HS.out.bel)).mono ?_); rintro e w' ⟨rfl, n9, rfl⟩; have HS1 := hide (HS.out.below (bl_drewN (Below.refl _ _) n9)); clear d0 d1 d2 d3 d4 y0 y1 y2 y3 y4 hg; clear HS; have HS := HS1; clear HS1; obtain ⟨d0, d1, d2, d3, d4, y0, y1, y2, y3, y4, hg⟩ := HS.out.cells) | (go_at_call_of 64 (Value.string (strOf a)); (refine (HDA.out _ (maxTold_below HM.out HS.out.bel)).mono ?_); rintro e W1 ⟨rfl, hbl⟩; have HS1 := hide (HS.out.below hbl); clear d0 d1 d2 d3 d4 y0 y1 y2 y3 y4 hg; clear HS; have HS := HS1; clear HS1; obtain ⟨d0, d1, d2, d3, d4, y0, y1, y2, y3, y4, hg⟩ := HS.out.cells; clear hbl) | (go_at_call_of 64 (Value.string (strOf b)); (refine (HDB.out _ (maxTold_below HM.out HS.out.bel)).mono ?_); rintro e W1 ⟨rfl, hbl⟩; have HS1 := hide (HS.out.below hbl); clear d0 d1 d2 d3 d4 y0 y1 y2 y3 y4 hg; clear HS; have HS := HS1; clear HS1; obtain ⟨d0, d1, d2, d3, d4, y0, y1, y2, y3, y4, hg⟩ := HS.out.cells; clear hbl) | (go_at_call 58; (refine (badR_any _).mono ?_); rintro e W9 ⟨rfl, hbl⟩; have HS1 := hide (HS.out.below hbl); clear d0 d1 d2 d3 d4 y0 y1 y2 y3 y4 hg; clear HS; have HS := HS1; clear HS1; obtain ⟨d0, d1, d2, d3, d4, y0, y1, y2, y3, y4, hg⟩ := HS.out.cells; clear hbl))
                refine bodyPost_ret (res_cell3 (P := Tryz.prog) (fn := Tryz.f17) (p := 4) (u := 5) (v := 6) rfl _ _ _ 24 #[.int .i64 0, .int .i64 0, .int .i64 0, .string ⟨#[]⟩, .slice none 0 0] (0, 0) _ rfl (HS.out.end _ _ _ _ _).1 Tryz.underlying24 rfl (by kernel_rfl)) rfl ?_
                exact ⟨(HS.out.end _ _ _ _ _).2, vN, ⟨#[]⟩, 8, rfl, rfl, Nat.zero_le _, .inl ⟨by unfold wdO; rw [HLF.out], rfl⟩⟩

end Go.Proofs.YtdncmjlakmkfiaaGreatDoor
