/-
  PLAIN AND WALKS: the reference's token: tags; the token at all.
-/
import Derived.Test.YtioppoaijehicaaGreatDoorSpl
import Derived.Test.YtioppoaijehicaaGreatDoorSpm
set_option linter.all false
namespace Go.Proofs.YtioppoaijehicaaGreatDoor
open Go.RowKit

theorem tag_rest {s : ByteArray} {i : Nat} (hi : i < s.size) (h35 : one s i 35 = true) : tagP s i =
    if (∀ h : i - 1 < s.size, 0 < i → badP s[i - 1] = false) ∧ 1 < scn inTg (s.extract i s.size) 1 ∧ tagS ((s.extract i s.size).extract 1 (scn inTg (s.extract i s.size) 1)) = true then
      some ⟨6, i, i + scn inTg (s.extract i s.size) 1, (s.extract i s.size).extract 1 (scn inTg (s.extract i s.size) 1), ByteArray.empty, 0, false⟩
    else none := by
  have hz : (s.extract i s.size).size = s.size - i := by rw [ByteArray.size_extract, Nat.min_self]
  have e1 := scn_rest inTg s i 1
  have l1 := scn_le (p := inTg) (s := s.extract i s.size) (k := 1) (by omega)
  have g1 := scn_ge inTg (s.extract i s.size) 1
  have hall := ext_mem (s := s) (p := inTg) (a := i + 1) e1
  unfold tagP
  rw [h35, e1]
  generalize scn inTg (s.extract i s.size) 1 = E at *
  have hx : (s.extract i s.size).extract 1 E = s.extract (i + 1) (i + E) := ext_of_rest (by omega)
  have hxz : (s.extract (i + 1) (i + E)).size = E - 1 := by rw [ByteArray.size_extract, Nat.min_eq_left (by omega)]; omega
  rw [hx]
  have ha : (s.extract (i + 1) (i + E)).data.toList.all inTg = true := by rw [List.all_eq_true]; exact hall
  rcases Nat.lt_or_ge 1 E with h1 | h1
  · have o1 := ext_one (s := s) (a := i + 1) (E := i + E) (by omega) (by omega) 47
    have o2 := ext_last (s := s) (a := i + 1) (E := i + E) (by omega) (by omega) 47
    have ht : tagS (s.extract (i + 1) (i + E)) = ((s.extract (i + 1) (i + E)).data.toList.any isLt && (decide (E ≤ 101) && (!one s (i + 1) 47 && !one s (i + E - 1) 47))) := by
      unfold tagS
      rw [ha, o1, o2, hxz, Bool.true_and]
      congr 2
      exact decide_eq_decide.2 (by omega)
    by_cases hb : ∀ h : i - 1 < s.size, 0 < i → badP s[i - 1] = false
    · by_cases hc : (s.extract (i + 1) (i + E)).data.toList.any isLt = true ∧ i + E ≤ i + 101 ∧ one s (i + 1) 47 = false ∧ one s (i + E - 1) 47 = false
      · rw [if_pos ⟨rfl, hb, hc⟩, if_pos ⟨hb, h1, by rw [ht, hc.1, hc.2.2.1, hc.2.2.2, decide_eq_true (by omega)]; rfl⟩]
      · rw [if_neg (fun h => hc h.2.2), if_neg (fun h => hc (by
          have h9 := h.2.2
          rw [ht] at h9
          simp only [Bool.and_eq_true, decide_eq_true_eq, Bool.not_eq_true'] at h9
          exact ⟨h9.1, by omega, h9.2.2.1, h9.2.2.2⟩))]
    · rw [if_neg (fun h => hb h.2.1), if_neg (fun h => hb h.1)]
  · have : (s.extract (i + 1) (i + E)).data.toList.any isLt = false := by
      have : (s.extract (i + 1) (i + E)).data.toList = [] := List.length_eq_zero_iff.1 (by rw [← Lib.size_eq]; omega)
      rw [this]; rfl
    rw [if_neg (fun h => by rw [this] at h; exact absurd h.2.2.1 Bool.false_ne_true), if_neg (fun h => by omega)]

set_option maxHeartbeats 6400000 in
set_option maxRecDepth 100000 in
theorem tokenR_tag (s : ByteArray) (i : Nat) (w : World) (hi : i < s.size) (hs : s.size ≤ 900000) (hb : s[i].toNat = 35) :
    Calls Tryz.prog 117 #[.string s, .int .i64 i] w (RTokOut s i w) := by
  have HPO : Hid (∀ (cs : Array Value) w', cs = (fill1 s (tokP s i)).vals.toArray → Below w.heap.size w w' → RTokOut s i w (.returned (.agg cs)) w') := hide fun cs w' hc hb => by rw [hc]; exact ⟨rfl, hb⟩
  generalize RTokOut s i w = PO at *
  have HPP := hide (fun (h : tokP s i = plSp i) w' (hb : Below w.heap.size w w') => HPO.out #[.int .i64 1, .int .i64 i, .int .i64 ((i : Int) + 1), .string (s.extract i (i + 1)), .string ⟨#[]⟩, .int .i64 0, .bool false] w' (by rw [h]; exact plSp_fill s i) hb)
  have HPS := hide (fun (x : Sp) (h : tokP s i = x) (hk : x.kind ≠ 1) (cs : Array Value) w' (hc : cs = x.vals.toArray) (hb : Below w.heap.size w w') => HPO.out cs w' (by rw [hc, h, fill1_other hk]) hb)
  have hRz : (s.extract i s.size).size = s.size - i := by rw [ByteArray.size_extract, Nat.min_self]
  have HR0 : Hid (∀ h : 0 < (s.extract i s.size).size, (s.extract i s.size)[0].toNat = s[i].toNat) := hide fun h => rest_zero hi h
  have HHB := hide (fun c (hc : c < 256) W => has2_at s i c hc W)
  have i0 : (i : Int) < (s.size : Int) := by omega
  have i1 : (i : Int) + 1 ≤ (s.size : Int) := by omega
  have HT := hide (tokP_tag hi hb)
  have h35 : one s i 35 = true := by unfold one; rw [dif_pos hi]; exact beq_iff_eq.2 hb
  have HTR := hide (tag_rest hi h35)
  have HTG0 := hide (fun E W => isTagR_any ((s.extract i s.size).extract 1 E) W (by rw [ByteArray.size_extract]; omega))
  have hq : i - 1 < s.size := by omega
  generalize hre : s.extract i s.size = R at *
  have HRE := hide hre
  clear hre
  have H91 := hide (show ∀ W, Calls Tryz.prog 133 #[.string R, .string ⟨#[91, 91]⟩] W (fun e w' => e = .returned (.bool false) ∧ w' = W) from fun W => by have := HHB.out 91 (by decide) W; rw [show two s i 91 = false from two_by hi (by omega)] at this; exact this)
  have H40 := hide (show ∀ W, Calls Tryz.prog 133 #[.string R, .string ⟨#[40, 40]⟩] W (fun e w' => e = .returned (.bool false) ∧ w' = W) from fun W => by have := HHB.out 40 (by decide) W; rw [show two s i 40 = false from two_by hi (by omega)] at this; exact this)
  have H42 := hide (show ∀ W, Calls Tryz.prog 133 #[.string R, .string ⟨#[42, 42]⟩] W (fun e w' => e = .returned (.bool false) ∧ w' = W) from fun W => by have := HHB.out 42 (by decide) W; rw [show two s i 42 = false from two_by hi (by omega)] at this; exact this)
  have hRp : 0 < R.size := by omega
  have hRb : (R.size : Int) ≤ 900000 := by omega
  have hr0 := HR0.out hRp
  have hRi : (0 : Int) < (R.size : Int) := by omega
  have r92 : ((R[0].toNat : Int) == 92) = false := beq_eq_false_iff_ne.2 (by omega)
  have r96 : ((R[0].toNat : Int) == 96) = false := beq_eq_false_iff_ne.2 (by omega)
  have r35 : ((R[0].toNat : Int) == 35) = true := beq_iff_eq.2 (by omega)
  clear hr0 HR0
  have hge := scn_ge inTg R 1
  have hle := scn_le (p := inTg) (s := R) (k := 1) (by omega)
  have HLTA := hide (fun k (h : k < R.size) W => isLetterR_any R[k] W)
  have HDGA := hide (fun k (h : k < R.size) W => isDigitR_any R[k] W)
  have HPL := hide (fun W => isLetterR_any s[i - 1] W)
  have HPD := hide (fun W => isDigitR_any s[i - 1] W)
  have j9 : (1 : Int) ≤ (R.size : Int) := by omega
  rw [HTR.out] at HT
  obtain ⟨E, hE⟩ : ∃ E, scn inTg R 1 = E := ⟨_, rfl⟩
  have HE := hide hE
  rw [hE] at HT hge hle
  have HTG := hide (HTG0.out E)
  clear HTR hE HHB hb h35 HTG0
  by_cases h0 : 0 < i
  · have i2 : (0 : Int) < (i : Int) := by omega
    have i3 : (i : Int) - 1 < (s.size : Int) := by omega
    have i4 : 0 ≤ (i : Int) - 1 := by omega
    cases hbd : badP s[i - 1] with
    | true =>
      have HF := hide (HPP.out (by rw [HT.out, if_neg (fun h => by have := h.1 hq h0; rw [hbd] at this; cases this)]; rfl))
      clear HPS HPP HPO HT HTG HE HLTA HDGA
      rcases badP_yes hbd with h | ⟨h, h2⟩ | ⟨h, h2, b2⟩ | ⟨h, h2, b2, b3⟩
      all_goals
        rw [h] at HPL
        (try rw [h2] at HPD)
        clear hbd h h0
        have HRZ := hide hRz
        clear hRz
        go_enter Tryz.func117, Tryz.ntmps117
        go_upto_region 3 with (fail)
        have HN := hide (show Blk ((w.alloc (.cells #[.int .i64 0, .int .i64 0, .int .i64 0, .string ⟨#[]⟩, .string ⟨#[]⟩, .int .i64 0, .bool false] 90)).alloc (.cells #[.int .i64 1, .int .i64 i, .int .i64 ((i : Int) + 1), .string (s.extract i (i + 1)), .string ⟨#[]⟩, .int .i64 0, .bool false] 90)) w.heap.size 90 #[.int .i64 0, .int .i64 0, .int .i64 0, .string ⟨#[]⟩, .string ⟨#[]⟩, .int .i64 0, .bool false] from (Blk.new w 90 #[.int .i64 0, .int .i64 0, .int .i64 0, .string ⟨#[]⟩, .string ⟨#[]⟩, .int .i64 0, .bool false]).alloc _)
        have HXB := hide (show Blk ((w.alloc (.cells #[.int .i64 0, .int .i64 0, .int .i64 0, .string ⟨#[]⟩, .string ⟨#[]⟩, .int .i64 0, .bool false] 90)).alloc (.cells #[.int .i64 1, .int .i64 i, .int .i64 ((i : Int) + 1), .string (s.extract i (i + 1)), .string ⟨#[]⟩, .int .i64 0, .bool false] 90)) (w.heap.size + 1) 90 #[.int .i64 1, .int .i64 i, .int .i64 ((i : Int) + 1), .string (s.extract i (i + 1)), .string ⟨#[]⟩, .int .i64 0, .bool false] from by have := Blk.new (w.alloc (.cells #[.int .i64 0, .int .i64 0, .int .i64 0, .string ⟨#[]⟩, .string ⟨#[]⟩, .int .i64 0, .bool false] 90)) 90 #[.int .i64 1, .int .i64 i, .int .i64 ((i : Int) + 1), .string (s.extract i (i + 1)), .string ⟨#[]⟩, .int .i64 0, .bool false]; simpa using this)
        have HBA := hide (bl_alloc (bl_alloc (Below.refl w.heap.size w) (.cells #[.int .i64 0, .int .i64 0, .int .i64 0, .string ⟨#[]⟩, .string ⟨#[]⟩, .int .i64 0, .bool false] 90)) (.cells #[.int .i64 1, .int .i64 i, .int .i64 ((i : Int) + 1), .string (s.extract i (i + 1)), .string ⟨#[]⟩, .int .i64 0, .bool false] 90))
        rw [HRE.out]
        generalize (w.alloc (.cells #[.int .i64 0, .int .i64 0, .int .i64 0, .string ⟨#[]⟩, .string ⟨#[]⟩, .int .i64 0, .bool false] 90)).alloc (.cells #[.int .i64 1, .int .i64 i, .int .i64 ((i : Int) + 1), .string (s.extract i (i + 1)), .string ⟨#[]⟩, .int .i64 0, .bool false] 90) = wa at *
        generalize w.heap.size + 1 = gx at *
        obtain ⟨z0, z1, z2, z3, z4, z5, z6, zf, zl⟩ := HN.out.seven
        obtain ⟨v0, v1, v2, v3, v4, v5, v6, -, vl⟩ := HXB.out.seven
        go_wp2_with (first | (go_at_call 164; refine (HPL.out _).mono ?_; rintro e w' ⟨rfl, rfl⟩) | (go_at_call 163; refine (HPD.out _).mono ?_; rintro e w' ⟨rfl, rfl⟩) | (go_at_call 133; (first | (with_reducible refine (H91.out _).mono ?_) | (with_reducible refine (H40.out _).mono ?_)); rintro e w' ⟨rfl, hw⟩; subst w'))
        refine bodyPost_ret (results_cell_row (P := Tryz.prog) (by rfl) _ _ w.heap.size 90 _ (0, 0) _ rfl (seven_set HN.out) Tryz.underlying90 rfl (by kernel_rfl)) rfl ?_
        exact HF.out _ (below_seven HBA.out (Nat.le_refl _))
    | false =>
      have hbad : ∀ h : i - 1 < s.size, 0 < i → badP s[i - 1] = false := fun _ _ => hbd
      obtain ⟨h, h2, b2, b3⟩ := badP_no hbd
      rw [h] at HPL
      rw [h2] at HPD
      clear hbd h h2
      have HRZ := hide hRz
      clear hRz
      go_enter Tryz.func117, Tryz.ntmps117
      go_upto_region 3 with (fail)
      have HN := hide (show Blk ((w.alloc (.cells #[.int .i64 0, .int .i64 0, .int .i64 0, .string ⟨#[]⟩, .string ⟨#[]⟩, .int .i64 0, .bool false] 90)).alloc (.cells #[.int .i64 1, .int .i64 i, .int .i64 ((i : Int) + 1), .string (s.extract i (i + 1)), .string ⟨#[]⟩, .int .i64 0, .bool false] 90)) w.heap.size 90 #[.int .i64 0, .int .i64 0, .int .i64 0, .string ⟨#[]⟩, .string ⟨#[]⟩, .int .i64 0, .bool false] from (Blk.new w 90 #[.int .i64 0, .int .i64 0, .int .i64 0, .string ⟨#[]⟩, .string ⟨#[]⟩, .int .i64 0, .bool false]).alloc _)
      have HXB := hide (show Blk ((w.alloc (.cells #[.int .i64 0, .int .i64 0, .int .i64 0, .string ⟨#[]⟩, .string ⟨#[]⟩, .int .i64 0, .bool false] 90)).alloc (.cells #[.int .i64 1, .int .i64 i, .int .i64 ((i : Int) + 1), .string (s.extract i (i + 1)), .string ⟨#[]⟩, .int .i64 0, .bool false] 90)) (w.heap.size + 1) 90 #[.int .i64 1, .int .i64 i, .int .i64 ((i : Int) + 1), .string (s.extract i (i + 1)), .string ⟨#[]⟩, .int .i64 0, .bool false] from by have := Blk.new (w.alloc (.cells #[.int .i64 0, .int .i64 0, .int .i64 0, .string ⟨#[]⟩, .string ⟨#[]⟩, .int .i64 0, .bool false] 90)) 90 #[.int .i64 1, .int .i64 i, .int .i64 ((i : Int) + 1), .string (s.extract i (i + 1)), .string ⟨#[]⟩, .int .i64 0, .bool false]; simpa using this)
      have HBA := hide (bl_alloc (bl_alloc (Below.refl w.heap.size w) (.cells #[.int .i64 0, .int .i64 0, .int .i64 0, .string ⟨#[]⟩, .string ⟨#[]⟩, .int .i64 0, .bool false] 90)) (.cells #[.int .i64 1, .int .i64 i, .int .i64 ((i : Int) + 1), .string (s.extract i (i + 1)), .string ⟨#[]⟩, .int .i64 0, .bool false] 90))
      rw [HRE.out]
      generalize (w.alloc (.cells #[.int .i64 0, .int .i64 0, .int .i64 0, .string ⟨#[]⟩, .string ⟨#[]⟩, .int .i64 0, .bool false] 90)).alloc (.cells #[.int .i64 1, .int .i64 i, .int .i64 ((i : Int) + 1), .string (s.extract i (i + 1)), .string ⟨#[]⟩, .int .i64 0, .bool false] 90) = wa at *
      generalize w.heap.size + 1 = gx at *
      obtain ⟨z0, z1, z2, z3, z4, z5, z6, zf, zl⟩ := HN.out.seven
      obtain ⟨v0, v1, v2, v3, v4, v5, v6, -, vl⟩ := HXB.out.seven
      go_upto_block 3 with (first | (go_at_call 164; refine (HPL.out _).mono ?_; rintro e w' ⟨rfl, rfl⟩) | (go_at_call 163; refine (HPD.out _).mono ?_; rintro e w' ⟨rfl, rfl⟩) | (go_at_call 133; (first | (with_reducible refine (H91.out _).mono ?_) | (with_reducible refine (H40.out _).mono ?_)); rintro e w' ⟨rfl, hw⟩; subst w'))
      go_cut [14] from 203 to 238 (fun s14 wx => s14 = .int .i64 E ∧ wa = wx)
      case first =>
        clear HPS HPP HPO HT HTG
        go_wp2_with fail
        go_loopw [14] (fun s14 wr => ∃ k : Nat, 1 ≤ k ∧ k ≤ R.size ∧ s14 = .int .i64 k ∧ Hid (scn inTg R k = E) ∧ wr = wa) (fun s14 _ => R.size - (intOf s14).toNat)
        case atStart => exact ⟨1, Nat.le_refl _, by omega, by go_num, HE, rfl⟩
        case round =>
          obtain ⟨k, hk1, hk2, rfl, HR, rfl⟩ := hrel
          by_cases hlt : k < R.size
          · have j1 : (k : Int) < (R.size : Int) := by omega
            have HLT := hide (HLTA.out k hlt)
            have HDG := hide (HDGA.out k hlt)
            have hin : inTg R[k] = (isLt R[k] || (isDg R[k] || (R[k].toNat == 95 || (R[k].toNat == 45 || R[k].toNat == 47)))) := rfl
            have e1 := u8_ieq R[k] 95
            have e2 := u8_ieq R[k] 45
            have e3 := u8_ieq R[k] 47
            simp only [Int.cast_ofNat_Int] at e1 e2 e3
            have HIN := hide hin
            have HST := hide (fun (h : inTg R[k] = false) => (scn_stop hlt h).symm.trans HR.out)
            clear HLTA HDGA hin
            generalize isLt R[k] = bl at *
            generalize isDg R[k] = bd at *
            generalize (R[k].toNat == 95) = b1 at *
            generalize (R[k].toNat == 45) = b2 at *
            generalize (R[k].toNat == 47) = b3 at *
            cases bl with
            | true =>
              have HG := hide ((scn_step hlt HIN.out).trans HR.out)
              clear HIN HR
              go_wp2_with (first | (go_at_call 164; refine (HLT.out _).mono ?_; rintro e w' ⟨rfl, rfl⟩) | (go_at_call 163; refine (HDG.out _).mono ?_; rintro e w' ⟨rfl, rfl⟩))
              go_roundw
              case rel => exact ⟨k + 1, by omega, hlt, by go_num, HG, by first | rfl | trivial⟩
              case measure => simp [intOf]; omega
            | false =>
              cases bd with
              | true =>
                have HG := hide ((scn_step hlt HIN.out).trans HR.out)
                clear HIN HR
                go_wp2_with (first | (go_at_call 164; refine (HLT.out _).mono ?_; rintro e w' ⟨rfl, rfl⟩) | (go_at_call 163; refine (HDG.out _).mono ?_; rintro e w' ⟨rfl, rfl⟩))
                go_roundw
                case rel => exact ⟨k + 1, by omega, hlt, by go_num, HG, by first | rfl | trivial⟩
                case measure => simp [intOf]; omega
              | false =>
                cases b1 with
                | true =>
                  have HG := hide ((scn_step hlt HIN.out).trans HR.out)
                  clear HIN HR
                  go_wp2_with (first | (go_at_call 164; refine (HLT.out _).mono ?_; rintro e w' ⟨rfl, rfl⟩) | (go_at_call 163; refine (HDG.out _).mono ?_; rintro e w' ⟨rfl, rfl⟩))
                  go_roundw
                  case rel => exact ⟨k + 1, by omega, hlt, by go_num, HG, by first | rfl | trivial⟩
                  case measure => simp [intOf]; omega
                | false =>
                  cases b2 with
                  | true =>
                    have HG := hide ((scn_step hlt HIN.out).trans HR.out)
                    clear HIN HR
                    go_wp2_with (first | (go_at_call 164; refine (HLT.out _).mono ?_; rintro e w' ⟨rfl, rfl⟩) | (go_at_call 163; refine (HDG.out _).mono ?_; rintro e w' ⟨rfl, rfl⟩))
                    go_roundw
                    case rel => exact ⟨k + 1, by omega, hlt, by go_num, HG, by first | rfl | trivial⟩
                    case measure => simp [intOf]; omega
                  | false =>
                    cases b3 with
                    | true =>
                      have HG := hide ((scn_step hlt HIN.out).trans HR.out)
                      clear HIN HR
                      go_wp2_with (first | (go_at_call 164; refine (HLT.out _).mono ?_; rintro e w' ⟨rfl, rfl⟩) | (go_at_call 163; refine (HDG.out _).mono ?_; rintro e w' ⟨rfl, rfl⟩))
                      go_roundw
                      case rel => exact ⟨k + 1, by omega, hlt, by go_num, HG, by first | rfl | trivial⟩
                      case measure => simp [intOf]; omega
                    | false =>
                      have HKE := hide (HST.out HIN.out)
                      clear HIN HR HST
                      go_wp2_with (first | (go_at_call 164; refine (HLT.out _).mono ?_; rintro e w' ⟨rfl, rfl⟩) | (go_at_call 163; refine (HDG.out _).mono ?_; rintro e w' ⟨rfl, rfl⟩))
                      go_meet
                      exact ⟨by rw [HKE.out], by first | rfl | trivial⟩
          · have HKE := hide (show k = E from by have := HR.out; rw [scn_over (by omega)] at this; exact this)
            have j1 : ¬ (k : Int) < (R.size : Int) := by omega
            clear HR
            go_wp2
            go_meet
            exact ⟨by rw [HKE.out], by first | rfl | trivial⟩
      case rest =>
      obtain ⟨rfl, rfl⟩ := hcut
      clear HLTA HDGA HE
      have jE : (E : Int) ≤ (R.size : Int) := by omega
      have j0 : (1 : Int) ≤ (E : Int) := by omega
      by_cases hE1 : 1 < E
      · have j1 : (1 : Int) < (E : Int) := by omega
        cases ht : tagS (R.extract 1 E) with
        | true =>
          rw [ht] at HTG
          have j5 : (i : Int) + E ≤ (s.size : Int) := by have := HRZ.out; omega
          have HF := hide (HPS.out ⟨6, i, i + E, R.extract 1 E, ByteArray.empty, 0, false⟩ (by rw [HT.out, if_pos ⟨hbad, hE1, ht⟩]; rfl) (show (6 : Int) ≠ 1 by decide))
          clear HPS HPP HPO HT ht hbad
          go_wp2_with (go_at_call 165; refine (HTG.out _).mono ?_; rintro e w' ⟨rfl, hw⟩; subst w')
          refine bodyPost_ret (results_cell_row (P := Tryz.prog) (by rfl) _ _ w.heap.size 90 _ (0, 0) _ rfl (seven_set HN.out) Tryz.underlying90 rfl (by kernel_rfl)) rfl ?_
          exact HF.out _ _ (by simp only [Sp.vals, Int.natCast_add, Int.cast_ofNat_Int] <;> rfl) (below_seven HBA.out (Nat.le_refl _))
        | false =>
          rw [ht] at HTG
          have HF := hide (HPP.out (by rw [HT.out, if_neg (fun h => by rw [ht] at h; exact absurd h.2.2 Bool.false_ne_true)]; rfl))
          clear HPS HPP HPO HT ht hbad
          go_wp2_with (go_at_call 165; refine (HTG.out _).mono ?_; rintro e w' ⟨rfl, hw⟩; subst w')
          refine bodyPost_ret (results_cell_row (P := Tryz.prog) (by rfl) _ _ w.heap.size 90 _ (0, 0) _ rfl (seven_set HN.out) Tryz.underlying90 rfl (by kernel_rfl)) rfl ?_
          exact HF.out _ (below_seven HBA.out (Nat.le_refl _))
      · have j1 : ¬ (1 : Int) < (E : Int) := by omega
        have HF := hide (HPP.out (by rw [HT.out, if_neg (fun h => hE1 h.2.1)]; rfl))
        clear HPS HPP HPO HT hbad
        go_wp2_with (go_at_call 133; (first | (with_reducible refine (H91.out _).mono ?_) | (with_reducible refine (H40.out _).mono ?_) | (with_reducible refine (H42.out _).mono ?_)); rintro e w' ⟨rfl, hw⟩; subst w')
        refine bodyPost_ret (results_cell_row (P := Tryz.prog) (by rfl) _ _ w.heap.size 90 _ (0, 0) _ rfl (seven_set HN.out) Tryz.underlying90 rfl (by kernel_rfl)) rfl ?_
        exact HF.out _ (below_seven HBA.out (Nat.le_refl _))
  · have i2 : ¬ (0 : Int) < (i : Int) := by omega
    have hbad : ∀ h : i - 1 < s.size, 0 < i → badP s[i - 1] = false := fun _ h => absurd h h0
    clear HPL HPD
    have HRZ := hide hRz
    clear hRz
    go_enter Tryz.func117, Tryz.ntmps117
    go_upto_region 3 with (fail)
    have HN := hide (show Blk ((w.alloc (.cells #[.int .i64 0, .int .i64 0, .int .i64 0, .string ⟨#[]⟩, .string ⟨#[]⟩, .int .i64 0, .bool false] 90)).alloc (.cells #[.int .i64 1, .int .i64 i, .int .i64 ((i : Int) + 1), .string (s.extract i (i + 1)), .string ⟨#[]⟩, .int .i64 0, .bool false] 90)) w.heap.size 90 #[.int .i64 0, .int .i64 0, .int .i64 0, .string ⟨#[]⟩, .string ⟨#[]⟩, .int .i64 0, .bool false] from (Blk.new w 90 #[.int .i64 0, .int .i64 0, .int .i64 0, .string ⟨#[]⟩, .string ⟨#[]⟩, .int .i64 0, .bool false]).alloc _)
    have HXB := hide (show Blk ((w.alloc (.cells #[.int .i64 0, .int .i64 0, .int .i64 0, .string ⟨#[]⟩, .string ⟨#[]⟩, .int .i64 0, .bool false] 90)).alloc (.cells #[.int .i64 1, .int .i64 i, .int .i64 ((i : Int) + 1), .string (s.extract i (i + 1)), .string ⟨#[]⟩, .int .i64 0, .bool false] 90)) (w.heap.size + 1) 90 #[.int .i64 1, .int .i64 i, .int .i64 ((i : Int) + 1), .string (s.extract i (i + 1)), .string ⟨#[]⟩, .int .i64 0, .bool false] from by have := Blk.new (w.alloc (.cells #[.int .i64 0, .int .i64 0, .int .i64 0, .string ⟨#[]⟩, .string ⟨#[]⟩, .int .i64 0, .bool false] 90)) 90 #[.int .i64 1, .int .i64 i, .int .i64 ((i : Int) + 1), .string (s.extract i (i + 1)), .string ⟨#[]⟩, .int .i64 0, .bool false]; simpa using this)
    have HBA := hide (bl_alloc (bl_alloc (Below.refl w.heap.size w) (.cells #[.int .i64 0, .int .i64 0, .int .i64 0, .string ⟨#[]⟩, .string ⟨#[]⟩, .int .i64 0, .bool false] 90)) (.cells #[.int .i64 1, .int .i64 i, .int .i64 ((i : Int) + 1), .string (s.extract i (i + 1)), .string ⟨#[]⟩, .int .i64 0, .bool false] 90))
    rw [HRE.out]
    generalize (w.alloc (.cells #[.int .i64 0, .int .i64 0, .int .i64 0, .string ⟨#[]⟩, .string ⟨#[]⟩, .int .i64 0, .bool false] 90)).alloc (.cells #[.int .i64 1, .int .i64 i, .int .i64 ((i : Int) + 1), .string (s.extract i (i + 1)), .string ⟨#[]⟩, .int .i64 0, .bool false] 90) = wa at *
    generalize w.heap.size + 1 = gx at *
    obtain ⟨z0, z1, z2, z3, z4, z5, z6, zf, zl⟩ := HN.out.seven
    obtain ⟨v0, v1, v2, v3, v4, v5, v6, -, vl⟩ := HXB.out.seven
    go_upto_block 3 with (go_at_call 133; (first | (with_reducible refine (H91.out _).mono ?_) | (with_reducible refine (H40.out _).mono ?_)); rintro e w' ⟨rfl, hw⟩; subst w')
    go_cut [14] from 203 to 238 (fun s14 wx => s14 = .int .i64 E ∧ wa = wx)
    case first =>
      clear HPS HPP HPO HT HTG
      go_wp2_with fail
      go_loopw [14] (fun s14 wr => ∃ k : Nat, 1 ≤ k ∧ k ≤ R.size ∧ s14 = .int .i64 k ∧ Hid (scn inTg R k = E) ∧ wr = wa) (fun s14 _ => R.size - (intOf s14).toNat)
      case atStart => exact ⟨1, Nat.le_refl _, by omega, by go_num, HE, rfl⟩
      case round =>
        obtain ⟨k, hk1, hk2, rfl, HR, rfl⟩ := hrel
        by_cases hlt : k < R.size
        · have j1 : (k : Int) < (R.size : Int) := by omega
          have HLT := hide (HLTA.out k hlt)
          have HDG := hide (HDGA.out k hlt)
          have hin : inTg R[k] = (isLt R[k] || (isDg R[k] || (R[k].toNat == 95 || (R[k].toNat == 45 || R[k].toNat == 47)))) := rfl
          have e1 := u8_ieq R[k] 95
          have e2 := u8_ieq R[k] 45
          have e3 := u8_ieq R[k] 47
          simp only [Int.cast_ofNat_Int] at e1 e2 e3
          have HIN := hide hin
          have HST := hide (fun (h : inTg R[k] = false) => (scn_stop hlt h).symm.trans HR.out)
          clear HLTA HDGA hin
          generalize isLt R[k] = bl at *
          generalize isDg R[k] = bd at *
          generalize (R[k].toNat == 95) = b1 at *
          generalize (R[k].toNat == 45) = b2 at *
          generalize (R[k].toNat == 47) = b3 at *
          cases bl with
          | true =>
            have HG := hide ((scn_step hlt HIN.out).trans HR.out)
            clear HIN HR
            go_wp2_with (first | (go_at_call 164; refine (HLT.out _).mono ?_; rintro e w' ⟨rfl, rfl⟩) | (go_at_call 163; refine (HDG.out _).mono ?_; rintro e w' ⟨rfl, rfl⟩))
            go_roundw
            case rel => exact ⟨k + 1, by omega, hlt, by go_num, HG, by first | rfl | trivial⟩
            case measure => simp [intOf]; omega
          | false =>
            cases bd with
            | true =>
              have HG := hide ((scn_step hlt HIN.out).trans HR.out)
              clear HIN HR
              go_wp2_with (first | (go_at_call 164; refine (HLT.out _).mono ?_; rintro e w' ⟨rfl, rfl⟩) | (go_at_call 163; refine (HDG.out _).mono ?_; rintro e w' ⟨rfl, rfl⟩))
              go_roundw
              case rel => exact ⟨k + 1, by omega, hlt, by go_num, HG, by first | rfl | trivial⟩
              case measure => simp [intOf]; omega
            | false =>
              cases b1 with
              | true =>
                have HG := hide ((scn_step hlt HIN.out).trans HR.out)
                clear HIN HR
                go_wp2_with (first | (go_at_call 164; refine (HLT.out _).mono ?_; rintro e w' ⟨rfl, rfl⟩) | (go_at_call 163; refine (HDG.out _).mono ?_; rintro e w' ⟨rfl, rfl⟩))
                go_roundw
                case rel => exact ⟨k + 1, by omega, hlt, by go_num, HG, by first | rfl | trivial⟩
                case measure => simp [intOf]; omega
              | false =>
                cases b2 with
                | true =>
                  have HG := hide ((scn_step hlt HIN.out).trans HR.out)
                  clear HIN HR
                  go_wp2_with (first | (go_at_call 164; refine (HLT.out _).mono ?_; rintro e w' ⟨rfl, rfl⟩) | (go_at_call 163; refine (HDG.out _).mono ?_; rintro e w' ⟨rfl, rfl⟩))
                  go_roundw
                  case rel => exact ⟨k + 1, by omega, hlt, by go_num, HG, by first | rfl | trivial⟩
                  case measure => simp [intOf]; omega
                | false =>
                  cases b3 with
                  | true =>
                    have HG := hide ((scn_step hlt HIN.out).trans HR.out)
                    clear HIN HR
                    go_wp2_with (first | (go_at_call 164; refine (HLT.out _).mono ?_; rintro e w' ⟨rfl, rfl⟩) | (go_at_call 163; refine (HDG.out _).mono ?_; rintro e w' ⟨rfl, rfl⟩))
                    go_roundw
                    case rel => exact ⟨k + 1, by omega, hlt, by go_num, HG, by first | rfl | trivial⟩
                    case measure => simp [intOf]; omega
                  | false =>
                    have HKE := hide (HST.out HIN.out)
                    clear HIN HR HST
                    go_wp2_with (first | (go_at_call 164; refine (HLT.out _).mono ?_; rintro e w' ⟨rfl, rfl⟩) | (go_at_call 163; refine (HDG.out _).mono ?_; rintro e w' ⟨rfl, rfl⟩))
                    go_meet
                    exact ⟨by rw [HKE.out], by first | rfl | trivial⟩
        · have HKE := hide (show k = E from by have := HR.out; rw [scn_over (by omega)] at this; exact this)
          have j1 : ¬ (k : Int) < (R.size : Int) := by omega
          clear HR
          go_wp2
          go_meet
          exact ⟨by rw [HKE.out], by first | rfl | trivial⟩
    case rest =>
    obtain ⟨rfl, rfl⟩ := hcut
    clear HLTA HDGA HE
    have jE : (E : Int) ≤ (R.size : Int) := by omega
    have j0 : (1 : Int) ≤ (E : Int) := by omega
    by_cases hE1 : 1 < E
    · have j1 : (1 : Int) < (E : Int) := by omega
      cases ht : tagS (R.extract 1 E) with
      | true =>
        rw [ht] at HTG
        have j5 : (i : Int) + E ≤ (s.size : Int) := by have := HRZ.out; omega
        have HF := hide (HPS.out ⟨6, i, i + E, R.extract 1 E, ByteArray.empty, 0, false⟩ (by rw [HT.out, if_pos ⟨hbad, hE1, ht⟩]; rfl) (show (6 : Int) ≠ 1 by decide))
        clear HPS HPP HPO HT ht hbad
        go_wp2_with (go_at_call 165; refine (HTG.out _).mono ?_; rintro e w' ⟨rfl, hw⟩; subst w')
        refine bodyPost_ret (results_cell_row (P := Tryz.prog) (by rfl) _ _ w.heap.size 90 _ (0, 0) _ rfl (seven_set HN.out) Tryz.underlying90 rfl (by kernel_rfl)) rfl ?_
        exact HF.out _ _ (by simp only [Sp.vals, Int.natCast_add, Int.cast_ofNat_Int] <;> rfl) (below_seven HBA.out (Nat.le_refl _))
      | false =>
        rw [ht] at HTG
        have HF := hide (HPP.out (by rw [HT.out, if_neg (fun h => by rw [ht] at h; exact absurd h.2.2 Bool.false_ne_true)]; rfl))
        clear HPS HPP HPO HT ht hbad
        go_wp2_with (go_at_call 165; refine (HTG.out _).mono ?_; rintro e w' ⟨rfl, hw⟩; subst w')
        refine bodyPost_ret (results_cell_row (P := Tryz.prog) (by rfl) _ _ w.heap.size 90 _ (0, 0) _ rfl (seven_set HN.out) Tryz.underlying90 rfl (by kernel_rfl)) rfl ?_
        exact HF.out _ (below_seven HBA.out (Nat.le_refl _))
    · have j1 : ¬ (1 : Int) < (E : Int) := by omega
      have HF := hide (HPP.out (by rw [HT.out, if_neg (fun h => hE1 h.2.1)]; rfl))
      clear HPS HPP HPO HT hbad
      go_wp2_with (go_at_call 133; (first | (with_reducible refine (H91.out _).mono ?_) | (with_reducible refine (H40.out _).mono ?_) | (with_reducible refine (H42.out _).mono ?_)); rintro e w' ⟨rfl, hw⟩; subst w')
      refine bodyPost_ret (results_cell_row (P := Tryz.prog) (by rfl) _ _ w.heap.size 90 _ (0, 0) _ rfl (seven_set HN.out) Tryz.underlying90 rfl (by kernel_rfl)) rfl ?_
      exact HF.out _ (below_seven HBA.out (Nat.le_refl _))

theorem tokenR_any (s : ByteArray) (i : Nat) (w : World) (hi : i < s.size) (hs : s.size ≤ 900000) (hmt : MaxTold w) :
    Calls Tryz.prog 117 #[.string s, .int .i64 i] w (RTokOut s i w) := by
  by_cases h1 : s[i].toNat = 92
  · exact tokenR_esc s i w hi hs h1
  by_cases h2 : s[i].toNat = 96
  · exact tokenR_code s i w hi hs h2
  by_cases h3 : s[i].toNat = 91
  · exact tokenR_link s i w hi hs h3 hmt
  by_cases h4 : s[i].toNat = 40
  · exact tokenR_ref s i w hi hs h4
  by_cases h5 : s[i].toNat = 35
  · exact tokenR_tag s i w hi hs h5
  by_cases h6 : s[i].toNat = 42
  · exact tokenR_bold s i w hi hs h6
  exact tokenR_other s i w hi hs h1 h2 h3 h4 h5 h6

end Go.Proofs.YtioppoaijehicaaGreatDoor
