/-
  WALKS: the reference's part of a query.
-/
import Derived.Test.YtfklaahakibljaaQryG
namespace Go.Proofs.Ytfklaahakibljaa
open Go.RowKit Go.Shelf

/-- What the reference's part hands back. -/
def PartROut (w : World) (r : PR) (e : Ending) (w' : World) : Prop :=
  match r with
  | .good p j => ∃ A c, e = .returned (.tuple #[.agg #[.int .i64 p.k, .slice A p.ws.length c], .int .i64 (j : Nat), .bool true]) ∧ StrsIn w' A p.ws ∧ Below w.heap.size w w'
  | .bad k => ∃ k' A m c, e = .returned (.tuple #[.agg #[.int .i64 k', .slice A m c], .int .i64 k, .bool false]) ∧ Below w.heap.size w w'

set_option maxHeartbeats 6400000 in
set_option maxRecDepth 100000 in
theorem partAt_word (s : ByteArray) (i : Nat) (w : World) (hi : i ≤ s.size) (hc : ∀ h : i < s.size, (s[i].toNat : Int) ≠ 34) (hs : s.size ≤ 400) :
    Calls Try.prog 69 #[.string s, .int .i64 i] w (PartROut w (wordR s i)) := by
  have i0 : (0 : Int) ≤ (i : Int) := by omega
  have hq : (∃ h : i < s.size, (i : Int) < (s.size : Int) ∧ ((s[i].toNat : Int) == 34) = false) ∨ ¬ i < s.size := by
    by_cases h : i < s.size
    · exact .inl ⟨h, by omega, beq_eq_false_iff_ne.2 (hc h)⟩
    · exact .inr h
  clear hc
  rcases hq with ⟨hq1, hq2, hq3⟩ | hq1
  · go_enter Try.func69, Try.ntmps69
    go_wp2_with fail
    go_loop [10] (fun v => ∃ k : Nat, i ≤ k ∧ k ≤ s.size ∧ k ≤ i + 30 ∧ v = .int .i64 k ∧ Hid (wEnd s k = wEnd s i)) (fun v => s.size - (intOf v).toNat)
    case atStart => exact ⟨i, Nat.le_refl _, hi, by omega, rfl, hide rfl⟩
    case round =>
      clear hq3
      obtain ⟨k, hk1, hk2, hk3, rfl, HK⟩ := hrel
      have x1 : IntKind.i64.wrap ((k : Int) - (i : Int)) = (k : Int) - (i : Int) := by rw [wrap_small] <;> omega
      have k0 : (0 : Int) ≤ (k : Int) := by omega
      have hlow := fun w => bytesSmall_any (s.extract i k) w (by rw [ByteArray.size_extract]; omega)
      have HLOW := hide hlow
      clear hlow
      by_cases hkl : k < s.size ∧ k < i + 30 ∧ isWI (sb s k).toNat = true
      · obtain ⟨hks, hkb, hkw⟩ := hkl
        rw [sb_at hks] at hkw
        have hst := wEnd_step hks hkw
        have HST := hide (hst.symm.trans HK.out)
        have hbd : 0 ≤ (s[k].toNat : Int) ∧ (s[k].toNat : Int) ≤ 255 := by have := s[k].toNat_lt; omega
        have hw := fun w => isWordR_any (s[k].toNat : Int) w hbd.1 hbd.2
        rw [hkw] at hw
        have HW := hide hw
        have k1 : (k : Int) < (s.size : Int) := by omega
        have x3 : (k : Int) - (i : Int) < 30 := by omega
        clear hst hw hkw hbd
        go_wp2_with (go_at_call 63; refine (HW.out _).mono ?_; rintro e w' ⟨rfl, rfl⟩)
        go_round
        case rel => exact ⟨k + 1, by omega, by omega, by omega, by go_num, HST⟩
        case measure => simp [intOf]; omega
      · obtain ⟨hke, hmore⟩ := scan_stop hk1 hk2 hk3 HK.out hkl
        have k5 : (k : Int) ≤ (s.size : Int) := by omega
        have k6 : (i : Int) ≤ (k : Int) := by omega
        by_cases hks : k < s.size
        · have k1 : (k : Int) < (s.size : Int) := by omega
          have hbd : 0 ≤ (s[k].toNat : Int) ∧ (s[k].toNat : Int) ≤ 255 := by have := s[k].toNat_lt; omega
          have hw := fun w => isWordR_any (s[k].toNat : Int) w hbd.1 hbd.2
          have hmo := hmore
          rw [sb_at hks] at hkl hmo
          have hrep : ¬ (kEnd s i = i ∨ kEnd s i < wEnd s i) → wordR s i = (if (s[k].toNat : Int) = 42 then .good ⟨1, [lowS (s.extract i k)]⟩ (k + 1)
              else if (s[k].toNat : Int) = 126 then .good ⟨2, [lowS (s.extract i k)]⟩ (k + 1) else .good ⟨0, [lowS (s.extract i k)]⟩ k) := fun hb => by
            unfold wordR
            rw [if_neg hb]
            subst hke
            rw [dif_pos hks]
          have hbad : (kEnd s i = i ∨ kEnd s i < wEnd s i) → wordR s i = .bad k := fun hb => by
            unfold wordR
            rw [if_pos hb, hke]
          by_cases hkw : isWI s[k].toNat = true
          · have hkb : k = i + 30 := by
              rcases Nat.lt_or_ge k (i + 30) with h | h
              · exact absurd ⟨hks, h, hkw⟩ hkl
              · omega
            have HBAD := hide (hbad (.inr (by rw [hke]; exact hmo.2 ⟨hks, hkb, hkw⟩)))
            rw [hkw] at hw
            have HW := hide hw
            have x3 : ¬ (k : Int) - (i : Int) < 30 := by omega
            have hki3 : ((k : Int) == (i : Int)) = false := beq_eq_false_iff_ne.2 (by omega)
            have hki4 : ¬ ((k : Int) = (i : Int)) := by omega
            clear hw hbd hkw hkl hmore hmo hke hrep hbad HK hkb
            go_wp2_with (go_at_call 63; refine (HW.out _).mono ?_; rintro e w' ⟨rfl, rfl⟩)
            rw [HBAD.out]
            exact bodyPost_ret (v := .tuple #[.agg #[.int .i64 0, .slice none 0 0], .int .i64 k, .bool false]) (by simp [results, Try.results69, go_sem]) rfl ⟨_, _, _, _, rfl, (by repeat (first | exact Below.refl _ _ | refine bl_plus ?_ | refine bl_alloc ?_ _ | refine bl_drew ?_))⟩
          · have hkw2 : isWI s[k].toNat = false := by simpa using hkw
            rw [hkw2] at hw
            have HW := hide hw
            by_cases hki : k = i
            · have HBAD := hide (hbad (.inl (hke.trans hki)))
              have hki3 : ((k : Int) == (i : Int)) = true := by rw [hki]; simp
              clear hw hbd hkw hkw2 hkl hmore hmo hke hrep hbad HK
              subst hki
              go_wp2_with (go_at_call 63; refine (HW.out _).mono ?_; rintro e w' ⟨rfl, rfl⟩)
              rw [HBAD.out]
              exact bodyPost_ret (v := .tuple #[.agg #[.int .i64 0, .slice none 0 0], .int .i64 k, .bool false]) (by simp [results, Try.results69, go_sem]) rfl ⟨_, _, _, _, rfl, (by repeat (first | exact Below.refl _ _ | refine bl_plus ?_ | refine bl_alloc ?_ _ | refine bl_drew ?_))⟩
            · have hki3 : ((k : Int) == (i : Int)) = false := beq_eq_false_iff_ne.2 (by omega)
              have hki4 : ¬ ((k : Int) = (i : Int)) := by omega
              have hr := hrep (fun h => by
                rw [hke] at h
                rcases h with h | h
                · exact hki h
                · exact absurd (hmo.1 h).2.2 (by rw [hkw2]; decide))
              clear hw hbd hkw hkw2 hkl hmore hmo hke hrep hbad HK
              by_cases h42 : (s[k].toNat : Int) = 42
              · have HGOOD := hide (hr.trans (if_pos h42))
                have c1 : ((s[k].toNat : Int) == 42) = true := by rw [h42]; rfl
                clear hr h42
                go_wp2_with (first | (go_at_call 63; refine (HW.out _).mono ?_; rintro e w' ⟨rfl, rfl⟩) | (go_at_call 64; refine (HLOW.out _).mono ?_; rintro e w' ⟨rfl, hb⟩; obtain ⟨os7, n7, rfl⟩ := below_plus hb; clear hb))
                rw [HGOOD.out]
                exact bodyPost_ret (v := .tuple #[.agg #[.int .i64 1, .slice (some ⟨w.heap.size + 1 + os7.size, 0, none⟩) 1 1], .int .i64 (k + 1 : Nat), .bool true]) (by simp [results, Try.results69, go_sem]) rfl ⟨_, _, rfl, (strs_one (by repeat (first | exact Blk.new' (by simp only [plus_size, World.size_alloc]) | refine Blk.alloc ?_ _ | refine Blk.plus ?_))), (by repeat (first | exact Below.refl _ _ | refine bl_plus ?_ | refine bl_alloc ?_ _ | refine bl_drew ?_))⟩
              · by_cases h126 : (s[k].toNat : Int) = 126
                · have HGOOD := hide (hr.trans ((if_neg h42).trans (if_pos h126)))
                  have c1 : ((s[k].toNat : Int) == 42) = false := beq_eq_false_iff_ne.2 h42
                  have c2 : ((s[k].toNat : Int) == 126) = true := by rw [h126]; rfl
                  clear hr h42 h126
                  go_wp2_with (first | (go_at_call 63; refine (HW.out _).mono ?_; rintro e w' ⟨rfl, rfl⟩) | (go_at_call 64; refine (HLOW.out _).mono ?_; rintro e w' ⟨rfl, hb⟩; obtain ⟨os7, n7, rfl⟩ := below_plus hb; clear hb))
                  rw [HGOOD.out]
                  exact bodyPost_ret (v := .tuple #[.agg #[.int .i64 2, .slice (some ⟨w.heap.size + 1 + os7.size, 0, none⟩) 1 1], .int .i64 (k + 1 : Nat), .bool true]) (by simp [results, Try.results69, go_sem]) rfl ⟨_, _, rfl, (strs_one (by repeat (first | exact Blk.new' (by simp only [plus_size, World.size_alloc]) | refine Blk.alloc ?_ _ | refine Blk.plus ?_))), (by repeat (first | exact Below.refl _ _ | refine bl_plus ?_ | refine bl_alloc ?_ _ | refine bl_drew ?_))⟩
                · have HGOOD := hide (hr.trans ((if_neg h42).trans (if_neg h126)))
                  have c1 : ((s[k].toNat : Int) == 42) = false := beq_eq_false_iff_ne.2 h42
                  have c2 : ((s[k].toNat : Int) == 126) = false := beq_eq_false_iff_ne.2 h126
                  clear hr h42 h126
                  go_wp2_with (first | (go_at_call 63; refine (HW.out _).mono ?_; rintro e w' ⟨rfl, rfl⟩) | (go_at_call 64; refine (HLOW.out _).mono ?_; rintro e w' ⟨rfl, hb⟩; obtain ⟨os7, n7, rfl⟩ := below_plus hb; clear hb))
                  rw [HGOOD.out]
                  exact bodyPost_ret (v := .tuple #[.agg #[.int .i64 0, .slice (some ⟨w.heap.size + 1 + os7.size, 0, none⟩) 1 1], .int .i64 k, .bool true]) (by simp [results, Try.results69, go_sem]) rfl ⟨_, _, rfl, (strs_one (by repeat (first | exact Blk.new' (by simp only [plus_size, World.size_alloc]) | refine Blk.alloc ?_ _ | refine Blk.plus ?_))), (by repeat (first | exact Below.refl _ _ | refine bl_plus ?_ | refine bl_alloc ?_ _ | refine bl_drew ?_))⟩
        · have k1 : ¬ (k : Int) < (s.size : Int) := by omega
          by_cases hki : k = i
          · have HBAD := hide (show wordR s i = .bad k by
              unfold wordR
              rw [if_pos (.inl (hke.trans hki)), hke])
            have hki3 : ((k : Int) == (i : Int)) = true := by rw [hki]; simp
            clear hkl hmore hke HK
            subst hki
            exfalso
            omega
          · have HGOOD := hide (show wordR s i = .good ⟨0, [lowS (s.extract i k)]⟩ k by
              unfold wordR
              rw [if_neg (fun h => by
                rw [hke] at h
                rcases h with h | h
                · exact hki h
                · exact hks (hmore.1 h).1)]
              subst hke
              rw [dif_neg hks])
            have hki3 : ((k : Int) == (i : Int)) = false := beq_eq_false_iff_ne.2 (by omega)
            have hki4 : ¬ ((k : Int) = (i : Int)) := by omega
            clear hkl hmore hke HK
            go_wp2_with (go_at_call 64; refine (HLOW.out _).mono ?_; rintro e w' ⟨rfl, hb⟩; obtain ⟨os7, n7, rfl⟩ := below_plus hb; clear hb)
            rw [HGOOD.out]
            exact bodyPost_ret (v := .tuple #[.agg #[.int .i64 0, .slice (some ⟨w.heap.size + 1 + os7.size, 0, none⟩) 1 1], .int .i64 k, .bool true]) (by simp [results, Try.results69, go_sem]) rfl ⟨_, _, rfl, (strs_one (by repeat (first | exact Blk.new' (by simp only [plus_size, World.size_alloc]) | refine Blk.alloc ?_ _ | refine Blk.plus ?_))), (by repeat (first | exact Below.refl _ _ | refine bl_plus ?_ | refine bl_alloc ?_ _ | refine bl_drew ?_))⟩

  · go_enter Try.func69, Try.ntmps69
    go_wp2_with fail
    go_loop [10] (fun v => ∃ k : Nat, i ≤ k ∧ k ≤ s.size ∧ k ≤ i + 30 ∧ v = .int .i64 k ∧ Hid (wEnd s k = wEnd s i)) (fun v => s.size - (intOf v).toNat)
    case atStart => exact ⟨i, Nat.le_refl _, hi, by omega, rfl, hide rfl⟩
    case round =>
      obtain ⟨k, hk1, hk2, hk3, rfl, HK⟩ := hrel
      have x1 : IntKind.i64.wrap ((k : Int) - (i : Int)) = (k : Int) - (i : Int) := by rw [wrap_small] <;> omega
      have k0 : (0 : Int) ≤ (k : Int) := by omega
      have hlow := fun w => bytesSmall_any (s.extract i k) w (by rw [ByteArray.size_extract]; omega)
      have HLOW := hide hlow
      clear hlow
      by_cases hkl : k < s.size ∧ k < i + 30 ∧ isWI (sb s k).toNat = true
      · obtain ⟨hks, hkb, hkw⟩ := hkl
        rw [sb_at hks] at hkw
        have hst := wEnd_step hks hkw
        have HST := hide (hst.symm.trans HK.out)
        have hbd : 0 ≤ (s[k].toNat : Int) ∧ (s[k].toNat : Int) ≤ 255 := by have := s[k].toNat_lt; omega
        have hw := fun w => isWordR_any (s[k].toNat : Int) w hbd.1 hbd.2
        rw [hkw] at hw
        have HW := hide hw
        have k1 : (k : Int) < (s.size : Int) := by omega
        have x3 : (k : Int) - (i : Int) < 30 := by omega
        clear hst hw hkw hbd
        go_wp2_with (go_at_call 63; refine (HW.out _).mono ?_; rintro e w' ⟨rfl, rfl⟩)
        go_round
        case rel => exact ⟨k + 1, by omega, by omega, by omega, by go_num, HST⟩
        case measure => simp [intOf]; omega
      · obtain ⟨hke, hmore⟩ := scan_stop hk1 hk2 hk3 HK.out hkl
        have k5 : (k : Int) ≤ (s.size : Int) := by omega
        have k6 : (i : Int) ≤ (k : Int) := by omega
        by_cases hks : k < s.size
        · exfalso; omega
        · have k1 : ¬ (k : Int) < (s.size : Int) := by omega
          by_cases hki : k = i
          · have HBAD := hide (show wordR s i = .bad k by
              unfold wordR
              rw [if_pos (.inl (hke.trans hki)), hke])
            have hki3 : ((k : Int) == (i : Int)) = true := by rw [hki]; simp
            clear hkl hmore hke HK
            subst hki
            go_wp2_with fail
            rw [HBAD.out]
            exact bodyPost_ret (v := .tuple #[.agg #[.int .i64 0, .slice none 0 0], .int .i64 k, .bool false]) (by simp [results, Try.results69, go_sem]) rfl ⟨_, _, _, _, rfl, (by repeat (first | exact Below.refl _ _ | refine bl_plus ?_ | refine bl_alloc ?_ _ | refine bl_drew ?_))⟩
          · have HGOOD := hide (show wordR s i = .good ⟨0, [lowS (s.extract i k)]⟩ k by
              unfold wordR
              rw [if_neg (fun h => by
                rw [hke] at h
                rcases h with h | h
                · exact hki h
                · exact hks (hmore.1 h).1)]
              subst hke
              rw [dif_neg hks])
            have hki3 : ((k : Int) == (i : Int)) = false := beq_eq_false_iff_ne.2 (by omega)
            have hki4 : ¬ ((k : Int) = (i : Int)) := by omega
            clear hkl hmore hke HK
            exfalso
            omega


end Go.Proofs.Ytfklaahakibljaa
