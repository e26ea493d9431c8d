/-
  PLAIN AND WALKS: the reference's token: references.
-/
import Derived.Test.YtioppoaijehicaaGreatDoorSpk
import Derived.Deep.CutBlock
set_option linter.all false
namespace Go.Proofs.YtioppoaijehicaaGreatDoor
open Go.RowKit

theorem ref_rest {s : ByteArray} {i : Nat} (hi : i < s.size) (h40 : two s i 40 = true) : refP s i =
    if 2 < scn isDg (s.extract i s.size) 2 ∧ scn isDg (s.extract i s.size) 2 ≤ 9 ∧ one (s.extract i s.size) 2 48 = false ∧ two (s.extract i s.size) (scn isDg (s.extract i s.size) 2) 41 = true ∧ dgN ((s.extract i s.size).extract 2 (scn isDg (s.extract i s.size) 2)).data.toList ≤ 1000000 then
      some ⟨5, i, i + scn isDg (s.extract i s.size) 2 + 2, (s.extract i s.size).extract 2 (scn isDg (s.extract i s.size) 2), ByteArray.empty, dgN ((s.extract i s.size).extract 2 (scn isDg (s.extract i s.size) 2)).data.toList, false⟩
    else none := by
  have hz : (s.extract i s.size).size = s.size - i := by rw [ByteArray.size_extract, Nat.min_self]
  have h2 := two_lt h40
  have e1 := scn_rest isDg s i 2
  have l1 := scn_le (p := isDg) (s := s.extract i s.size) (k := 2) (by omega)
  unfold refP
  rw [h40, e1, ← two_rest (s := s) (i := i) (k := scn isDg (s.extract i s.size) 2) 41 (by decide), ← one_rest (s := s) (i := i) (k := 2) 48 (by decide), ← ext_of_rest (s := s) (i := i) (a := 2) (b := scn isDg (s.extract i s.size) 2) (by omega)]
  generalize scn isDg (s.extract i s.size) 2 = D at *
  by_cases hc : 2 < D ∧ D ≤ 9 ∧ one (s.extract i s.size) 2 48 = false ∧ two (s.extract i s.size) D 41 = true ∧ dgN ((s.extract i s.size).extract 2 D).data.toList ≤ 1000000
  · rw [if_pos hc, if_pos ⟨rfl, by omega, by omega, hc.2.2.1, hc.2.2.2.1, hc.2.2.2.2⟩]
  · rw [if_neg hc, if_neg (fun h => hc ⟨by omega, by omega, h.2.2.2.1, h.2.2.2.2.1, h.2.2.2.2.2⟩)]

/-- The number so far. -/
def nmR (R : ByteArray) (k : Nat) : Nat := dgN (R.extract 2 k).data.toList

theorem nmR_zero (R : ByteArray) : nmR R 2 = 0 := by
  unfold nmR
  rw [Lib.extract_data, Nat.sub_self]
  rfl

theorem nmR_step {R : ByteArray} {k : Nat} (h1 : 2 ≤ k) (h2 : k < R.size) (h3 : isDg R[k] = true) : ((nmR R (k + 1) : Nat) : Int) = 10 * (nmR R k : Int) + ((R[k].toNat : Int) - 48) := by
  have hd := isDg_out h3
  unfold nmR
  rw [ext_snoc h1 h2, dgN_snoc]
  omega

theorem nmR_small {R : ByteArray} {k : Nat} (hk : k ≤ R.size) (hk10 : k ≤ 10) (h : ∀ j, 2 ≤ j → j < k → ∀ hj : j < R.size, isDg R[j] = true) : nmR R k < 1000000000 := by
  have hz : (R.extract 2 k).data.toList.length ≤ 8 := by rw [← Lib.size_eq, ByteArray.size_extract]; omega
  have h1 := dgN_lt (R.extract 2 k).data.toList 0 (fun c hc => by
    obtain ⟨j, hj, rfl⟩ := List.getElem_of_mem hc
    have hj2 : j < (R.extract 2 k).size := by rw [Lib.size_eq]; exact hj
    rw [ByteArray.size_extract] at hj2
    have hl : 2 + j < R.data.toList.length := by rw [← Lib.size_eq]; omega
    have : (R.extract 2 k).data.toList[j]? = R.data.toList[2 + j]? := by rw [Lib.extract_data, List.getElem?_take_of_lt (by omega), List.getElem?_drop]
    rw [List.getElem?_eq_getElem hj, List.getElem?_eq_getElem hl] at this
    rw [Option.some.inj this]
    exact h (2 + j) (by omega) (by omega) (by omega))
  have h2 : 10 ^ (R.extract 2 k).data.toList.length ≤ 10 ^ 8 := Nat.pow_le_pow_right (by decide) hz
  unfold nmR dgN
  omega

theorem wrap_small8 {n : Nat} (h : n < 256) : IntKind.u8.wrap (n : Int) = (n : Int) := by
  unfold IntKind.wrap
  simp [IntKind.bits, IntKind.signed]
  omega

set_option maxHeartbeats 6400000 in
set_option maxRecDepth 100000 in
theorem tokenR_ref (s : ByteArray) (i : Nat) (w : World) (hi : i < s.size) (hs : s.size ≤ 900000) (hb : s[i].toNat = 40) :
    Calls Tryz.prog 117 #[.string s, .int .i64 i] w (RTokOut s i w) := by
  have HPO : Hid (∀ (cs : Array Value) w', cs = (fill1 s (tokP s i)).vals.toArray → Below w.heap.size w w' → RTokOut s i w (.returned (.agg cs)) w') := hide fun cs w' hc hb => by rw [hc]; exact ⟨rfl, hb⟩
  generalize RTokOut s i w = PO at *
  have HPP := hide (fun (h : tokP s i = plSp i) w' (hb : Below w.heap.size w w') => HPO.out #[.int .i64 1, .int .i64 i, .int .i64 ((i : Int) + 1), .string (s.extract i (i + 1)), .string ⟨#[]⟩, .int .i64 0, .bool false] w' (by rw [h]; exact plSp_fill s i) hb)
  have HPS := hide (fun (x : Sp) (h : tokP s i = x) (hk : x.kind ≠ 1) (cs : Array Value) w' (hc : cs = x.vals.toArray) (hb : Below w.heap.size w w') => HPO.out cs w' (by rw [hc, h, fill1_other hk]) hb)
  have hRz : (s.extract i s.size).size = s.size - i := by rw [ByteArray.size_extract, Nat.min_self]
  have HR0 : Hid (∀ h : 0 < (s.extract i s.size).size, (s.extract i s.size)[0].toNat = s[i].toNat) := hide fun h => rest_zero hi h
  have HHB := hide (fun c (hc : c < 256) W => has2_at s i c hc W)
  have i0 : (i : Int) < (s.size : Int) := by omega
  have i1 : (i : Int) + 1 ≤ (s.size : Int) := by omega
  have HT := hide (tokP_ref hi hb)
  cases h40 : two s i 40 with
  | false =>
    generalize hre : s.extract i s.size = R at *
    have HRE := hide hre
    clear hre
    have H91 := hide (show ∀ W, Calls Tryz.prog 133 #[.string R, .string ⟨#[91, 91]⟩] W (fun e w' => e = .returned (.bool false) ∧ w' = W) from fun W => by have := HHB.out 91 (by decide) W; rw [show two s i 91 = false from two_by hi (by omega)] at this; exact this)
    have H40 := hide (show ∀ W, Calls Tryz.prog 133 #[.string R, .string ⟨#[40, 40]⟩] W (fun e w' => e = .returned (.bool false) ∧ w' = W) from fun W => by have := HHB.out 40 (by decide) W; rw [show two s i 40 = false from h40] at this; exact this)
    have H42 := hide (show ∀ W, Calls Tryz.prog 133 #[.string R, .string ⟨#[42, 42]⟩] W (fun e w' => e = .returned (.bool false) ∧ w' = W) from fun W => by have := HHB.out 42 (by decide) W; rw [show two s i 42 = false from two_by hi (by omega)] at this; exact this)
    have hRp : 0 < R.size := by omega
    have hRb : (R.size : Int) ≤ 900000 := by omega
    have hr0 := HR0.out hRp
    have hRi : (0 : Int) < (R.size : Int) := by omega
    have r92 : ((R[0].toNat : Int) == 92) = false := beq_eq_false_iff_ne.2 (by omega)
    have r96 : ((R[0].toNat : Int) == 96) = false := beq_eq_false_iff_ne.2 (by omega)
    have r35 : ((R[0].toNat : Int) == 35) = false := beq_eq_false_iff_ne.2 (by omega)
    clear hr0 HR0
    have HF := hide (HPP.out (by rw [HT.out]; unfold refP; rw [h40, if_neg (fun h => absurd h.1 Bool.false_ne_true)]; rfl))
    clear HPS HPP HPO HT HHB hb h40
    have HRZ := hide hRz
    clear hRz
    go_enter Tryz.func117, Tryz.ntmps117
    go_upto_region 3 with (fail)
    have HN := hide (show Blk ((w.alloc (.cells #[.int .i64 0, .int .i64 0, .int .i64 0, .string ⟨#[]⟩, .string ⟨#[]⟩, .int .i64 0, .bool false] 90)).alloc (.cells #[.int .i64 1, .int .i64 i, .int .i64 ((i : Int) + 1), .string (s.extract i (i + 1)), .string ⟨#[]⟩, .int .i64 0, .bool false] 90)) w.heap.size 90 #[.int .i64 0, .int .i64 0, .int .i64 0, .string ⟨#[]⟩, .string ⟨#[]⟩, .int .i64 0, .bool false] from (Blk.new w 90 #[.int .i64 0, .int .i64 0, .int .i64 0, .string ⟨#[]⟩, .string ⟨#[]⟩, .int .i64 0, .bool false]).alloc _)
    have HXB := hide (show Blk ((w.alloc (.cells #[.int .i64 0, .int .i64 0, .int .i64 0, .string ⟨#[]⟩, .string ⟨#[]⟩, .int .i64 0, .bool false] 90)).alloc (.cells #[.int .i64 1, .int .i64 i, .int .i64 ((i : Int) + 1), .string (s.extract i (i + 1)), .string ⟨#[]⟩, .int .i64 0, .bool false] 90)) (w.heap.size + 1) 90 #[.int .i64 1, .int .i64 i, .int .i64 ((i : Int) + 1), .string (s.extract i (i + 1)), .string ⟨#[]⟩, .int .i64 0, .bool false] from by have := Blk.new (w.alloc (.cells #[.int .i64 0, .int .i64 0, .int .i64 0, .string ⟨#[]⟩, .string ⟨#[]⟩, .int .i64 0, .bool false] 90)) 90 #[.int .i64 1, .int .i64 i, .int .i64 ((i : Int) + 1), .string (s.extract i (i + 1)), .string ⟨#[]⟩, .int .i64 0, .bool false]; simpa using this)
    have HBA := hide (bl_alloc (bl_alloc (Below.refl w.heap.size w) (.cells #[.int .i64 0, .int .i64 0, .int .i64 0, .string ⟨#[]⟩, .string ⟨#[]⟩, .int .i64 0, .bool false] 90)) (.cells #[.int .i64 1, .int .i64 i, .int .i64 ((i : Int) + 1), .string (s.extract i (i + 1)), .string ⟨#[]⟩, .int .i64 0, .bool false] 90))
    rw [HRE.out]
    generalize (w.alloc (.cells #[.int .i64 0, .int .i64 0, .int .i64 0, .string ⟨#[]⟩, .string ⟨#[]⟩, .int .i64 0, .bool false] 90)).alloc (.cells #[.int .i64 1, .int .i64 i, .int .i64 ((i : Int) + 1), .string (s.extract i (i + 1)), .string ⟨#[]⟩, .int .i64 0, .bool false] 90) = wa at *
    generalize w.heap.size + 1 = gx at *
    obtain ⟨z0, z1, z2, z3, z4, z5, z6, zf, zl⟩ := HN.out.seven
    obtain ⟨v0, v1, v2, v3, v4, v5, v6, -, vl⟩ := HXB.out.seven
    go_wp2_with (go_at_call 133; (first | (with_reducible refine (H91.out _).mono ?_) | (with_reducible refine (H40.out _).mono ?_) | (with_reducible refine (H42.out _).mono ?_)); rintro e w' ⟨rfl, hw⟩; subst w')
    refine bodyPost_ret (results_cell_row (P := Tryz.prog) (by rfl) _ _ w.heap.size 90 _ (0, 0) _ rfl (seven_set HN.out) Tryz.underlying90 rfl (by kernel_rfl)) rfl ?_
    exact HF.out _ (below_seven HBA.out (Nat.le_refl _))
  | true =>
    have hsz := two_lt h40
    have HLR := hide (ref_rest hi h40)
    generalize hre : s.extract i s.size = R at *
    have HRE := hide hre
    clear hre
    have H91 := hide (show ∀ W, Calls Tryz.prog 133 #[.string R, .string ⟨#[91, 91]⟩] W (fun e w' => e = .returned (.bool false) ∧ w' = W) from fun W => by have := HHB.out 91 (by decide) W; rw [show two s i 91 = false from two_by hi (by omega)] at this; exact this)
    have H40 := hide (show ∀ W, Calls Tryz.prog 133 #[.string R, .string ⟨#[40, 40]⟩] W (fun e w' => e = .returned (.bool true) ∧ w' = W) from fun W => by have := HHB.out 40 (by decide) W; rw [show two s i 40 = true from h40] at this; exact this)
    have H42 := hide (show ∀ W, Calls Tryz.prog 133 #[.string R, .string ⟨#[42, 42]⟩] W (fun e w' => e = .returned (.bool false) ∧ w' = W) from fun W => by have := HHB.out 42 (by decide) W; rw [show two s i 42 = false from two_by hi (by omega)] at this; exact this)
    have hRp : 0 < R.size := by omega
    have hRb : (R.size : Int) ≤ 900000 := by omega
    have hr0 := HR0.out hRp
    have hRi : (0 : Int) < (R.size : Int) := by omega
    have r92 : ((R[0].toNat : Int) == 92) = false := beq_eq_false_iff_ne.2 (by omega)
    have r96 : ((R[0].toNat : Int) == 96) = false := beq_eq_false_iff_ne.2 (by omega)
    have r35 : ((R[0].toNat : Int) == 35) = false := beq_eq_false_iff_ne.2 (by omega)
    clear hr0 HR0
    have hge := scn_ge isDg R 2
    have hle := scn_le (p := isDg) (s := R) (k := 2) (by omega)
    have j1 : (2 : Int) ≤ (R.size : Int) := by omega
    have HIT := hide (fun k (h : k < R.size) W => isDigitR_any R[k] W)
    obtain ⟨D, hD⟩ : ∃ D, scn isDg R 2 = D := ⟨_, rfl⟩
    have HD := hide hD
    have HSM := hide (fun k (h1 : k ≤ R.size) (h2 : k ≤ 10) (h3 : k ≤ D) => nmR_small h1 h2 (fun j a b h => scn_mid (k := 2) a (by rw [hD]; omega) h))
    have HN0 := hide (nmR_zero R)
    rw [HLR.out, hD] at HT
    rw [hD] at hge hle
    have HT := hide (show tokP s i = (if 2 < D ∧ D ≤ 9 ∧ one R 2 48 = false ∧ two R D 41 = true ∧ nmR R D ≤ 1000000 then some (⟨5, i, i + D + 2, R.extract 2 D, ByteArray.empty, (nmR R D : Nat), false⟩ : Sp) else none).getD (plSp i) from HT.out)
    clear HLR h40 hb HHB hD
    have HRZ := hide hRz
    clear hRz
    go_enter Tryz.func117, Tryz.ntmps117
    go_upto_region 3 with (fail)
    have HN := hide (show Blk ((w.alloc (.cells #[.int .i64 0, .int .i64 0, .int .i64 0, .string ⟨#[]⟩, .string ⟨#[]⟩, .int .i64 0, .bool false] 90)).alloc (.cells #[.int .i64 1, .int .i64 i, .int .i64 ((i : Int) + 1), .string (s.extract i (i + 1)), .string ⟨#[]⟩, .int .i64 0, .bool false] 90)) w.heap.size 90 #[.int .i64 0, .int .i64 0, .int .i64 0, .string ⟨#[]⟩, .string ⟨#[]⟩, .int .i64 0, .bool false] from (Blk.new w 90 #[.int .i64 0, .int .i64 0, .int .i64 0, .string ⟨#[]⟩, .string ⟨#[]⟩, .int .i64 0, .bool false]).alloc _)
    have HXB := hide (show Blk ((w.alloc (.cells #[.int .i64 0, .int .i64 0, .int .i64 0, .string ⟨#[]⟩, .string ⟨#[]⟩, .int .i64 0, .bool false] 90)).alloc (.cells #[.int .i64 1, .int .i64 i, .int .i64 ((i : Int) + 1), .string (s.extract i (i + 1)), .string ⟨#[]⟩, .int .i64 0, .bool false] 90)) (w.heap.size + 1) 90 #[.int .i64 1, .int .i64 i, .int .i64 ((i : Int) + 1), .string (s.extract i (i + 1)), .string ⟨#[]⟩, .int .i64 0, .bool false] from by have := Blk.new (w.alloc (.cells #[.int .i64 0, .int .i64 0, .int .i64 0, .string ⟨#[]⟩, .string ⟨#[]⟩, .int .i64 0, .bool false] 90)) 90 #[.int .i64 1, .int .i64 i, .int .i64 ((i : Int) + 1), .string (s.extract i (i + 1)), .string ⟨#[]⟩, .int .i64 0, .bool false]; simpa using this)
    have HBA := hide (bl_alloc (bl_alloc (Below.refl w.heap.size w) (.cells #[.int .i64 0, .int .i64 0, .int .i64 0, .string ⟨#[]⟩, .string ⟨#[]⟩, .int .i64 0, .bool false] 90)) (.cells #[.int .i64 1, .int .i64 i, .int .i64 ((i : Int) + 1), .string (s.extract i (i + 1)), .string ⟨#[]⟩, .int .i64 0, .bool false] 90))
    rw [HRE.out]
    generalize (w.alloc (.cells #[.int .i64 0, .int .i64 0, .int .i64 0, .string ⟨#[]⟩, .string ⟨#[]⟩, .int .i64 0, .bool false] 90)).alloc (.cells #[.int .i64 1, .int .i64 i, .int .i64 ((i : Int) + 1), .string (s.extract i (i + 1)), .string ⟨#[]⟩, .int .i64 0, .bool false] 90) = wa at *
    generalize w.heap.size + 1 = gx at *
    obtain ⟨z0, z1, z2, z3, z4, z5, z6, zf, zl⟩ := HN.out.seven
    obtain ⟨v0, v1, v2, v3, v4, v5, v6, -, vl⟩ := HXB.out.seven
    go_upto_block 1 with (go_at_call 133; (first | (with_reducible refine (H91.out _).mono ?_) | (with_reducible refine (H40.out _).mono ?_)); rintro e w' ⟨rfl, hw⟩; subst w')
    go_cut [12, 13] from 113 to 136 (fun s12 s13 wx => s12 = .int .i64 (min D 10 : Nat) ∧ s13 = .int .i64 (nmR R (min D 10)) ∧ wa = wx)
    case first =>
      clear HPS HPP HPO HT
      go_wp2_with fail
      go_loopw [12, 13] (fun s12 s13 wr => ∃ k : Nat, 2 ≤ k ∧ k ≤ R.size ∧ k ≤ 10 ∧ s12 = .int .i64 k ∧ s13 = .int .i64 (nmR R k) ∧ Hid (scn isDg R k = D) ∧ wr = wa) (fun s12 _ _ => R.size - (intOf s12).toNat)
      case atStart => exact ⟨2, Nat.le_refl _, by omega, by omega, by go_num, by rw [HN0.out]; rfl, HD, rfl⟩
      case round =>
        obtain ⟨k, hk1, hk2, hk3, rfl, rfl, HR, rfl⟩ := hrel
        have hgek := scn_ge isDg R k
        rw [HR.out] at hgek
        by_cases hlt : k < R.size
        · have j1 : (k : Int) < (R.size : Int) := by omega
          have HIT1 := hide (HIT.out k hlt)
          cases hb : isDg R[k] with
          | true =>
            rw [hb] at HIT1
            by_cases hk10 : k < 10
            · have j2 : (k : Int) < 10 := by omega
              have hd := isDg_out hb
              have HR2 := hide ((scn_step hlt hb).trans HR.out)
              have HST := hide (nmR_step hk1 hlt hb)
              have hsm := HSM.out k hk2 hk3 hgek
              have hsm2 := HSM.out (k + 1) hlt (by omega) (by have := scn_ge isDg R (k + 1); rw [HR2.out] at this; exact this)
              have hst := HST.out
              have j3 : (48 : Int) ≤ (R[k].toNat : Int) := by omega
              have j4 : (R[k].toNat : Int) ≤ 57 := by omega
              have j5 : IntKind.u8.wrap ((R[k].toNat : Int) - 48) = (R[k].toNat : Int) - 48 := by
                have : (R[k].toNat : Int) - 48 = ((R[k].toNat - 48 : Nat) : Int) := by omega
                rw [this]
                exact wrap_small8 (by omega)
              clear hb HR hd hst
              have HSTW := hide (show (10 * (nmR R k : Int) + ((R[k].toNat : Int) - 48)) = ((nmR R (k + 1) : Nat) : Int) from HST.out.symm)
              generalize nmR R k = N at *
              go_wp2_with (go_at_call 163; refine (HIT1.out _).mono ?_; rintro e w' ⟨rfl, rfl⟩)
              go_roundw
              case rel => exact ⟨k + 1, by omega, hlt, by omega, by go_num, by rw [HSTW.out], HR2, by first | rfl | trivial⟩
              case measure => simp [intOf]; omega
            · have hke : k = min D 10 := by omega
              have HKE := hide hke
              have j2 : ¬ (k : Int) < 10 := by omega
              clear hb HR hke
              go_wp2_with (go_at_call 163; refine (HIT1.out _).mono ?_; rintro e w' ⟨rfl, rfl⟩)
              go_meet
              exact ⟨by rw [← HKE.out], by rw [← HKE.out], by first | rfl | trivial⟩
          | false =>
            rw [hb] at HIT1
            have hke : k = min D 10 := by have := HR.out; rw [scn_stop hlt hb] at this; omega
            have HKE := hide hke
            clear hb HR hke
            go_wp2_with (go_at_call 163; refine (HIT1.out _).mono ?_; rintro e w' ⟨rfl, rfl⟩)
            go_meet
            exact ⟨by rw [← HKE.out], by rw [← HKE.out], by first | rfl | trivial⟩
        · have hke : k = min D 10 := by have := HR.out; rw [scn_over (by omega)] at this; omega
          have HKE := hide hke
          have j1 : ¬ (k : Int) < (R.size : Int) := by omega
          clear HR hke
          go_wp2
          go_meet
          exact ⟨by rw [← HKE.out], by rw [← HKE.out], by first | rfl | trivial⟩
    case rest =>
    obtain ⟨rfl, rfl, rfl⟩ := hcut
    clear HIT HD HSM HN0
    have HO1 : Hid (∀ h : 2 < R.size, ((R[2].toNat : Int) != 48) = !one R 2 48) := hide fun h => by
      unfold one; rw [dif_pos h]
      exact u8_int R[2] 48
    by_cases hD9 : D ≤ 9
    · rw [show min D 10 = D by omega]
      have HXT := hide (ext_of_rest (s := s) (i := i) (a := 2) (b := D))
      have j9 : (D : Int) ≤ 9 := by omega
      have jD : (D : Int) ≤ (R.size : Int) := by omega
      by_cases hD2 : 2 < D
      · have j2 : (2 : Int) < (D : Int) := by omega
        have hR2 : 2 < R.size := by omega
        have jR : (2 : Int) < (R.size : Int) := by omega
        have b1 := HO1.out hR2
        have H41 := hide (show ∀ W, Calls Tryz.prog 133 #[.string (R.extract D R.size), .string ⟨#[41, 41]⟩] W (fun e w' => e = .returned (.bool (two R D 41)) ∧ w' = W) from fun W => has2_at R D 41 (by decide) W)
        clear HO1
        cases o1 : one R 2 48 with
        | true =>
          have HF := hide (HPP.out (by rw [HT.out, if_neg (fun h => by rw [o1] at h; exact absurd h.2.2.1 (by decide))]; rfl))
          rw [o1] at b1
          clear HPS HPP HPO HT o1 HXT
          generalize nmR R D = N at *
          go_wp2_with (fail)
          refine bodyPost_ret (results_cell_row (P := Tryz.prog) (by rfl) _ _ w.heap.size 90 _ (0, 0) _ rfl (seven_set HN.out) Tryz.underlying90 rfl (by kernel_rfl)) rfl ?_
          exact HF.out _ (below_seven HBA.out (Nat.le_refl _))
        | false =>
          rw [o1] at b1
          by_cases hN : nmR R D ≤ 1000000
          · cases h41 : two R D 41 with
            | true =>
              rw [h41] at H41
              have j5 : (i : Int) + D + 2 ≤ (s.size : Int) := by have := two_lt h41; have := HRZ.out; omega
              have HF := hide (HPS.out ⟨5, i, i + D + 2, R.extract 2 D, ByteArray.empty, (nmR R D : Nat), false⟩ (by rw [HT.out, if_pos ⟨hD2, hD9, o1, h41, hN⟩]; rfl) (show (5 : Int) ≠ 1 by decide))
              have j6 : (nmR R D : Int) ≤ 1000000 := by omega
              clear HPS HPP HPO HT o1 h41 HXT hN
              generalize nmR R D = N at *
              go_wp2_with (go_at_call 133; (with_reducible refine (H41.out _).mono ?_); rintro e w' ⟨rfl, hw⟩; subst w')
              refine bodyPost_ret (results_cell_row (P := Tryz.prog) (by rfl) _ _ w.heap.size 90 _ (0, 0) _ rfl (seven_set HN.out) Tryz.underlying90 rfl (by kernel_rfl)) rfl ?_
              exact HF.out _ _ (by simp only [Sp.vals, Int.natCast_add, Int.cast_ofNat_Int] <;> rfl) (below_seven HBA.out (Nat.le_refl _))
            | false =>
              rw [h41] at H41
              have HF := hide (HPP.out (by rw [HT.out, if_neg (fun h => by rw [h41] at h; exact absurd h.2.2.2.1 (by decide))]; rfl))
              have j6 : (nmR R D : Int) ≤ 1000000 := by omega
              clear HPS HPP HPO HT o1 h41 HXT hN
              generalize nmR R D = N at *
              go_wp2_with (go_at_call 133; (with_reducible refine (H41.out _).mono ?_); rintro e w' ⟨rfl, hw⟩; subst w')
              refine bodyPost_ret (results_cell_row (P := Tryz.prog) (by rfl) _ _ w.heap.size 90 _ (0, 0) _ rfl (seven_set HN.out) Tryz.underlying90 rfl (by kernel_rfl)) rfl ?_
              exact HF.out _ (below_seven HBA.out (Nat.le_refl _))
          · have HF := hide (HPP.out (by rw [HT.out, if_neg (fun h => hN h.2.2.2.2)]; rfl))
            have j6 : ¬ (nmR R D : Int) ≤ 1000000 := by omega
            clear HPS HPP HPO HT o1 HXT hN
            generalize nmR R D = N at *
            go_wp2_with (fail)
            refine bodyPost_ret (results_cell_row (P := Tryz.prog) (by rfl) _ _ w.heap.size 90 _ (0, 0) _ rfl (seven_set HN.out) Tryz.underlying90 rfl (by kernel_rfl)) rfl ?_
            exact HF.out _ (below_seven HBA.out (Nat.le_refl _))
      · have j2 : ¬ (2 : Int) < (D : Int) := by omega
        have HF := hide (HPP.out (by rw [HT.out, if_neg (fun h => hD2 h.1)]; rfl))
        clear HPS HPP HPO HT HO1 HXT
        generalize nmR R D = N at *
        go_wp2_with (fail)
        refine bodyPost_ret (results_cell_row (P := Tryz.prog) (by rfl) _ _ w.heap.size 90 _ (0, 0) _ rfl (seven_set HN.out) Tryz.underlying90 rfl (by kernel_rfl)) rfl ?_
        exact HF.out _ (below_seven HBA.out (Nat.le_refl _))
    · rw [show min D 10 = 10 by omega]
      have HF := hide (HPP.out (by rw [HT.out, if_neg (fun h => hD9 h.2.1)]; rfl))
      clear HPS HPP HPO HT HO1
      generalize nmR R 10 = N at *
      go_wp2_with (fail)
      refine bodyPost_ret (results_cell_row (P := Tryz.prog) (by rfl) _ _ w.heap.size 90 _ (0, 0) _ rfl (seven_set HN.out) Tryz.underlying90 rfl (by kernel_rfl)) rfl ?_
      exact HF.out _ (below_seven HBA.out (Nat.le_refl _))

end Go.Proofs.YtioppoaijehicaaGreatDoor
