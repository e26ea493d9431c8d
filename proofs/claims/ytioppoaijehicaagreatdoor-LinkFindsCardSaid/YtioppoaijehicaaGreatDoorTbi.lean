/-
  WALK: is a base right? The reference's way.
-/
import Derived.Test.YtioppoaijehicaaGreatDoorTbh
set_option linter.all false
namespace Go.Proofs.YtioppoaijehicaaGreatDoor
open Go.RowKit

theorem intC_zero (n : Nat) : madeCells (Value.int .i64 0).cells (n * 1) = intC (List.replicate n 0) := by
  unfold intC intV
  rw [List.map_replicate, Nat.mul_one]
  apply Array.ext_getElem?
  intro i
  by_cases h : i < n
  · simp [madeCells, Value.cells, h, Nat.mod_one]
  · simp [madeCells, h]

theorem make_intC (N : Nat) (w : World) (h : N ≤ 1000000) : (Instr.makeSlice 28 (.int .i64 N) (.int .i64 N)).run Tryz.prog w = .ok (.slice (some ⟨w.heap.size, 0, none⟩) N N) (w.alloc (.cells (intC (List.replicate N 0)) 3)) := by
  obtain ⟨i0, hi, hz0, hz1, hz2⟩ := info_parts info_intO
  have := run_make (P := Tryz.prog) w 28 3 i0 (.int .i64 0) Tryz.underlying28 hi hz0 .i64 .i64 N N (by omega) (Int.le_refl _) (by rw [hz2]; omega) (by omega)
  rw [this, hz1, ← intC_zero]
  rfl

set_option maxHeartbeats 3200000 in
set_option maxRecDepth 100000 in
theorem inRange_any (n lo hi : Int) (b : Bool) (hb : (decide (lo ≤ n) && decide (n ≤ hi)) = b) (w : World) : Calls Tryz.prog 62 #[.int .i64 n, .int .i64 lo, .int .i64 hi] w fun e w' => e = .returned (.bool b) ∧ w' = w := by
  by_cases h1 : lo ≤ n
  · by_cases h2 : n ≤ hi
    · obtain rfl : b = true := by rw [← hb]; simp [h1, h2]
      clear hb
      go_enter Tryz.func62, Tryz.ntmps62
      go_wp2
      go_ret
      exact ⟨rfl, rfl⟩
    · obtain rfl : b = false := by rw [← hb]; simp [h2]
      clear hb
      go_enter Tryz.func62, Tryz.ntmps62
      go_wp2
      go_ret
      exact ⟨rfl, rfl⟩
  · obtain rfl : b = false := by rw [← hb]; simp [h1]
    clear hb
    go_enter Tryz.func62, Tryz.ntmps62
    go_wp2
    go_ret
    exact ⟨rfl, rfl⟩

set_option maxHeartbeats 3200000 in
set_option maxRecDepth 100000 in
theorem baseError_any (l : List BK) (A : Option Addr) (c : Nat) (w : World) (hA : BsAt w A l) :
    Calls Tryz.prog 26 #[.slice A l.length c] w fun e w' => e = .returned (.int .i64 (baseErr l)) ∧ Below w.heap.size w w' := by
  have hm := hA.1
  unfold maxLen at hm
  have HA := hide hA
  clear hA
  by_cases hz : l.length = 0
  · have HR := hide (baseErr_none hz)
    generalize l.length = N at *
    subst hz
    go_enter Tryz.func26, Tryz.ntmps26
    go_wp2
    (try simp only [Exit.inBlock, Exit.then])
    go_ret
    rw [HR.out]
    exact ⟨rfl, (by repeat (first | with_reducible exact Below.refl _ _ | with_reducible refine bl_plus ?_ | with_reducible refine bl_alloc ?_ _ | with_reducible refine bl_drew ?_ | with_reducible refine bl_drewN ?_ _))⟩
  · have HZ := hide hz
    have e0 : (((l.length : Nat) : Int) == 0) = false := beq_eq_false_iff_ne.2 (by omega)
    by_cases h2 : 2000 < l.length
    · have HR := hide (baseErr_many hz h2)
      have i2 : (2000 : Int) < (l.length : Int) := by omega
      clear hz h2
      go_enter Tryz.func26, Tryz.ntmps26
      go_wp2
      (try simp only [Exit.inBlock, Exit.then])
      go_ret
      rw [HR.out]
      exact ⟨rfl, (by repeat (first | with_reducible exact Below.refl _ _ | with_reducible refine bl_plus ?_ | with_reducible refine bl_alloc ?_ _ | with_reducible refine bl_drew ?_ | with_reducible refine bl_drewN ?_ _))⟩
    · have HM := hide h2
      have i2 : ¬ (2000 : Int) < (l.length : Int) := by omega
      clear hz h2
      go_enter Tryz.func26, Tryz.ntmps26
      go_wp2
      go_loopw [24] (fun i wr => ∃ (q : Nat), q ≤ l.length ∧ i = .int .i64 q ∧ Hid (∀ j, j < q → blkErr l j = 0) ∧ Hid (Below w.heap.size w wr)) (fun i _ => l.length - (intOf i).toNat)
      case atStart => exact ⟨0, Nat.zero_le _, rfl, hide (fun j hj => absurd hj (by omega)), hide (by repeat (first | with_reducible exact Below.refl _ _ | with_reducible refine bl_plus ?_ | with_reducible refine bl_alloc ?_ _ | with_reducible refine bl_drew ?_ | with_reducible refine bl_drewN ?_ _))⟩
      case round =>
        obtain ⟨q, hq, rfl, HQ, HB⟩ := hrel
        by_cases hlt : q < l.length
        · obtain ⟨b, o, A1, c1, A2, c2, hAe, hb, y0, y1, y2, y3, y4, -, hps⟩ := HA.out.getB HB.out hlt
          have i1 : (q : Int) < (l.length : Int) := by omega
          have HCP := hide (fun W (hb : Below wr.heap.size wr W) => checkProps_any l[q].ps A2 c2 W (hps.below (below_chainT HB.out hb)))
          have HCT := hide (fun W => textError_any l[q].txt W)
          have HPV := hide (fun (m : Nat) (hm : q = m + 1) => (show wr.cell? ⟨b, o + m * 5, none⟩ = some (.int .i64 (idAt l (q - 1))) from by
            obtain ⟨b', o', -, -, -, -, e, -, z0, -⟩ := HA.out.getB HB.out (q := m) (by omega)
            rw [hAe] at e
            injection e with e
            injection e with e1 e2
            subst e1 e2
            rw [z0, show q - 1 = m by omega, idAt_get (by omega)]))
          have HRE := hide (fun (e : Int) (he : e ≠ 0) (h : blkErr l q = e) => baseErr_blk HZ.out HM.out hlt HQ.out he h)
          have HEQ := hide (blkErr_at hlt)
          subst hAe
          clear hps
          generalize idAt l (q - 1) = prev at *
          generalize l[q] = x at *
          have H2 := hide (fun h => HEQ.out.trans (blkErrs_rng (prev := prev) (b := x) (i := q) h))
          have H5 := hide (fun h h2 => HEQ.out.trans (blkErrs_ord (prev := prev) (b := x) (i := q) h h2))
          have H1 := hide (fun h h2 h3 => HEQ.out.trans (blkErrs_frm (prev := prev) (b := x) (i := q) h h2 h3))
          have H0 := hide (fun h h2 h3 => HEQ.out.trans (blkErrs_rest (prev := prev) (b := x) (i := q) h h2 h3))
          clear HEQ
          unfold rngBad at H2 H5 H1 H0
          unfold ordBad at H5 H1 H0
          unfold frmBad at H1 H0
          obtain ⟨xi, xp, xk, xt, xs⟩ := x
          (try simp only at *)
          cases q with
          | zero =>
            clear HPV
            simp only [Nat.zero_mul, Nat.add_zero] at y0 y1 y2 y3 y4
            by_cases h0 : xi = 0
            · subst h0
              by_cases hf : xt.size ≠ 0 ∨ 0 < xs.length ∨ xp ≠ 0
              · have HR := hide (HRE.out 1 (by decide) (H1.out (by omega) (by omega) ⟨rfl, hf⟩))
                clear H0 H1 H2 H5 HCP HCT HRE
                by_cases hT : xt.size = 0
                · have t1 : xt.toList.isEmpty = true := by rw [emp_size]; simpa using hT
                  have t2 : (xt.toList == []) = true := by rw [emp_nil]; simpa using hT
                  by_cases hP : 0 < xs.length
                  · have i2 : (0 : Int) < (xs.length : Int) := by omega
                    clear hf hT
                    go_upto_region 10 with (fail)
                    go_quiet (fail)
                    go_wp2
                    (try simp only [Exit.inBlock, Exit.then])
                    go_ret
                    rw [HR.out]
                    exact ⟨rfl, below_chainT HB.out (by repeat (first | with_reducible exact Below.refl _ _ | with_reducible refine bl_plus ?_ | with_reducible refine bl_alloc ?_ _ | with_reducible refine bl_drew ?_ | with_reducible refine bl_drewN ?_ _))⟩
                  · have i2 : ¬ (0 : Int) < (xs.length : Int) := by omega
                    have i3 : (xp != 0) = true := bne_iff_ne.2 (by omega)
                    have i4 : decide (0 < xs.length) = false := decide_eq_false hP
                    clear hf hT
                    go_upto_region 10 with (fail)
                    go_quiet (fail)
                    go_wp2
                    (try simp only [Exit.inBlock, Exit.then])
                    go_ret
                    rw [HR.out]
                    exact ⟨rfl, below_chainT HB.out (by repeat (first | with_reducible exact Below.refl _ _ | with_reducible refine bl_plus ?_ | with_reducible refine bl_alloc ?_ _ | with_reducible refine bl_drew ?_ | with_reducible refine bl_drewN ?_ _))⟩
                · have t1 : xt.toList.isEmpty = false := by rw [emp_size]; simpa using hT
                  have t2 : (xt.toList == []) = false := by rw [emp_nil]; simpa using hT
                  clear hf hT
                  go_upto_region 10 with (fail)
                  go_quiet (fail)
                  go_wp2
                  (try simp only [Exit.inBlock, Exit.then])
                  go_ret
                  rw [HR.out]
                  exact ⟨rfl, below_chainT HB.out (by repeat (first | with_reducible exact Below.refl _ _ | with_reducible refine bl_plus ?_ | with_reducible refine bl_alloc ?_ _ | with_reducible refine bl_drew ?_ | with_reducible refine bl_drewN ?_ _))⟩
              · have HREST := hide (H0.out (by omega) (by omega) (fun h => hf h.2))
                have hT : xt.size = 0 := by omega
                have t1 : xt.toList.isEmpty = true := by rw [emp_size]; simpa using hT
                have t2 : (xt.toList == []) = true := by rw [emp_nil]; simpa using hT
                have i2 : ¬ (0 : Int) < (xs.length : Int) := by omega
                have i4 : decide (0 < xs.length) = false := decide_eq_false (by omega)
                obtain rfl : xp = 0 := by omega
                clear H0 H1 H2 H5 hf hT
                go_upto_region 10 with (fail)
                go_quiet (fail)
                go_upto_region 14 with (fail)
                have HRS := hide HREST.out
                unfold restErr at HRS
                simp only at HRS
                generalize textErr xt = E at *
                generalize propsErr xs = F at *
                by_cases hE : E = 0
                · subst hE
                  have HR1 := hide (show blkErr l 0 = if 500 < xk.length then 4 else F by rw [HRS.out, if_neg (by decide)])
                  by_cases h5 : 500 < xk.length
                  · have HR := hide (HRE.out 4 (by decide) (by rw [HR1.out, if_pos h5]))
                    have i5 : (500 : Int) < (xk.length : Int) := by omega
                    clear h5 HRS HR1 HREST HRE
                    go_wp2_with (go_at_call 63; (refine (HCT.out _).mono ?_); rintro e w' ⟨rfl, hbl⟩; obtain ⟨os1, n1, rfl⟩ := below_plus hbl; clear hbl)
                    (try simp only [Exit.inBlock, Exit.then])
                    go_ret
                    rw [HR.out]
                    exact ⟨rfl, below_chainT HB.out (by repeat (first | with_reducible exact Below.refl _ _ | with_reducible refine bl_plus ?_ | with_reducible refine bl_alloc ?_ _ | with_reducible refine bl_drew ?_ | with_reducible refine bl_drewN ?_ _))⟩
                  · have HR2 := hide (show blkErr l 0 = F by rw [HR1.out, if_neg h5])
                    have i5 : ¬ (500 : Int) < (xk.length : Int) := by omega
                    clear h5 HRS HR1 HREST
                    by_cases hF : F = 0
                    · subst hF
                      clear HRE
                      go_wp2_with (first | (go_at_call 63; (refine (HCT.out _).mono ?_); rintro e w' ⟨rfl, hbl⟩; obtain ⟨os1, n1, rfl⟩ := below_plus hbl; clear hbl) | (go_at_call 64; (refine (HCP.out _ (by repeat (first | with_reducible exact Below.refl _ _ | with_reducible refine bl_plus ?_ | with_reducible refine bl_alloc ?_ _ | with_reducible refine bl_drew ?_ | with_reducible refine bl_drewN ?_ _))).mono ?_); rintro e w' ⟨rfl, hbl⟩; obtain ⟨os2, n2, rfl⟩ := below_plus hbl; clear hbl))
                      go_roundw
                      case rel => exact ⟨0 + 1, hlt, by go_num, hide (fun j hj => by
                        by_cases e : j = 0
                        · rw [e]; exact HR2.out
                        · exact HQ.out j (by omega)), hide (below_chainT HB.out (by repeat (first | with_reducible exact Below.refl _ _ | with_reducible refine bl_plus ?_ | with_reducible refine bl_alloc ?_ _ | with_reducible refine bl_drew ?_ | with_reducible refine bl_drewN ?_ _)))⟩
                      case measure => simp [intOf]; omega
                    · have HR := hide (HRE.out F hF HR2.out)
                      have e6 : (F != 0) = true := bne_iff_ne.2 hF
                      clear hF HR2 HRE
                      go_wp2_with (first | (go_at_call 63; (refine (HCT.out _).mono ?_); rintro e w' ⟨rfl, hbl⟩; obtain ⟨os1, n1, rfl⟩ := below_plus hbl; clear hbl) | (go_at_call 64; (refine (HCP.out _ (by repeat (first | with_reducible exact Below.refl _ _ | with_reducible refine bl_plus ?_ | with_reducible refine bl_alloc ?_ _ | with_reducible refine bl_drew ?_ | with_reducible refine bl_drewN ?_ _))).mono ?_); rintro e w' ⟨rfl, hbl⟩; obtain ⟨os2, n2, rfl⟩ := below_plus hbl; clear hbl))
                      (try simp only [Exit.inBlock, Exit.then])
                      go_ret
                      rw [HR.out]
                      exact ⟨rfl, below_chainT HB.out (by repeat (first | with_reducible exact Below.refl _ _ | with_reducible refine bl_plus ?_ | with_reducible refine bl_alloc ?_ _ | with_reducible refine bl_drew ?_ | with_reducible refine bl_drewN ?_ _))⟩
                · have HR := hide (HRE.out E hE (by rw [HRS.out, if_pos hE]))
                  have e5 : (E != 0) = true := bne_iff_ne.2 hE
                  clear hE HRS HREST HRE
                  go_wp2_with (go_at_call 63; (refine (HCT.out _).mono ?_); rintro e w' ⟨rfl, hbl⟩; obtain ⟨os1, n1, rfl⟩ := below_plus hbl; clear hbl)
                  (try simp only [Exit.inBlock, Exit.then])
                  go_ret
                  rw [HR.out]
                  exact ⟨rfl, below_chainT HB.out (by repeat (first | with_reducible exact Below.refl _ _ | with_reducible refine bl_plus ?_ | with_reducible refine bl_alloc ?_ _ | with_reducible refine bl_drew ?_ | with_reducible refine bl_drewN ?_ _))⟩
            · have HR := hide (HRE.out 2 (by decide) (H2.out (.inl ⟨rfl, h0⟩)))
              have e0 : (xi != 0) = true := bne_iff_ne.2 h0
              clear H0 H1 H2 H5 HCP HCT h0 HRE
              go_wp2
              (try simp only [Exit.inBlock, Exit.then])
              go_ret
              rw [HR.out]
              exact ⟨rfl, below_chainT HB.out (by repeat (first | with_reducible exact Below.refl _ _ | with_reducible refine bl_plus ?_ | with_reducible refine bl_alloc ?_ _ | with_reducible refine bl_drew ?_ | with_reducible refine bl_drewN ?_ _))⟩
          | succ m =>
            have y9 := HPV.out m rfl
            have im : (0 : Int) < ((m + 1 : Nat) : Int) := by omega
            have im2 : (((m + 1 : Nat) : Int) == 0) = false := beq_eq_false_iff_ne.2 (by omega)
            have i2000 : l.length ≤ 2000 := Nat.le_of_not_lt HM.out
            have im3 : IntKind.i64.wrap (((m + 1 : Nat) : Int) - 1) = (m : Int) := by rw [show ((m + 1 : Nat) : Int) - 1 = (m : Int) by omega]; exact IntWalk.i64_in _ (by omega)
            have im4 : (m : Int) < (l.length : Int) := by omega
            clear HPV
            by_cases hr : xi < 1 ∨ 1000000 < xi
            · have HR := hide (HRE.out 2 (by decide) (H2.out (.inr ⟨by omega, hr⟩)))
              have HIR := hide (fun W => inRange_any xi 1 1000000 false (by rcases hr with h | h <;> simp <;> omega) W)
              clear H0 H1 H2 H5 HCP HCT HRE hr
              go_wp2_with (go_at_call 62; (refine (HIR.out _).mono ?_); rintro e w' ⟨rfl, hw⟩; subst hw)
              (try simp only [Exit.inBlock, Exit.then])
              go_ret
              rw [HR.out]
              exact ⟨rfl, below_chainT HB.out (by repeat (first | with_reducible exact Below.refl _ _ | with_reducible refine bl_plus ?_ | with_reducible refine bl_alloc ?_ _ | with_reducible refine bl_drew ?_ | with_reducible refine bl_drewN ?_ _))⟩
            · have HIR := hide (fun W => inRange_any xi 1 1000000 true (by simp; omega) W)
              by_cases h3 : xi ≤ prev
              · have HR := hide (HRE.out 5 (by decide) (H5.out (by omega) ⟨by omega, h3⟩))
                clear H0 H1 H2 H5 HCP HCT HRE hr
                go_upto_region 10 with (go_at_call 62; (refine (HIR.out _).mono ?_); rintro e w' ⟨rfl, hw⟩; subst hw)
                go_quiet (fail)
                go_wp2
                (try simp only [Exit.inBlock, Exit.then])
                go_ret
                rw [HR.out]
                exact ⟨rfl, below_chainT HB.out (by repeat (first | with_reducible exact Below.refl _ _ | with_reducible refine bl_plus ?_ | with_reducible refine bl_alloc ?_ _ | with_reducible refine bl_drew ?_ | with_reducible refine bl_drewN ?_ _))⟩
              · have HREST := hide (H0.out (by omega) (by omega) (by omega))
                clear H0 H1 H2 H5 hr
                go_upto_region 10 with (go_at_call 62; (refine (HIR.out _).mono ?_); rintro e w' ⟨rfl, hw⟩; subst hw)
                go_quiet (fail)
                go_upto_region 14 with (fail)
                have HRS := hide HREST.out
                unfold restErr at HRS
                simp only at HRS
                generalize textErr xt = E at *
                generalize propsErr xs = F at *
                by_cases hE : E = 0
                · subst hE
                  have HR1 := hide (show blkErr l (m + 1) = if 500 < xk.length then 4 else F by rw [HRS.out, if_neg (by decide)])
                  by_cases h5 : 500 < xk.length
                  · have HR := hide (HRE.out 4 (by decide) (by rw [HR1.out, if_pos h5]))
                    have i5 : (500 : Int) < (xk.length : Int) := by omega
                    clear h5 HRS HR1 HREST HRE
                    go_wp2_with (go_at_call 63; (refine (HCT.out _).mono ?_); rintro e w' ⟨rfl, hbl⟩; obtain ⟨os1, n1, rfl⟩ := below_plus hbl; clear hbl)
                    (try simp only [Exit.inBlock, Exit.then])
                    go_ret
                    rw [HR.out]
                    exact ⟨rfl, below_chainT HB.out (by repeat (first | with_reducible exact Below.refl _ _ | with_reducible refine bl_plus ?_ | with_reducible refine bl_alloc ?_ _ | with_reducible refine bl_drew ?_ | with_reducible refine bl_drewN ?_ _))⟩
                  · have HR2 := hide (show blkErr l (m + 1) = F by rw [HR1.out, if_neg h5])
                    have i5 : ¬ (500 : Int) < (xk.length : Int) := by omega
                    clear h5 HRS HR1 HREST
                    by_cases hF : F = 0
                    · subst hF
                      clear HRE
                      go_wp2_with (first | (go_at_call 63; (refine (HCT.out _).mono ?_); rintro e w' ⟨rfl, hbl⟩; obtain ⟨os1, n1, rfl⟩ := below_plus hbl; clear hbl) | (go_at_call 64; (refine (HCP.out _ (by repeat (first | with_reducible exact Below.refl _ _ | with_reducible refine bl_plus ?_ | with_reducible refine bl_alloc ?_ _ | with_reducible refine bl_drew ?_ | with_reducible refine bl_drewN ?_ _))).mono ?_); rintro e w' ⟨rfl, hbl⟩; obtain ⟨os2, n2, rfl⟩ := below_plus hbl; clear hbl))
                      go_roundw
                      case rel => exact ⟨m + 1 + 1, hlt, by go_num, hide (fun j hj => by
                        by_cases e : j = m + 1
                        · rw [e]; exact HR2.out
                        · exact HQ.out j (by omega)), hide (below_chainT HB.out (by repeat (first | with_reducible exact Below.refl _ _ | with_reducible refine bl_plus ?_ | with_reducible refine bl_alloc ?_ _ | with_reducible refine bl_drew ?_ | with_reducible refine bl_drewN ?_ _)))⟩
                      case measure => simp [intOf]; omega
                    · have HR := hide (HRE.out F hF HR2.out)
                      have e6 : (F != 0) = true := bne_iff_ne.2 hF
                      clear hF HR2 HRE
                      go_wp2_with (first | (go_at_call 63; (refine (HCT.out _).mono ?_); rintro e w' ⟨rfl, hbl⟩; obtain ⟨os1, n1, rfl⟩ := below_plus hbl; clear hbl) | (go_at_call 64; (refine (HCP.out _ (by repeat (first | with_reducible exact Below.refl _ _ | with_reducible refine bl_plus ?_ | with_reducible refine bl_alloc ?_ _ | with_reducible refine bl_drew ?_ | with_reducible refine bl_drewN ?_ _))).mono ?_); rintro e w' ⟨rfl, hbl⟩; obtain ⟨os2, n2, rfl⟩ := below_plus hbl; clear hbl))
                      (try simp only [Exit.inBlock, Exit.then])
                      go_ret
                      rw [HR.out]
                      exact ⟨rfl, below_chainT HB.out (by repeat (first | with_reducible exact Below.refl _ _ | with_reducible refine bl_plus ?_ | with_reducible refine bl_alloc ?_ _ | with_reducible refine bl_drew ?_ | with_reducible refine bl_drewN ?_ _))⟩
                · have HR := hide (HRE.out E hE (by rw [HRS.out, if_pos hE]))
                  have e5 : (E != 0) = true := bne_iff_ne.2 hE
                  clear hE HRS HREST HRE
                  go_wp2_with (go_at_call 63; (refine (HCT.out _).mono ?_); rintro e w' ⟨rfl, hbl⟩; obtain ⟨os1, n1, rfl⟩ := below_plus hbl; clear hbl)
                  (try simp only [Exit.inBlock, Exit.then])
                  go_ret
                  rw [HR.out]
                  exact ⟨rfl, below_chainT HB.out (by repeat (first | with_reducible exact Below.refl _ _ | with_reducible refine bl_plus ?_ | with_reducible refine bl_alloc ?_ _ | with_reducible refine bl_drew ?_ | with_reducible refine bl_drewN ?_ _))⟩
        · obtain rfl : q = l.length := by omega
          have HIQ := hide (ids_of (firstErr_none (f := blkErr l) HQ.out))
          have H5 := hide (kids_500 HQ.out)
          go_wp2
          go_loopw [96] (fun i wr => ∃ (q : Nat), q ≤ l.length ∧ i = .int .i64 q ∧ Hid (∀ q', q' < q → kidsAt l q' = 0) ∧ Hid (Below w.heap.size w wr)) (fun i _ => l.length - (intOf i).toNat)
          case atStart => exact ⟨0, Nat.zero_le _, rfl, hide (fun q hq => absurd hq (by omega)), hide (below_chainT HB.out (by repeat (first | with_reducible exact Below.refl _ _ | with_reducible refine bl_plus ?_ | with_reducible refine bl_alloc ?_ _ | with_reducible refine bl_drew ?_ | with_reducible refine bl_drewN ?_ _)))⟩
          case round =>
            clear HB
            obtain ⟨q, hq, rfl, HQ2, HBW⟩ := hrel
            obtain ⟨WB, hWB⟩ : ∃ WB : World, WB = wr := ⟨_, rfl⟩
            subst hWB
            by_cases hlq : q < l.length
            · obtain ⟨b, o, A1, c1, A2, c2, rfl, hb, y0, y1, y2, y3, y4, hks, -, hcap⟩ := HA.out.getC HBW.out hlq
              have iq : (q : Int) < (l.length : Int) := by omega
              have HCAP := hide hcap
              have HL5 := hide (H5.out l[q] (List.getElem_mem hlq))
              have HQE := hide (fun (j : Nat) (hj : ∀ j', j' < j → kidErr l l[q] j' = 0) (hjl : j < l[q].kids.length) (e : Int) (he : e ≠ 0) (h : kidErr l l[q] j = e) => (show baseErr l = e from baseErr_kids HZ.out HM.out HQ.out he (kidsErr_at HQ2.out hlq hj hjl he h)))
              have HQZ := hide (fun (h : ∀ j', j' < l[q].kids.length → kidErr l l[q] j' = 0) => (show kidsAt l q = 0 by rw [kidsAt_at hlq]; exact firstErr_none h))
              have HKS := hide hks
              clear hks hcap
              generalize l[q] = x at *
              obtain ⟨xi, xp, xk, xt, xs⟩ := x
              (try simp only at *)
              go_wp2
              go_loopw [103] (fun i wr => ∃ (j : Nat), j ≤ xk.length ∧ i = .int .i64 j ∧ Hid (Blk wr WB.heap.size 82 #[.int .i64 xi, .int .i64 xp, .slice A1 xk.length c1, .string xt, .slice A2 xs.length c2]) ∧ Hid (Below WB.heap.size WB wr) ∧ Hid (∀ j', j' < j → kidErr l (.mk xi xp xk xt xs) j' = 0)) (fun i _ => xk.length - (intOf i).toNat)
              case atStart => exact ⟨0, Nat.zero_le _, rfl, hide (Blk.new WB 82 #[.int .i64 xi, .int .i64 xp, .slice A1 xk.length c1, .string xt, .slice A2 xs.length c2]), hide (by repeat (first | with_reducible exact Below.refl _ _ | with_reducible refine bl_plus ?_ | with_reducible refine bl_alloc ?_ _ | with_reducible refine bl_drew ?_ | with_reducible refine bl_drewN ?_ _)), hide (fun j hj => absurd hj (by omega))⟩
              case round =>
                obtain ⟨j, hj, rfl, HBX, HBB, HJ⟩ := hrel
                have HB := hide (below_chainT HBW.out HBB.out)
                by_cases hlt : j < xk.length
                · obtain ⟨b2, o2, rfl, hb2, z0⟩ := ints_get (HKS.out.below HB.out) hlt
                  have i1 : (j : Int) < (xk.length : Int) := by omega
                  have i5 : xk.length ≤ 500 := HL5.out
                  have hcap : j ≤ c1 := by have := HCAP.out; omega
                  obtain ⟨v0, v1, v2, v3, v4, vl⟩ := blk5 HBX.out
                  have HAT := hide (fun W (hb : Below wr.heap.size wr W) => atR_any l _ c xk[j] W (HA.out.below (below_chainT HB.out hb)))
                  have HER := hide (fun (e : Int) (he : e ≠ 0) (h : kidErr l (.mk xi xp xk xt xs) j = e) => HQE.out j HJ.out hlt e he h)
                  have HKE := hide (kidErr_at (l := l) (b := .mk xi xp xk xt xs) hlt)
                  simp only at HKE
                  have HKX := hide (show xk[j]? = some xk[j] from List.getElem?_eq_getElem hlt)
                  generalize xk[j] = k at *
                  cases hx : ixOf l k with
                  | none =>
                    have HR := hide (HER.out 7 (by decide) (by rw [HKE.out]; unfold kidErrs; rw [hx]))
                    have HI7 := hide (show ixI l k = -1 by unfold ixI; rw [hx])
                    rw [HI7.out] at HAT
                    clear HER HKE hx
                    go_wp2_with (go_at_call 65; (refine (HAT.out _ (by repeat (first | with_reducible exact Below.refl _ _ | with_reducible refine bl_plus ?_ | with_reducible refine bl_alloc ?_ _ | with_reducible refine bl_drew ?_ | with_reducible refine bl_drewN ?_ _))).mono ?_); rintro e w' ⟨rfl, hbl⟩; obtain ⟨os1, n1, rfl⟩ := below_plus hbl; clear hbl)
                    (try simp only [Exit.inBlock, Exit.then])
                    go_ret
                    rw [HR.out]
                    exact ⟨rfl, below_chainT HB.out (by repeat (first | with_reducible exact Below.refl _ _ | with_reducible refine bl_plus ?_ | with_reducible refine bl_alloc ?_ _ | with_reducible refine bl_drew ?_ | with_reducible refine bl_drewN ?_ _))⟩
                  | some m =>
                    have HI7 := hide (show ixI l k = m by unfold ixI; rw [hx])
                    rw [HI7.out] at HAT
                    obtain ⟨hm, hid⟩ := ixOf_some hx
                    have HKE2 := hide (show kidErr l (.mk xi xp xk xt xs) j = if parAt l m ≠ xi ∨ m = 0 then 1 else if k ∈ xk.take j then 6 else 0 by rw [HKE.out]; unfold kidErrs; rw [hx])
                    obtain ⟨b3, o3, A3, c3, A4, c4, e3, hb3, q0, q1, q2, q3, q4, -, -⟩ := HA.out.getB HB.out hm
                    obtain ⟨rfl, rfl⟩ : b = b3 ∧ o = o3 := by injection e3 with e3; injection e3 with e4 e5; exact ⟨e4, e5⟩
                    have im : (m : Int) < (l.length : Int) := by omega
                    rw [parAt_get hm] at HKE2
                    clear hx HKE hid e3
                    generalize l[m].id = qi at *
                    generalize l[m].kids = qk at *
                    generalize l[m].txt = qt at *
                    generalize l[m].ps = qs at *
                    generalize l[m].par = pm at *
                    clear hm
                    by_cases hbad : pm ≠ xi ∨ m = 0
                    · have HR := hide (HER.out 1 (by decide) (by rw [HKE2.out, if_pos hbad]))
                      clear HER HKE2
                      by_cases hp : pm = xi
                      · have e1 : (pm != xi) = false := by simp [hp]
                        obtain rfl : m = 0 := by omega
                        clear hbad hp
                        go_upto_region 32 with (go_at_call 65; (refine (HAT.out _ (by repeat (first | with_reducible exact Below.refl _ _ | with_reducible refine bl_plus ?_ | with_reducible refine bl_alloc ?_ _ | with_reducible refine bl_drew ?_ | with_reducible refine bl_drewN ?_ _))).mono ?_); rintro e w' ⟨rfl, hbl⟩; obtain ⟨os1, n1, rfl⟩ := below_plus hbl; clear hbl)
                        go_quiet (fail)
                        go_wp2
                        (try simp only [Exit.inBlock, Exit.then])
                        go_ret
                        rw [HR.out]
                        exact ⟨rfl, below_chainT HB.out (by repeat (first | with_reducible exact Below.refl _ _ | with_reducible refine bl_plus ?_ | with_reducible refine bl_alloc ?_ _ | with_reducible refine bl_drew ?_ | with_reducible refine bl_drewN ?_ _))⟩
                      · have e1 : (pm != xi) = true := by simp [hp]
                        clear hbad hp
                        go_upto_region 32 with (go_at_call 65; (refine (HAT.out _ (by repeat (first | with_reducible exact Below.refl _ _ | with_reducible refine bl_plus ?_ | with_reducible refine bl_alloc ?_ _ | with_reducible refine bl_drew ?_ | with_reducible refine bl_drewN ?_ _))).mono ?_); rintro e w' ⟨rfl, hbl⟩; obtain ⟨os1, n1, rfl⟩ := below_plus hbl; clear hbl)
                        go_quiet (fail)
                        go_wp2
                        (try simp only [Exit.inBlock, Exit.then])
                        go_ret
                        rw [HR.out]
                        exact ⟨rfl, below_chainT HB.out (by repeat (first | with_reducible exact Below.refl _ _ | with_reducible refine bl_plus ?_ | with_reducible refine bl_alloc ?_ _ | with_reducible refine bl_drew ?_ | with_reducible refine bl_drewN ?_ _))⟩
                    · have e1 : (pm != xi) = false := by simp; omega
                      have e2 : ((m : Int) == 0) = false := by simp; omega
                      have HKE3 := hide (show kidErr l (.mk xi xp xk xt xs) j = if k ∈ xk.take j then 6 else 0 by rw [HKE2.out, if_neg hbad])
                      clear HKE2 hbad
                      go_upto_region 32 with (go_at_call 65; (refine (HAT.out _ (by repeat (first | with_reducible exact Below.refl _ _ | with_reducible refine bl_plus ?_ | with_reducible refine bl_alloc ?_ _ | with_reducible refine bl_drew ?_ | with_reducible refine bl_drewN ?_ _))).mono ?_); rintro e w' ⟨rfl, hbl⟩; obtain ⟨os1, n1, rfl⟩ := below_plus hbl; clear hbl)
                      go_quiet (fail)
                      go_wp2
                      go_loopw [130] (fun i wr => ∃ (m9 : Nat), m9 ≤ j ∧ i = .int .i64 m9 ∧ Hid (∀ m', m' < m9 → xk[m']? ≠ some k) ∧ Hid (Blk wr WB.heap.size 82 #[.int .i64 xi, .int .i64 xp, .slice (some ⟨b2, o2, none⟩) xk.length c1, .string xt, .slice A2 xs.length c2]) ∧ Hid (Below WB.heap.size WB wr)) (fun i _ => j - (intOf i).toNat)
                      case atStart => exact ⟨0, Nat.zero_le _, rfl, hide (fun m9 h9 => absurd h9 (by omega)), hide (HBX.out.below (by repeat (first | with_reducible exact Below.refl _ _ | with_reducible refine bl_plus ?_ | with_reducible refine bl_alloc ?_ _ | with_reducible refine bl_drew ?_ | with_reducible refine bl_drewN ?_ _)) HBX.out.lt), hide (below_chainT HBB.out (by repeat (first | with_reducible exact Below.refl _ _ | with_reducible refine bl_plus ?_ | with_reducible refine bl_alloc ?_ _ | with_reducible refine bl_drew ?_ | with_reducible refine bl_drewN ?_ _)))⟩
                      case round =>
                        clear HBX HBB HB v0 v1 v2 v3 v4 vl q0 q1 q2 q3 q4 z0 HAT
                        obtain ⟨m9, hm9, rfl, HN9, HBX, HBB⟩ := hrel
                        have HB := hide (below_chainT HBW.out HBB.out)
                        by_cases hl9 : m9 < j
                        · obtain ⟨b9, o9, e9, hb9, z9⟩ := ints_get (HKS.out.below HB.out) (show m9 < xk.length by omega)
                          injection e9 with e9
                          injection e9 with e9 e10
                          subst e9 e10
                          have i9 : (m9 : Int) < (j : Int) := by omega
                          have HX9 := hide (show xk[m9]? = some xk[m9] from List.getElem?_eq_getElem (by omega))
                          have HT9 := hide (show xk[m9] ∈ xk.take j from List.mem_take_iff_getElem.2 ⟨m9, by omega, rfl⟩)
                          generalize xk[m9] = y at *
                          cases hy : (y == k) with
                          | true =>
                            have HR := hide (HER.out 6 (by decide) (by rw [HKE3.out, if_pos (by have h9 := HT9.out; rwa [eq_of_beq hy] at h9)]))
                            clear HER HKE3 HT9 HX9
                            go_wp2
                            (try simp only [Exit.inBlock, Exit.then])
                            go_ret
                            rw [HR.out]
                            exact ⟨rfl, below_chainT HB.out (by repeat (first | with_reducible exact Below.refl _ _ | with_reducible refine bl_plus ?_ | with_reducible refine bl_alloc ?_ _ | with_reducible refine bl_drew ?_ | with_reducible refine bl_drewN ?_ _))⟩
                          | false =>
                            go_wp2
                            go_roundw
                            case rel => exact ⟨m9 + 1, hl9, by go_num, hide (fun m' hm' => by
                              by_cases e9 : m' = m9
                              · subst e9; rw [HX9.out]; intro h9; injection h9 with h9; rw [h9] at hy; simp at hy
                              · exact HN9.out m' (by omega)), hide (HBX.out.below (by repeat (first | with_reducible exact Below.refl _ _ | with_reducible refine bl_plus ?_ | with_reducible refine bl_alloc ?_ _ | with_reducible refine bl_drew ?_ | with_reducible refine bl_drewN ?_ _)) HBX.out.lt), hide (below_chainT HBB.out (by repeat (first | with_reducible exact Below.refl _ _ | with_reducible refine bl_plus ?_ | with_reducible refine bl_alloc ?_ _ | with_reducible refine bl_drew ?_ | with_reducible refine bl_drewN ?_ _)))⟩
                            case measure => simp [intOf]; omega
                        · obtain rfl : m9 = j := by omega
                          have HR := hide (show kidErr l (.mk xi xp xk xt xs) m9 = 0 by
                            rw [HKE3.out, if_neg (fun h => by
                              obtain ⟨i9, hi9, e9⟩ := List.mem_take_iff_getElem.1 h
                              exact HN9.out i9 (by omega) (by rw [List.getElem?_eq_getElem (by omega), e9]))])
                          go_wp2
                          go_roundw
                          case rel => exact ⟨m9 + 1, hlt, by go_num, hide (HBX.out.below (by repeat (first | with_reducible exact Below.refl _ _ | with_reducible refine bl_plus ?_ | with_reducible refine bl_alloc ?_ _ | with_reducible refine bl_drew ?_ | with_reducible refine bl_drewN ?_ _)) HBX.out.lt), hide (below_chainT HBB.out (by repeat (first | with_reducible exact Below.refl _ _ | with_reducible refine bl_plus ?_ | with_reducible refine bl_alloc ?_ _ | with_reducible refine bl_drew ?_ | with_reducible refine bl_drewN ?_ _))), hide (fun j' hj' => by
                            by_cases e : j' = m9
                            · rw [e]; exact HR.out
                            · exact HJ.out j' (by omega))⟩
                          case measure => simp [intOf]; omega
                · obtain rfl : j = xk.length := by omega
                  have HR := hide (HQZ.out HJ.out)
                  go_wp2
                  go_roundw
                  case rel => exact ⟨q + 1, hlq, by go_num, hide (fun q' hq' => by
                    by_cases e : q' = q
                    · subst e; exact HR.out
                    · exact HQ2.out q' (by omega)), hide (below_chainT HB.out (by repeat (first | with_reducible exact Below.refl _ _ | with_reducible refine bl_plus ?_ | with_reducible refine bl_alloc ?_ _ | with_reducible refine bl_drew ?_ | with_reducible refine bl_drewN ?_ _)))⟩
                  case measure => simp [intOf]; omega
            · obtain rfl : q = l.length := by omega
              have hke : kidsErr l = 0 := firstErr_none HQ2.out
              have HG := hide (good_of (firstErr_none (f := blkErr l) HQ.out) hke)
              have HDEP := hide (baseErr_dep HZ.out HM.out HQ.out hke)
              clear hke
              have h2000 : l.length ≤ 2000 := Nat.le_of_not_lt HM.out
              have hpos : 0 < l.length := Nat.pos_of_ne_zero HZ.out
              have hmk := make_intC l.length WB (by omega)
              have HREA := hide (fun W (hbk : Blk W WB.heap.size 3 (intC (List.replicate l.length 0))) (hb : Below w.heap.size w W) => (show Calls Tryz.prog 66 #[.slice A l.length c, .int .i64 0, .int .i64 0, .slice (some ⟨WB.heap.size, 0, none⟩) l.length l.length] W (ReachOut l w WB.heap.size 0 (List.replicate l.length 0)) from
                reach_any l A c w HA.out HG.out h2000 H5.out WB.heap.size HBW.out.size (l.length + 1) 0 0 (List.replicate l.length 0) W (by have := zeros_le (List.replicate l.length 0); rw [List.length_replicate] at this; omega) hpos (mkOk_zero l) (by rw [idAt_get hpos, HG.out.ids.zero hpos]; exact .root) (by have := zeros_le (List.replicate l.length 0); rw [List.length_replicate] at this; omega) hbk hb))
              unfold ReachOut at HREA
              have HPOS := hide hpos
              clear h2000 hpos
              go_wp2_with (go_at_call 66; (refine (HREA.out _ (Blk.new WB 3 (intC (List.replicate l.length 0))) (below_chainT HBW.out (by repeat (first | with_reducible exact Below.refl _ _ | with_reducible refine bl_plus ?_ | with_reducible refine bl_alloc ?_ _ | with_reducible refine bl_drew ?_ | with_reducible refine bl_drewN ?_ _)))).mono ?_); rintro e w9 ⟨rfl, ds, h1, h2, h3, h4, h5⟩; have HMO := hide h1; have HK0 := hide h2; have HDS := hide h4; have HB9 := hide h5; clear h1 h2 h3 h4 h5)
              go_loopw [148] (fun i wr => ∃ (q : Nat), q ≤ l.length ∧ i = .int .i64 q ∧ Hid (∀ j, j < q → depErr l j = 0) ∧ Hid (Below w9.heap.size w9 wr)) (fun i _ => l.length - (intOf i).toNat)
              case atStart => exact ⟨0, Nat.zero_le _, rfl, hide (fun j hj => absurd hj (by omega)), hide (by repeat (first | with_reducible exact Below.refl _ _ | with_reducible refine bl_plus ?_ | with_reducible refine bl_alloc ?_ _ | with_reducible refine bl_drew ?_ | with_reducible refine bl_drewN ?_ _))⟩
              case round =>
                clear hmk HREA
                obtain ⟨q, hq, rfl, HQ9, HBB⟩ := hrel
                have HB := hide (below_chainT HB9.out HBB.out)
                by_cases hlt : q < l.length
                · have i1 : (q : Int) < (l.length : Int) := by omega
                  have HLT := hide (show q < ds.length from by rw [HMO.out.ok.len]; exact hlt)
                  have hcl : wr.cell? ⟨WB.heap.size, q, none⟩ = some (.int .i64 ds[q]) := ((HDS.out.below HBB.out HDS.out.lt).cell q).trans (intC_get HLT.out)
                  have hgl : WB.heap.size < wr.heap.size := (HDS.out.below HBB.out HDS.out.lt).lt
                  have HRE := hide (fun (e : Int) (he : e ≠ 0) (h : depErr l q = e) => (show baseErr l = e by rw [HDEP.out, firstErr_first HQ9.out (by rw [h]; exact he) hlt, h]))
                  have HDE := hide (depErr_marks HG.out HMO.out HK0.out HPOS.out q hlt)
                  rw [mkd_get HLT.out] at HDE
                  have HNX := hide (fun (h : depErr l q = 0) => (show ∀ j, j < q + 1 → depErr l j = 0 from fun j hj => by
                    by_cases e : j = q
                    · subst e; exact h
                    · exact HQ9.out j (by omega)))
                  generalize ds[q] = v at *
                  by_cases h0 : q = 0
                  · have HR := hide (HNX.out (by rw [HDE.out, if_pos h0]))
                    have e9 : ((q : Int) == 0) = true := by simp; omega
                    clear h0 HDE HRE HNX
                    go_wp2
                    go_roundw
                    case rel => exact ⟨q + 1, hlt, by go_num, HR, hide (below_chainT HBB.out (by repeat (first | with_reducible exact Below.refl _ _ | with_reducible refine bl_plus ?_ | with_reducible refine bl_alloc ?_ _ | with_reducible refine bl_drew ?_ | with_reducible refine bl_drewN ?_ _)))⟩
                    case measure => simp [intOf]; omega
                  · have e9 : ((q : Int) == 0) = false := by simp; omega
                    by_cases hv : v = 0
                    · have HR := hide (HRE.out 12 (by decide) (by rw [HDE.out, if_neg h0, if_pos hv]))
                      have e10 : (v == 0) = true := by simp [hv]
                      clear h0 HDE HRE HNX hv
                      go_wp2
                      (try simp only [Exit.inBlock, Exit.then])
                      go_ret
                      rw [HR.out]
                      exact ⟨rfl, below_chainT HB.out (by repeat (first | with_reducible exact Below.refl _ _ | with_reducible refine bl_plus ?_ | with_reducible refine bl_alloc ?_ _ | with_reducible refine bl_drew ?_ | with_reducible refine bl_drewN ?_ _))⟩
                    · have e10 : (v == 0) = false := by simp [hv]
                      by_cases h40 : 40 < v
                      · have HR := hide (HRE.out 13 (by decide) (by rw [HDE.out, if_neg h0, if_neg hv, if_pos h40]))
                        clear h0 HDE HRE HNX hv
                        go_wp2
                        (try simp only [Exit.inBlock, Exit.then])
                        go_ret
                        rw [HR.out]
                        exact ⟨rfl, below_chainT HB.out (by repeat (first | with_reducible exact Below.refl _ _ | with_reducible refine bl_plus ?_ | with_reducible refine bl_alloc ?_ _ | with_reducible refine bl_drew ?_ | with_reducible refine bl_drewN ?_ _))⟩
                      · have HR := hide (HNX.out (by rw [HDE.out, if_neg h0, if_neg hv, if_neg h40]))
                        clear h0 HDE HRE HNX hv
                        go_wp2
                        go_roundw
                        case rel => exact ⟨q + 1, hlt, by go_num, HR, hide (below_chainT HBB.out (by repeat (first | with_reducible exact Below.refl _ _ | with_reducible refine bl_plus ?_ | with_reducible refine bl_alloc ?_ _ | with_reducible refine bl_drew ?_ | with_reducible refine bl_drewN ?_ _)))⟩
                        case measure => simp [intOf]; omega
                · obtain rfl : q = l.length := by omega
                  have HR := hide (show baseErr l = 0 by rw [HDEP.out]; exact firstErr_none HQ9.out)
                  go_wp2
                  go_ret
                  rw [HR.out]
                  exact ⟨rfl, HB.out⟩

end Go.Proofs.YtioppoaijehicaaGreatDoor
