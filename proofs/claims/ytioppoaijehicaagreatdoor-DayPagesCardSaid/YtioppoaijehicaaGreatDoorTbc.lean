/-
  WALK: is a block right by itself?
-/
import Derived.Test.YtioppoaijehicaaGreatDoorTbd
import Derived.Test.YtioppoaijehicaaGreatDoorPpb
set_option linter.all false
namespace Go.Proofs.YtioppoaijehicaaGreatDoor
open Go.RowKit

def restErr (b : BK) : Int := if textErr b.txt ≠ 0 then textErr b.txt else if 500 < b.kids.length then 4 else propsErr b.ps

def rngBad (i : Nat) (b : BK) : Prop := (i = 0 ∧ b.id ≠ 0) ∨ (0 < i ∧ (b.id < 1 ∨ 1000000 < b.id))

def ordBad (i : Nat) (prev : Int) (b : BK) : Prop := 0 < i ∧ b.id ≤ prev

def frmBad (i : Nat) (b : BK) : Prop := i = 0 ∧ (b.txt.size ≠ 0 ∨ 0 < b.ps.length ∨ b.par ≠ 0)

theorem blkErrs_rng {i : Nat} {prev : Int} {b : BK} (h : rngBad i b) : blkErrs i prev b = 2 := if_pos h

theorem blkErrs_ord {i : Nat} {prev : Int} {b : BK} (h : ¬ rngBad i b) (h2 : ordBad i prev b) : blkErrs i prev b = 5 := by
  unfold rngBad at h
  unfold ordBad at h2
  unfold blkErrs
  rw [if_neg h, if_pos h2]

theorem blkErrs_frm {i : Nat} {prev : Int} {b : BK} (h : ¬ rngBad i b) (h2 : ¬ ordBad i prev b) (h3 : frmBad i b) : blkErrs i prev b = 1 := by
  unfold rngBad at h
  unfold ordBad at h2
  unfold frmBad at h3
  unfold blkErrs
  rw [if_neg h, if_neg h2, if_pos h3]

theorem blkErrs_rest {i : Nat} {prev : Int} {b : BK} (h : ¬ rngBad i b) (h2 : ¬ ordBad i prev b) (h3 : ¬ frmBad i b) : blkErrs i prev b = restErr b := by
  unfold rngBad at h
  unfold ordBad at h2
  unfold frmBad at h3
  unfold blkErrs
  rw [if_neg h, if_neg h2, if_neg h3]
  rfl

theorem emp_size (s : ByteArray) : s.toList.isEmpty = decide (s.size = 0) := by
  rw [Lib.toList_data, Lib.size_eq]
  cases s.data.toList <;> simp

theorem emp_nil (s : ByteArray) : (s.toList == []) = decide (s.size = 0) := by
  rw [Lib.toList_data, Lib.size_eq]
  cases s.data.toList <;> simp

set_option maxHeartbeats 3200000 in
set_option maxRecDepth 100000 in
theorem checkBlock_any (l : List BK) (A : Option Addr) (c : Nat) (i : Nat) (hi : i < l.length) (w : World) (hA : BsAt w A l) (hn : l.length ≤ 2000) :
    Calls Tryz.prog 57 #[.slice A l.length c, .int .i64 i] w fun e w' => e = .returned (.int .i64 (blkErr l i)) ∧ Below w.heap.size w w' := by
  rw [blkErr_at hi]
  obtain ⟨b, o, A1, c1, A2, c2, rfl, hb, y0, y1, y2, y3, y4, -, hps⟩ := hA.get hi
  have HCP := hide (fun W (hb : Below w.heap.size w W) => checkProps_any l[i].ps A2 c2 W (hps.below hb))
  have HCT := hide (fun W => textCheck_any l[i].txt W)
  have HPV := hide (fun (m : Nat) (hm : i = m + 1) => (show w.cell? ⟨b, o + m * 5, none⟩ = some (.int .i64 (idAt l (i - 1))) from by
    obtain ⟨b', o', -, -, -, -, e, -, z0, -⟩ := hA.get (q := m) (by omega)
    injection e with e
    injection e with e1 e2
    subst e1 e2
    rw [z0, show i - 1 = m by omega, idAt_get (by omega)]))
  have i1 : (i : Int) < (l.length : Int) := by omega
  clear hA hps
  generalize idAt l (i - 1) = prev at *
  generalize l[i] = x at *
  generalize hR : blkErrs i prev x = R
  have H2 := hide (fun h => hR.symm.trans (blkErrs_rng (prev := prev) (b := x) (i := i) h))
  have H5 := hide (fun h h2 => hR.symm.trans (blkErrs_ord (prev := prev) (b := x) (i := i) h h2))
  have H1 := hide (fun h h2 h3 => hR.symm.trans (blkErrs_frm (prev := prev) (b := x) (i := i) h h2 h3))
  have H0 := hide (fun h h2 h3 => hR.symm.trans (blkErrs_rest (prev := prev) (b := x) (i := i) h h2 h3))
  clear hR
  unfold rngBad at H2 H5 H1 H0
  unfold ordBad at H5 H1 H0
  unfold frmBad at H1 H0
  obtain ⟨xi, xp, xk, xt, xs⟩ := x
  simp only at *
  cases i with
  | zero =>
    clear HPV
    simp only [Nat.zero_mul, Nat.add_zero] at y0 y1 y2 y3 y4
    by_cases h0 : xi = 0
    · subst h0
      by_cases hf : xt.size ≠ 0 ∨ 0 < xs.length ∨ xp ≠ 0
      · have HR := hide (H1.out (by omega) (by omega) ⟨rfl, hf⟩)
        clear H0 H1 H2 H5 HCP HCT
        by_cases hT : xt.size = 0
        · have t1 : xt.toList.isEmpty = true := by rw [emp_size]; simpa using hT
          have t2 : (xt.toList == []) = true := by rw [emp_nil]; simpa using hT
          by_cases hP : 0 < xs.length
          · have i2 : (0 : Int) < (xs.length : Int) := by omega
            clear hf hT
            go_enter Tryz.func57, Tryz.ntmps57
            go_upto_region 4 with (fail)
            go_quiet (fail)
            go_wp2
            (try simp only [Exit.inBlock, Exit.then])
            go_ret
            rw [HR.out]
            exact ⟨rfl, (by repeat (first | with_reducible exact Below.refl _ _ | with_reducible refine bl_plus ?_ | with_reducible refine bl_alloc ?_ _ | with_reducible refine bl_drew ?_ | with_reducible refine bl_drewN ?_ _))⟩
          · have i2 : ¬ (0 : Int) < (xs.length : Int) := by omega
            have i3 : (xp != 0) = true := bne_iff_ne.2 (by omega)
            have i4 : decide (0 < xs.length) = false := decide_eq_false hP
            clear hf hT
            go_enter Tryz.func57, Tryz.ntmps57
            go_upto_region 4 with (fail)
            go_quiet (fail)
            go_wp2
            (try simp only [Exit.inBlock, Exit.then])
            go_ret
            rw [HR.out]
            exact ⟨rfl, (by repeat (first | with_reducible exact Below.refl _ _ | with_reducible refine bl_plus ?_ | with_reducible refine bl_alloc ?_ _ | with_reducible refine bl_drew ?_ | with_reducible refine bl_drewN ?_ _))⟩
        · have t1 : xt.toList.isEmpty = false := by rw [emp_size]; simpa using hT
          have t2 : (xt.toList == []) = false := by rw [emp_nil]; simpa using hT
          clear hf hT
          go_enter Tryz.func57, Tryz.ntmps57
          go_upto_region 4 with (fail)
          go_quiet (fail)
          go_wp2
          (try simp only [Exit.inBlock, Exit.then])
          go_ret
          rw [HR.out]
          exact ⟨rfl, (by repeat (first | with_reducible exact Below.refl _ _ | with_reducible refine bl_plus ?_ | with_reducible refine bl_alloc ?_ _ | with_reducible refine bl_drew ?_ | with_reducible refine bl_drewN ?_ _))⟩
      · have HREST := hide (H0.out (by omega) (by omega) (fun h => hf h.2))
        have hT : xt.size = 0 := by omega
        have t1 : xt.toList.isEmpty = true := by rw [emp_size]; simpa using hT
        have t2 : (xt.toList == []) = true := by rw [emp_nil]; simpa using hT
        have i2 : ¬ (0 : Int) < (xs.length : Int) := by omega
        have i4 : decide (0 < xs.length) = false := decide_eq_false (by omega)
        obtain rfl : xp = 0 := by omega
        clear H0 H1 H2 H5 hf hT
        go_enter Tryz.func57, Tryz.ntmps57
        go_upto_region 4 with (fail)
        go_quiet (fail)
        go_upto_region 8 with (fail)
        have HRS := hide HREST.out
        unfold restErr at HRS
        simp only at HRS
        generalize textErr xt = E at *
        generalize propsErr xs = F at *
        by_cases hE : E = 0
        · subst hE
          have HR1 := hide (show R = if 500 < xk.length then 4 else F by rw [HRS.out, if_neg (by decide)])
          by_cases h5 : 500 < xk.length
          · have HR2 := hide (show R = 4 by rw [HR1.out, if_pos h5])
            have i5 : (500 : Int) < (xk.length : Int) := by omega
            clear h5 HRS HR1 HREST
            go_wp2_with (go_at_call 93; (refine (HCT.out _).mono ?_); rintro e w' ⟨rfl, hbl⟩; obtain ⟨os1, n1, rfl⟩ := below_plus hbl; clear hbl)
            (try simp only [Exit.inBlock, Exit.then])
            go_ret
            rw [HR2.out]
            exact ⟨rfl, (by repeat (first | with_reducible exact Below.refl _ _ | with_reducible refine bl_plus ?_ | with_reducible refine bl_alloc ?_ _ | with_reducible refine bl_drew ?_ | with_reducible refine bl_drewN ?_ _))⟩
          · have HR2 := hide (show R = F by rw [HR1.out, if_neg h5])
            have i5 : ¬ (500 : Int) < (xk.length : Int) := by omega
            clear h5 HRS HR1 HREST
            go_wp2_with (first | (go_at_call 93; (refine (HCT.out _).mono ?_); rintro e w' ⟨rfl, hbl⟩; obtain ⟨os1, n1, rfl⟩ := below_plus hbl; clear hbl) | (go_at_call 64; (refine (HCP.out _ (by repeat (first | with_reducible exact Below.refl _ _ | with_reducible refine bl_plus ?_ | with_reducible refine bl_alloc ?_ _ | with_reducible refine bl_drew ?_ | with_reducible refine bl_drewN ?_ _))).mono ?_); rintro e w' ⟨rfl, hbl⟩; obtain ⟨os2, n2, rfl⟩ := below_plus hbl; clear hbl))
            (try simp only [Exit.inBlock, Exit.then])
            go_ret
            rw [HR2.out]
            exact ⟨rfl, (by repeat (first | with_reducible exact Below.refl _ _ | with_reducible refine bl_plus ?_ | with_reducible refine bl_alloc ?_ _ | with_reducible refine bl_drew ?_ | with_reducible refine bl_drewN ?_ _))⟩
        · have HR2 := hide (show R = E by rw [HRS.out, if_pos hE])
          have e5 : (E != 0) = true := bne_iff_ne.2 hE
          clear hE HRS HREST
          go_wp2_with (go_at_call 93; (refine (HCT.out _).mono ?_); rintro e w' ⟨rfl, hbl⟩; obtain ⟨os1, n1, rfl⟩ := below_plus hbl; clear hbl)
          (try simp only [Exit.inBlock, Exit.then])
          go_ret
          rw [HR2.out]
          exact ⟨rfl, (by repeat (first | with_reducible exact Below.refl _ _ | with_reducible refine bl_plus ?_ | with_reducible refine bl_alloc ?_ _ | with_reducible refine bl_drew ?_ | with_reducible refine bl_drewN ?_ _))⟩
    · have HR := hide (H2.out (.inl ⟨rfl, h0⟩))
      have e0 : (xi != 0) = true := bne_iff_ne.2 h0
      clear H0 H1 H2 H5 HCP HCT h0
      go_enter Tryz.func57, Tryz.ntmps57
      go_wp2
      (try simp only [Exit.inBlock, Exit.then])
      go_ret
      rw [HR.out]
      exact ⟨rfl, (by repeat (first | with_reducible exact Below.refl _ _ | with_reducible refine bl_plus ?_ | with_reducible refine bl_alloc ?_ _ | with_reducible refine bl_drew ?_ | with_reducible refine bl_drewN ?_ _))⟩
  | succ m =>
    have y9 := HPV.out m rfl
    have im : (0 : Int) < ((m + 1 : Nat) : Int) := by omega
    have im2 : (((m + 1 : Nat) : Int) == 0) = false := beq_eq_false_iff_ne.2 (by omega)
    have im3 : IntKind.i64.wrap (((m + 1 : Nat) : Int) - 1) = (m : Int) := by rw [show ((m + 1 : Nat) : Int) - 1 = (m : Int) by omega]; exact IntWalk.i64_in _ (by omega)
    have im4 : (m : Int) < (l.length : Int) := by omega
    clear HPV
    by_cases h1 : xi < 1
    · have HR := hide (H2.out (.inr ⟨by omega, .inl h1⟩))
      clear H0 H1 H2 H5 HCP HCT
      go_enter Tryz.func57, Tryz.ntmps57
      go_wp2
      (try simp only [Exit.inBlock, Exit.then])
      go_ret
      rw [HR.out]
      exact ⟨rfl, (by repeat (first | with_reducible exact Below.refl _ _ | with_reducible refine bl_plus ?_ | with_reducible refine bl_alloc ?_ _ | with_reducible refine bl_drew ?_ | with_reducible refine bl_drewN ?_ _))⟩
    · by_cases h2 : 1000000 < xi
      · have HR := hide (H2.out (.inr ⟨by omega, .inr h2⟩))
        clear H0 H1 H2 H5 HCP HCT
        go_enter Tryz.func57, Tryz.ntmps57
        go_wp2
        (try simp only [Exit.inBlock, Exit.then])
        go_ret
        rw [HR.out]
        exact ⟨rfl, (by repeat (first | with_reducible exact Below.refl _ _ | with_reducible refine bl_plus ?_ | with_reducible refine bl_alloc ?_ _ | with_reducible refine bl_drew ?_ | with_reducible refine bl_drewN ?_ _))⟩
      · by_cases h3 : xi ≤ prev
        · have HR := hide (H5.out (by omega) ⟨by omega, h3⟩)
          clear H0 H1 H2 H5 HCP HCT
          go_enter Tryz.func57, Tryz.ntmps57
          go_upto_region 4 with (fail)
          go_quiet (fail)
          go_wp2
          (try simp only [Exit.inBlock, Exit.then])
          go_ret
          rw [HR.out]
          exact ⟨rfl, (by repeat (first | with_reducible exact Below.refl _ _ | with_reducible refine bl_plus ?_ | with_reducible refine bl_alloc ?_ _ | with_reducible refine bl_drew ?_ | with_reducible refine bl_drewN ?_ _))⟩
        · have HREST := hide (H0.out (by omega) (by omega) (by omega))
          clear H0 H1 H2 H5
          go_enter Tryz.func57, Tryz.ntmps57
          go_upto_region 4 with (fail)
          go_quiet (fail)
          go_upto_region 8 with (fail)
          have HRS := hide HREST.out
          unfold restErr at HRS
          simp only at HRS
          generalize textErr xt = E at *
          generalize propsErr xs = F at *
          by_cases hE : E = 0
          · subst hE
            have HR1 := hide (show R = if 500 < xk.length then 4 else F by rw [HRS.out, if_neg (by decide)])
            by_cases h5 : 500 < xk.length
            · have HR2 := hide (show R = 4 by rw [HR1.out, if_pos h5])
              have i5 : (500 : Int) < (xk.length : Int) := by omega
              clear h5 HRS HR1 HREST
              go_wp2_with (go_at_call 93; (refine (HCT.out _).mono ?_); rintro e w' ⟨rfl, hbl⟩; obtain ⟨os1, n1, rfl⟩ := below_plus hbl; clear hbl)
              (try simp only [Exit.inBlock, Exit.then])
              go_ret
              rw [HR2.out]
              exact ⟨rfl, (by repeat (first | with_reducible exact Below.refl _ _ | with_reducible refine bl_plus ?_ | with_reducible refine bl_alloc ?_ _ | with_reducible refine bl_drew ?_ | with_reducible refine bl_drewN ?_ _))⟩
            · have HR2 := hide (show R = F by rw [HR1.out, if_neg h5])
              have i5 : ¬ (500 : Int) < (xk.length : Int) := by omega
              clear h5 HRS HR1 HREST
              go_wp2_with (first | (go_at_call 93; (refine (HCT.out _).mono ?_); rintro e w' ⟨rfl, hbl⟩; obtain ⟨os1, n1, rfl⟩ := below_plus hbl; clear hbl) | (go_at_call 64; (refine (HCP.out _ (by repeat (first | with_reducible exact Below.refl _ _ | with_reducible refine bl_plus ?_ | with_reducible refine bl_alloc ?_ _ | with_reducible refine bl_drew ?_ | with_reducible refine bl_drewN ?_ _))).mono ?_); rintro e w' ⟨rfl, hbl⟩; obtain ⟨os2, n2, rfl⟩ := below_plus hbl; clear hbl))
              (try simp only [Exit.inBlock, Exit.then])
              go_ret
              rw [HR2.out]
              exact ⟨rfl, (by repeat (first | with_reducible exact Below.refl _ _ | with_reducible refine bl_plus ?_ | with_reducible refine bl_alloc ?_ _ | with_reducible refine bl_drew ?_ | with_reducible refine bl_drewN ?_ _))⟩
          · have HR2 := hide (show R = E by rw [HRS.out, if_pos hE])
            have e5 : (E != 0) = true := bne_iff_ne.2 hE
            clear hE HRS HREST
            go_wp2_with (go_at_call 93; (refine (HCT.out _).mono ?_); rintro e w' ⟨rfl, hbl⟩; obtain ⟨os1, n1, rfl⟩ := below_plus hbl; clear hbl)
            (try simp only [Exit.inBlock, Exit.then])
            go_ret
            rw [HR2.out]
            exact ⟨rfl, (by repeat (first | with_reducible exact Below.refl _ _ | with_reducible refine bl_plus ?_ | with_reducible refine bl_alloc ?_ _ | with_reducible refine bl_drew ?_ | with_reducible refine bl_drewN ?_ _))⟩

end Go.Proofs.YtioppoaijehicaaGreatDoor
