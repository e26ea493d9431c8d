/-
  WALK: is a block right by itself?
-/
import Derived.Test.YtioppoaijehicaaGreatDoorTbd
import Derived.Test.YtioppoaijehicaaGreatDoorPpb
import Derived.Maps.Own
import Derived.Maps.OwnSet
import Derived.WalkKit
set_option linter.all false
namespace Go.Proofs.YtioppoaijehicaaGreatDoor
open Go.RowKit

def restErr (b : BK) : Int := if textErr b.txt ≠ 0 then textErr b.txt else if 500 < b.kids.length then 4 else propsErr b.ps

def rngBad (i : Nat) (b : BK) : Prop := (i = 0 ∧ b.id ≠ 0) ∨ (0 < i ∧ (b.id < 1 ∨ 1000000 < b.id))

def ordBad (i : Nat) (prev : Int) (b : BK) : Prop := 0 < i ∧ b.id ≤ prev

def frmBad (i : Nat) (b : BK) : Prop := i = 0 ∧ (b.txt.size ≠ 0 ∨ 0 < b.ps.length ∨ b.par ≠ 0)

theorem blkErrs_rng {i : Nat} {prev : Int} {b : BK} (h : rngBad i b) : blkErrs i prev b = 2 := if_pos h

theorem blkErrs_ord {i : Nat} {prev : Int} {b : BK} (h : ¬ rngBad i b) (h2 : ordBad i prev b) : blkErrs i prev b = 5 := by
  unfold rngBad at h
  unfold ordBad at h2
  unfold blkErrs
  rw [if_neg h, if_pos h2]

theorem blkErrs_frm {i : Nat} {prev : Int} {b : BK} (h : ¬ rngBad i b) (h2 : ¬ ordBad i prev b) (h3 : frmBad i b) : blkErrs i prev b = 1 := by
  unfold rngBad at h
  unfold ordBad at h2
  unfold frmBad at h3
  unfold blkErrs
  rw [if_neg h, if_neg h2, if_pos h3]

theorem blkErrs_rest {i : Nat} {prev : Int} {b : BK} (h : ¬ rngBad i b) (h2 : ¬ ordBad i prev b) (h3 : ¬ frmBad i b) : blkErrs i prev b = restErr b := by
  unfold rngBad at h
  unfold ordBad at h2
  unfold frmBad at h3
  unfold blkErrs
  rw [if_neg h, if_neg h2, if_neg h3]
  rfl

theorem emp_size (s : ByteArray) : s.toList.isEmpty = decide (s.size = 0) := by
  rw [Lib.toList_data, Lib.size_eq]
  cases s.data.toList <;> simp

theorem emp_nil (s : ByteArray) : (s.toList == []) = decide (s.size = 0) := by
  rw [Lib.toList_data, Lib.size_eq]
  cases s.data.toList <;> simp

set_option maxHeartbeats 3200000 in
set_option maxRecDepth 100000 in
theorem checkBlock_any (l : List BK) (A : Option Addr) (c : Nat) (i : Nat) (hi : i < l.length) (w : World) (hA : BsAt w A l) (hn : l.length ≤ 2000) :
    Calls Tryz.prog 57 #[.slice A l.length c, .int .i64 i] w fun e w' => e = .returned (.int .i64 (blkErr l i)) ∧ Below w.heap.size w w' := by
  rw [blkErr_at hi]
  obtain ⟨b, o, A1, c1, A2, c2, rfl, hb, y0, y1, y2, y3, y4, -, hps⟩ := hA.get hi
  have HCP := hide (fun W (hb : Below w.heap.size w W) => checkProps_any l[i].ps A2 c2 W (hps.below hb))
  have HCT := hide (fun W => textCheck_any l[i].txt W)
  have HPV := hide (fun (m : Nat) (hm : i = m + 1) => (show w.cell? ⟨b, o + m * 5, none⟩ = some (.int .i64 (idAt l (i - 1))) from by
    obtain ⟨b', o', -, -, -, -, e, -, z0, -⟩ := hA.get (q := m) (by omega)
    injection e with e
    injection e with e1 e2
    subst e1 e2
    rw [z0, show i - 1 = m by omega, idAt_get (by omega)]))
  have i1 : (i : Int) < (l.length : Int) := by omega
  clear hA hps
  generalize idAt l (i - 1) = prev at *
  generalize l[i] = x at *
  generalize hR : blkErrs i prev x = R
  have H2 := hide (fun h => hR.symm.trans (blkErrs_rng (prev := prev) (b := x) (i := i) h))
  have H5 := hide (fun h h2 => hR.symm.trans (blkErrs_ord (prev := prev) (b := x) (i := i) h h2))
  have H1 := hide (fun h h2 h3 => hR.symm.trans (blkErrs_frm (prev := prev) (b := x) (i := i) h h2 h3))
  have H0 := hide (fun h h2 h3 => hR.symm.trans (blkErrs_rest (prev := prev) (b := x) (i := i) h h2 h3))
  clear hR
  unfold rngBad at H2 H5 H1 H0
  unfold ordBad at H5 H1 H0
  unfold frmBad at H1 H0
  obtain ⟨xi, xp, xk, xt, xs⟩ := x
  simp only at *
  cases i with
  | zero =>
    clear HPV
    simp only [Nat.zero_mul, Nat.add_zero] at y0 y1 y2 y3 y4
    by_cases h0 : xi = 0
    · subst h0
      by_cases hf : xt.size ≠ 0 ∨ 0 < xs.length ∨ xp ≠ 0
      · have HR := hide (H1.out (by omega) (by omega) ⟨rfl, hf⟩)
        clear H0 H1 H2 H5 HCP HCT
        by_cases hT : xt.size = 0
        · have t1 : xt.toList.isEmpty = true := by rw [emp_size]; simpa using hT
          have t2 : (xt.toList == []) = true := by rw [emp_nil]; simpa using hT
          by_cases hP : 0 < xs.length
          · have i2 : (0 : Int) < (xs.length : Int) := by omega
            clear hf hT
            go_enter Tryz.func57, Tryz.ntmps57
            go_upto_region 4 with (fail)
            go_quiet (fail)
            go_wp2
            (try simp only [Exit.inBlock, Exit.then])
            go_ret
            rw [HR.out]
            exact ⟨rfl, (by repeat (first | with_reducible exact Below.refl _ _ | with_reducible refine bl_plus ?_ | with_reducible refine bl_alloc ?_ _ | with_reducible refine bl_drew ?_ | with_reducible refine bl_drewN ?_ _))⟩
          · have i2 : ¬ (0 : Int) < (xs.length : Int) := by omega
            have i3 : (xp != 0) = true := bne_iff_ne.2 (by omega)
            have i4 : decide (0 < xs.length) = false := decide_eq_false hP
            clear hf hT
            go_enter Tryz.func57, Tryz.ntmps57
            go_upto_region 4 with (fail)
            go_quiet (fail)
            go_wp2
            (try simp only [Exit.inBlock, Exit.then])
            go_ret
            rw [HR.out]
            exact ⟨rfl, (by repeat (first | with_reducible exact Below.refl _ _ | with_reducible refine bl_plus ?_ | with_reducible refine bl_alloc ?_ _ | with_reducible refine bl_drew ?_ | with_reducible refine bl_drewN ?_ _))⟩
        · have t1 : xt.toList.isEmpty = false := by rw [emp_size]; simpa using hT
          have t2 : (xt.toList == []) = false := by rw [emp_nil]; simpa using hT
          clear hf hT
          go_enter Tryz.func57, Tryz.ntmps57
          go_upto_region 4 with (fail)
          go_quiet (fail)
          go_wp2
          (try simp only [Exit.inBlock, Exit.then])
          go_ret
          rw [HR.out]
          exact ⟨rfl, (by repeat (first | with_reducible exact Below.refl _ _ | with_reducible refine bl_plus ?_ | with_reducible refine bl_alloc ?_ _ | with_reducible refine bl_drew ?_ | with_reducible refine bl_drewN ?_ _))⟩
      · have HREST := hide (H0.out (by omega) (by omega) (fun h => hf h.2))
        have hT : xt.size = 0 := by omega
        have t1 : xt.toList.isEmpty = true := by rw [emp_size]; simpa using hT
        have t2 : (xt.toList == []) = true := by rw [emp_nil]; simpa using hT
        have i2 : ¬ (0 : Int) < (xs.length : Int) := by omega
        have i4 : decide (0 < xs.length) = false := decide_eq_false (by omega)
        obtain rfl : xp = 0 := by omega
        clear H0 H1 H2 H5 hf hT
        go_enter Tryz.func57, Tryz.ntmps57
        go_upto_region 4 with (fail)
        go_quiet (fail)
        go_upto_region 8 with (fail)
        have HRS := hide HREST.out
        unfold restErr at HRS
        simp only at HRS
        generalize textErr xt = E at *
        generalize propsErr xs = F at *
        by_cases hE : E = 0
        · subst hE
          have HR1 := hide (show R = if 500 < xk.length then 4 else F by rw [HRS.out, if_neg (by decide)])
          by_cases h5 : 500 < xk.length
          · have HR2 := hide (show R = 4 by rw [HR1.out, if_pos h5])
            have i5 : (500 : Int) < (xk.length : Int) := by omega
            clear h5 HRS HR1 HREST
            go_wp2_with (go_at_call 93; (refine (HCT.out _).mono ?_); rintro e w' ⟨rfl, hbl⟩; obtain ⟨os1, n1, rfl⟩ := below_plus hbl; clear hbl)
            (try simp only [Exit.inBlock, Exit.then])
            go_ret
            rw [HR2.out]
            exact ⟨rfl, (by repeat (first | with_reducible exact Below.refl _ _ | with_reducible refine bl_plus ?_ | with_reducible refine bl_alloc ?_ _ | with_reducible refine bl_drew ?_ | with_reducible refine bl_drewN ?_ _))⟩
          · have HR2 := hide (show R = F by rw [HR1.out, if_neg h5])
            have i5 : ¬ (500 : Int) < (xk.length : Int) := by omega
            clear h5 HRS HR1 HREST
            go_wp2_with (first | (go_at_call 93; (refine (HCT.out _).mono ?_); rintro e w' ⟨rfl, hbl⟩; obtain ⟨os1, n1, rfl⟩ := below_plus hbl; clear hbl) | (go_at_call 64; (refine (HCP.out _ (by repeat (first | with_reducible exact Below.refl _ _ | with_reducible refine bl_plus ?_ | with_reducible refine bl_alloc ?_ _ | with_reducible refine bl_drew ?_ | with_reducible refine bl_drewN ?_ _))).mono ?_); rintro e w' ⟨rfl, hbl⟩; obtain ⟨os2, n2, rfl⟩ := below_plus hbl; clear hbl))
            (try simp only [Exit.inBlock, Exit.then])
            go_ret
            rw [HR2.out]
            exact ⟨rfl, (by repeat (first | with_reducible exact Below.refl _ _ | with_reducible refine bl_plus ?_ | with_reducible refine bl_alloc ?_ _ | with_reducible refine bl_drew ?_ | with_reducible refine bl_drewN ?_ _))⟩
        · have HR2 := hide (show R = E by rw [HRS.out, if_pos hE])
          have e5 : (E != 0) = true := bne_iff_ne.2 hE
          clear hE HRS HREST
          go_wp2_with (go_at_call 93; (refine (HCT.out _).mono ?_); rintro e w' ⟨rfl, hbl⟩; obtain ⟨os1, n1, rfl⟩ := below_plus hbl; clear hbl)
          (try simp only [Exit.inBlock, Exit.then])
          go_ret
          rw [HR2.out]
          exact ⟨rfl, (by repeat (first | with_reducible exact Below.refl _ _ | with_reducible refine bl_plus ?_ | with_reducible refine bl_alloc ?_ _ | with_reducible refine bl_drew ?_ | with_reducible refine bl_drewN ?_ _))⟩
    · have HR := hide (H2.out (.inl ⟨rfl, h0⟩))
      have e0 : (xi != 0) = true := bne_iff_ne.2 h0
      clear H0 H1 H2 H5 HCP HCT h0
      go_enter Tryz.func57, Tryz.ntmps57
      go_wp2
      (try simp only [Exit.inBlock, Exit.then])
      go_ret
      rw [HR.out]
      exact ⟨rfl, (by repeat (first | with_reducible exact Below.refl _ _ | with_reducible refine bl_plus ?_ | with_reducible refine bl_alloc ?_ _ | with_reducible refine bl_drew ?_ | with_reducible refine bl_drewN ?_ _))⟩
  | succ m =>
    have y9 := HPV.out m rfl
    have im : (0 : Int) < ((m + 1 : Nat) : Int) := by omega
    have im2 : (((m + 1 : Nat) : Int) == 0) = false := beq_eq_false_iff_ne.2 (by omega)
    have im3 : IntKind.i64.wrap (((m + 1 : Nat) : Int) - 1) = (m : Int) := by rw [show ((m + 1 : Nat) : Int) - 1 = (m : Int) by omega]; exact IntWalk.i64_in _ (by omega)
    have im4 : (m : Int) < (l.length : Int) := by omega
    clear HPV
    by_cases h1 : xi < 1
    · have HR := hide (H2.out (.inr ⟨by omega, .inl h1⟩))
      clear H0 H1 H2 H5 HCP HCT
      go_enter Tryz.func57, Tryz.ntmps57
      go_wp2
      (try simp only [Exit.inBlock, Exit.then])
      go_ret
      rw [HR.out]
      exact ⟨rfl, (by repeat (first | with_reducible exact Below.refl _ _ | with_reducible refine bl_plus ?_ | with_reducible refine bl_alloc ?_ _ | with_reducible refine bl_drew ?_ | with_reducible refine bl_drewN ?_ _))⟩
    · by_cases h2 : 1000000 < xi
      · have HR := hide (H2.out (.inr ⟨by omega, .inr h2⟩))
        clear H0 H1 H2 H5 HCP HCT
        go_enter Tryz.func57, Tryz.ntmps57
        go_wp2
        (try simp only [Exit.inBlock, Exit.then])
        go_ret
        rw [HR.out]
        exact ⟨rfl, (by repeat (first | with_reducible exact Below.refl _ _ | with_reducible refine bl_plus ?_ | with_reducible refine bl_alloc ?_ _ | with_reducible refine bl_drew ?_ | with_reducible refine bl_drewN ?_ _))⟩
      · by_cases h3 : xi ≤ prev
        · have HR := hide (H5.out (by omega) ⟨by omega, h3⟩)
          clear H0 H1 H2 H5 HCP HCT
          go_enter Tryz.func57, Tryz.ntmps57
          go_upto_region 4 with (fail)
          go_quiet (fail)
          go_wp2
          (try simp only [Exit.inBlock, Exit.then])
          go_ret
          rw [HR.out]
          exact ⟨rfl, (by repeat (first | with_reducible exact Below.refl _ _ | with_reducible refine bl_plus ?_ | with_reducible refine bl_alloc ?_ _ | with_reducible refine bl_drew ?_ | with_reducible refine bl_drewN ?_ _))⟩
        · have HREST := hide (H0.out (by omega) (by omega) (by omega))
          clear H0 H1 H2 H5
          go_enter Tryz.func57, Tryz.ntmps57
          go_upto_region 4 with (fail)
          go_quiet (fail)
          go_upto_region 8 with (fail)
          have HRS := hide HREST.out
          unfold restErr at HRS
          simp only at HRS
          generalize textErr xt = E at *
          generalize propsErr xs = F at *
          by_cases hE : E = 0
          · subst hE
            have HR1 := hide (show R = if 500 < xk.length then 4 else F by rw [HRS.out, if_neg (by decide)])
            by_cases h5 : 500 < xk.length
            · have HR2 := hide (show R = 4 by rw [HR1.out, if_pos h5])
              have i5 : (500 : Int) < (xk.length : Int) := by omega
              clear h5 HRS HR1 HREST
              go_wp2_with (go_at_call 93; (refine (HCT.out _).mono ?_); rintro e w' ⟨rfl, hbl⟩; obtain ⟨os1, n1, rfl⟩ := below_plus hbl; clear hbl)
              (try simp only [Exit.inBlock, Exit.then])
              go_ret
              rw [HR2.out]
              exact ⟨rfl, (by repeat (first | with_reducible exact Below.refl _ _ | with_reducible refine bl_plus ?_ | with_reducible refine bl_alloc ?_ _ | with_reducible refine bl_drew ?_ | with_reducible refine bl_drewN ?_ _))⟩
            · have HR2 := hide (show R = F by rw [HR1.out, if_neg h5])
              have i5 : ¬ (500 : Int) < (xk.length : Int) := by omega
              clear h5 HRS HR1 HREST
              go_wp2_with (first | (go_at_call 93; (refine (HCT.out _).mono ?_); rintro e w' ⟨rfl, hbl⟩; obtain ⟨os1, n1, rfl⟩ := below_plus hbl; clear hbl) | (go_at_call 64; (refine (HCP.out _ (by repeat (first | with_reducible exact Below.refl _ _ | with_reducible refine bl_plus ?_ | with_reducible refine bl_alloc ?_ _ | with_reducible refine bl_drew ?_ | with_reducible refine bl_drewN ?_ _))).mono ?_); rintro e w' ⟨rfl, hbl⟩; obtain ⟨os2, n2, rfl⟩ := below_plus hbl; clear hbl))
              (try simp only [Exit.inBlock, Exit.then])
              go_ret
              rw [HR2.out]
              exact ⟨rfl, (by repeat (first | with_reducible exact Below.refl _ _ | with_reducible refine bl_plus ?_ | with_reducible refine bl_alloc ?_ _ | with_reducible refine bl_drew ?_ | with_reducible refine bl_drewN ?_ _))⟩
          · have HR2 := hide (show R = E by rw [HRS.out, if_pos hE])
            have e5 : (E != 0) = true := bne_iff_ne.2 hE
            clear hE HRS HREST
            go_wp2_with (go_at_call 93; (refine (HCT.out _).mono ?_); rintro e w' ⟨rfl, hbl⟩; obtain ⟨os1, n1, rfl⟩ := below_plus hbl; clear hbl)
            (try simp only [Exit.inBlock, Exit.then])
            go_ret
            rw [HR2.out]
            exact ⟨rfl, (by repeat (first | with_reducible exact Below.refl _ _ | with_reducible refine bl_plus ?_ | with_reducible refine bl_alloc ?_ _ | with_reducible refine bl_drew ?_ | with_reducible refine bl_drewN ?_ _))⟩

end Go.Proofs.YtioppoaijehicaaGreatDoor
/-
  WALK: are the kids of all blocks right?
-/
namespace Go.Proofs.YtioppoaijehicaaGreatDoor
open Go.RowKit Go.Maps Go.WideMaps

theorem lawI : Keyed Tryz.prog 3 := int_keyed Tryz.underlying3

def In64 (x : Int) : Prop := -9223372036854775808 ≤ x ∧ x ≤ 9223372036854775807

theorem In64.wf {x : Int} (h : In64 x) : (Lit.int .i64 x).wf = true := by
  unfold In64 at h
  simp only [Lit.wf, IntKind.min, IntKind.max, IntKind.signed, IntKind.bits, Bool.and_eq_true, decide_eq_true_eq, if_true]
  omega

/-- A map of numbers to words: what it says of each number. -/
structure NB (g : Nat) (W : World) (n : Nat) (D : DataW Unit) (S : Int → Bool) : Prop where
  own : World.ownsMap W Tryz.prog 3 (plainElem (H := Unit) Tryz.prog 4) g n D
  at_ : ∀ x : Int, D.atKey (.int .i64 x) (.lit (.bool false)) = .lit (.bool (S x))
section
variable {g n : Nat} {W W' : World} {D : DataW Unit} {S : Int → Bool}

theorem nb_made (W : World) (hg : g = W.heap.size) : NB g (W.alloc (.map #[] 0)) 0 (.map []) (fun _ => false) := by
  subst hg
  exact ⟨World.ownsMap_made W _ _ _, fun x => rfl⟩

theorem NB.below (h : NB g W n D S) (hb : Below W.heap.size W W') : NB g W' n D S :=
  ⟨h.own.kept (row := none) ⟨hb.os, hb.tape, hb.output, hb.size, fun k hk _ => hb.block k hk⟩ (by simp), h.at_⟩

set_option maxRecDepth 100000 in
theorem NB.look (h : NB g W n D S) {x : Int} (hx : In64 x) : (Instr.lookup 130 (.map (some g)) (.int .i64 x) false).run Tryz.prog W = .ok (.bool (S x)) W := by
  obtain ⟨v, ps, hr, hv⟩ := h.own.lookup lawI Tryz.underlying130 (Tryz.zeroValue4 W) (plainElem_bool Tryz.underlying4 false) (keyOf_int_mk Tryz.underlying3 hx.wf)
  rw [h.at_ x] at hv
  have : v = .bool (S x) := by
    unfold plainElem at hv
    rw [Tryz.underlying4] at hv
    cases v <;> simp at hv
    rw [hv.1]
  rw [hr, this]

theorem NB.put (h : NB g W n D S) {x : Int} (ho : World.ownsMap W' Tryz.prog 3 (plainElem (H := Unit) Tryz.prog 4) g (n + 1) (D.put (.int .i64 x) (.lit (.bool true)))) : NB g W' (n + 1) (D.put (.int .i64 x) (.lit (.bool true))) (fun y => S y || y == x) := by
  refine ⟨ho, fun y => ?_⟩
  by_cases e : y = x
  · subst e
    rw [atKey_put_same h.own.isMap (by trivial)]
    simp
  · rw [atKey_put_other (fun e2 => e (by injection e2)), h.at_ y]
    simp [e]

theorem NB.same {S' : Int → Bool} (h : NB g W n D S) (hs : ∀ x, S x = S' x) : NB g W n D S' := ⟨h.own, fun x => by rw [h.at_ x, hs x]⟩
end

theorem kidsErr_at {l : List BK} {q j : Nat} (hq : ∀ q', q' < q → kidsAt l q' = 0) (hql : q < l.length) (hj : ∀ j', j' < j → kidErr l l[q] j' = 0) (hjl : j < l[q].kids.length) {e : Int} (he : e ≠ 0) (h : kidErr l l[q] j = e) : kidsErr l = e := by
  have h1 : kidsAt l q = e := by
    rw [kidsAt_at hql]
    unfold kidsErrs
    rw [firstErr_first hj (by rw [h]; exact he) hjl, h]
  unfold kidsErr
  rw [firstErr_first hq (by rw [h1]; exact he) hql, h1]

theorem ints_get {w : World} {A : Option Addr} {ns : List Int} (h : IntsAt w A ns) {j : Nat} (hj : j < ns.length) : ∃ b o, A = some ⟨b, o, none⟩ ∧ b < w.heap.size ∧ w.cell? ⟨b, o + j, none⟩ = some (.int .i64 ns[j]) := by
  obtain ⟨b, o, hA, hb, hc⟩ := h (by omega)
  exact ⟨b, o, hA, hb, hc j hj⟩

theorem ix_zero {l : List BK} (I : Ids l) {k : Int} {n : Nat} (h : ixOf l k = some n) : n = 0 ↔ k = 0 := by
  obtain ⟨hn, hid⟩ := ixOf_some h
  rw [idAt_get hn] at hid
  constructor
  · intro e
    subst e
    rw [← hid, I.zero hn]
  · intro e
    have h0 := I.zero (by omega)
    exact I.inj hn (by omega) (by omega)

set_option maxHeartbeats 3200000 in
set_option maxRecDepth 100000 in
theorem checkKids_any (l : List BK) (A : Option Addr) (c : Nat) (w : World) (hA : BsAt w A l) (I : Ids l) (hn : l.length ≤ 2000) (h5 : ∀ b ∈ l, b.kids.length ≤ 500) (hk : ∀ b ∈ l, ∀ k ∈ b.kids, In64 k) :
    Calls Tryz.prog 58 #[.slice A l.length c] w fun e w' => e = .returned (.int .i64 (kidsErr l)) ∧ Below w.heap.size w w' := by
  have hmm := @run_makeMap Tryz.prog
  have HA := hide hA
  have HI := hide I
  have HN := hide hn
  have H5 := hide h5
  have HK := hide hk
  clear hA I h5 hk
  go_enter Tryz.func58, Tryz.ntmps58
  go_wp2
  go_loopw [11] (fun i wr => ∃ (q : Nat), q ≤ l.length ∧ i = .int .i64 q ∧ Hid (∀ q', q' < q → kidsAt l q' = 0) ∧ Hid (Below w.heap.size w wr)) (fun i _ => l.length - (intOf i).toNat)
  case atStart => exact ⟨0, Nat.zero_le _, rfl, hide (fun q hq => absurd hq (by omega)), hide (by repeat (first | with_reducible exact Below.refl _ _ | with_reducible refine bl_plus ?_ | with_reducible refine bl_alloc ?_ _ | with_reducible refine bl_drew ?_ | with_reducible refine bl_drewN ?_ _))⟩
  case round =>
    obtain ⟨q, hq, rfl, HQ, HBW⟩ := hrel
    obtain ⟨WB, hWB⟩ : ∃ WB : World, WB = wr := ⟨_, rfl⟩
    subst hWB
    by_cases hlq : q < l.length
    · obtain ⟨b, o, A1, c1, A2, c2, rfl, hb, y0, y1, y2, y3, y4, hks, -⟩ := (HA.out.below HBW.out).get hlq
      have iq : (q : Int) < (l.length : Int) := by omega
      have HL5 := hide (H5.out l[q] (List.getElem_mem hlq))
      have HK64 := hide (HK.out l[q] (List.getElem_mem hlq))
      have HQE := hide (fun (j : Nat) (hj : ∀ j', j' < j → kidErr l l[q] j' = 0) (hjl : j < l[q].kids.length) (e : Int) (he : e ≠ 0) (h : kidErr l l[q] j = e) => kidsErr_at HQ.out hlq hj hjl he h)
      have HQZ := hide (fun (h : ∀ j', j' < l[q].kids.length → kidErr l l[q] j' = 0) => (show kidsAt l q = 0 by rw [kidsAt_at hlq]; exact firstErr_none h))
      have HKS := hide hks
      clear hks
      generalize l[q] = x at *
      obtain ⟨xi, xp, xk, xt, xs⟩ := x
      simp only at *
      go_wp2
      have HWS := hide (show w.heap.size ≤ WB.heap.size from HBW.out.size)
      go_loopw [19] (fun i wr => ∃ (j n : Nat) (D : DataW Unit), j ≤ xk.length ∧ i = .int .i64 j ∧ Hid (NB (WB.heap.size + 1) wr n D (fun y => decide (y ∈ xk.take j))) ∧ n ≤ j ∧ Hid (Blk wr WB.heap.size 82 #[.int .i64 xi, .int .i64 xp, .slice A1 xk.length c1, .string xt, .slice A2 xs.length c2]) ∧ Hid (Below WB.heap.size WB wr) ∧ Hid (∀ j', j' < j → kidErr l (.mk xi xp xk xt xs) j' = 0)) (fun i _ => xk.length - (intOf i).toNat)
      case atStart => exact ⟨0, 0, _, Nat.zero_le _, rfl, hide ((nb_made (WB.alloc (.cells #[.int .i64 xi, .int .i64 xp, .slice A1 xk.length c1, .string xt, .slice A2 xs.length c2] 82)) (by rw [World.size_alloc])).same (fun x => by simp)), Nat.le_refl _, hide ((Blk.new WB 82 #[.int .i64 xi, .int .i64 xp, .slice A1 xk.length c1, .string xt, .slice A2 xs.length c2]).alloc _), hide (by repeat (first | with_reducible exact Below.refl _ _ | with_reducible refine bl_plus ?_ | with_reducible refine bl_alloc ?_ _ | with_reducible refine bl_drew ?_ | with_reducible refine bl_drewN ?_ _)), hide (fun j hj => absurd hj (by omega))⟩
      case round =>
        obtain ⟨j, n, D, hj, rfl, HNB, hnj, HBX, HBB, HJ⟩ := hrel
        have HB := hide (below_chainT HBW.out HBB.out)
        by_cases hlt : j < xk.length
        · obtain ⟨b2, o2, rfl, hb2, z0⟩ := ints_get (HKS.out.below HBB.out) hlt
          have i1 : (j : Int) < (xk.length : Int) := by omega
          have i5 : xk.length ≤ 500 := HL5.out
          have hn9 : n < maxLen := by unfold maxLen; omega
          have b0 := HBX.out.cell 0
          simp only [List.getElem?_toArray, List.getElem?_cons_zero] at b0
          have hbl := HBX.out.lt
          have h64 := HK64.out xk[j] (List.getElem_mem hlt)
          have hkey : keyOf Tryz.prog 3 (.int .i64 xk[j]) = some (.int .i64 xk[j]) := keyOf_int_mk Tryz.underlying3 h64.wf
          have HIX := hide (fun W (hb : Below wr.heap.size wr W) => index_any l _ c xk[j] W (HA.out.below (below_chainT HB.out hb)) HI.out HN.out h64)
          have HER := hide (fun (e : Int) (he : e ≠ 0) (h : kidErr l (.mk xi xp xk xt xs) j = e) => HQE.out j HJ.out hlt e he h)
          have HKE := hide (kidErr_at (l := l) (b := .mk xi xp xk xt xs) hlt)
          have HTK := hide (fun y => (show decide (y ∈ xk.take (j + 1)) = (decide (y ∈ xk.take j) || y == xk[j]) by
            rw [List.take_succ_eq_append_getElem hlt]
            simp only [List.mem_append, List.mem_singleton, Bool.decide_or]
            rfl))
          simp only at HKE
          generalize hkj : xk[j] = k at *
          clear hkj
          cases hx : ixOf l k with
          | none =>
            have HR := hide (HER.out 7 (by decide) (by rw [HKE.out]; unfold kidErrs; rw [hx]))
            have HI7 := hide (show ixI l k = -1 by unfold ixI; rw [hx])
            rw [HI7.out] at HIX
            clear HER HKE HTK hx
            go_wp2_with (go_at_call 94; (refine (HIX.out _ (by repeat (first | with_reducible exact Below.refl _ _ | with_reducible refine bl_plus ?_ | with_reducible refine bl_alloc ?_ _ | with_reducible refine bl_drew ?_ | with_reducible refine bl_drewN ?_ _))).mono ?_); rintro e w' ⟨rfl, hbl⟩; obtain ⟨os1, n1, rfl⟩ := below_plus hbl; clear hbl)
            (try simp only [Exit.inBlock, Exit.then])
            go_ret
            rw [HR.out]
            exact ⟨rfl, below_chainT HB.out (by repeat (first | with_reducible exact Below.refl _ _ | with_reducible refine bl_plus ?_ | with_reducible refine bl_alloc ?_ _ | with_reducible refine bl_drew ?_ | with_reducible refine bl_drewN ?_ _))⟩
          | some m =>
            have HI7 := hide (show ixI l k = m by unfold ixI; rw [hx])
            rw [HI7.out] at HIX
            obtain ⟨hm, hid⟩ := ixOf_some hx
            have hz := ix_zero HI.out hx
            have HKE2 := hide (show kidErr l (.mk xi xp xk xt xs) j = if parAt l m ≠ xi ∨ m = 0 then 1 else if k ∈ xk.take j then 6 else 0 by rw [HKE.out]; unfold kidErrs; rw [hx])
            obtain ⟨b3, o3, A3, c3, A4, c4, e3, hb3, q0, q1, q2, q3, q4, -, -⟩ := (HA.out.below HB.out).get hm
            obtain ⟨rfl, rfl⟩ : b = b3 ∧ o = o3 := by injection e3 with e3; injection e3 with e4 e5; exact ⟨e4, e5⟩
            clear e3
            have im : (m : Int) < (l.length : Int) := by omega
            rw [parAt_get hm] at HKE2
            clear hx HKE hid
            generalize l[m].id = qi at *
            generalize l[m].kids = qk at *
            generalize l[m].txt = qt at *
            generalize l[m].ps = qs at *
            generalize l[m].par = pm at *
            clear hm
            by_cases hbad : pm ≠ xi ∨ m = 0
            · have HR := hide (HER.out 1 (by decide) (by rw [HKE2.out, if_pos hbad]))
              clear HER HKE2 HTK
              by_cases hp : pm = xi
              · have e1 : (pm != xi) = false := by simp [hp]
                have e2 : (k == 0) = true := by simp; omega
                clear hbad hp hz
                go_upto_region 11 with (go_at_call 94; (refine (HIX.out _ (by repeat (first | with_reducible exact Below.refl _ _ | with_reducible refine bl_plus ?_ | with_reducible refine bl_alloc ?_ _ | with_reducible refine bl_drew ?_ | with_reducible refine bl_drewN ?_ _))).mono ?_); rintro e w' ⟨rfl, hbl⟩; obtain ⟨os1, n1, rfl⟩ := below_plus hbl; clear hbl)
                go_quiet (fail)
                go_wp2
                (try simp only [Exit.inBlock, Exit.then])
                go_ret
                rw [HR.out]
                exact ⟨rfl, below_chainT HB.out (by repeat (first | with_reducible exact Below.refl _ _ | with_reducible refine bl_plus ?_ | with_reducible refine bl_alloc ?_ _ | with_reducible refine bl_drew ?_ | with_reducible refine bl_drewN ?_ _))⟩
              · have e1 : (pm != xi) = true := by simp [hp]
                clear hbad hp hz
                go_upto_region 11 with (go_at_call 94; (refine (HIX.out _ (by repeat (first | with_reducible exact Below.refl _ _ | with_reducible refine bl_plus ?_ | with_reducible refine bl_alloc ?_ _ | with_reducible refine bl_drew ?_ | with_reducible refine bl_drewN ?_ _))).mono ?_); rintro e w' ⟨rfl, hbl⟩; obtain ⟨os1, n1, rfl⟩ := below_plus hbl; clear hbl)
                go_quiet (fail)
                go_wp2
                (try simp only [Exit.inBlock, Exit.then])
                go_ret
                rw [HR.out]
                exact ⟨rfl, below_chainT HB.out (by repeat (first | with_reducible exact Below.refl _ _ | with_reducible refine bl_plus ?_ | with_reducible refine bl_alloc ?_ _ | with_reducible refine bl_drew ?_ | with_reducible refine bl_drewN ?_ _))⟩
            · have e1 : (pm != xi) = false := by simp; omega
              have e2 : (k == 0) = false := by simp; omega
              by_cases htw : k ∈ xk.take j
              · have HR := hide (HER.out 6 (by decide) (by rw [HKE2.out, if_neg hbad, if_pos htw]))
                have HLK := hide (fun W (hb : Below wr.heap.size wr W) => (by have := (HNB.out.below hb).look h64; rw [decide_eq_true htw] at this; exact this : (Instr.lookup 130 (.map (some (WB.heap.size + 1))) (.int .i64 k) false).run Tryz.prog W = .ok (.bool true) W))
                clear HER HKE2 HTK hbad hz htw
                go_upto_region 11 with (go_at_call 94; (refine (HIX.out _ (by repeat (first | with_reducible exact Below.refl _ _ | with_reducible refine bl_plus ?_ | with_reducible refine bl_alloc ?_ _ | with_reducible refine bl_drew ?_ | with_reducible refine bl_drewN ?_ _))).mono ?_); rintro e w' ⟨rfl, hbl⟩; obtain ⟨os1, n1, rfl⟩ := below_plus hbl; clear hbl)
                go_quiet (fail)
                have hlook := HLK.out _ (show Below wr.heap.size wr (World.drewN (plus wr os1 n1) nq) from (by repeat (first | with_reducible exact Below.refl _ _ | with_reducible refine bl_plus ?_ | with_reducible refine bl_alloc ?_ _ | with_reducible refine bl_drew ?_ | with_reducible refine bl_drewN ?_ _)))
                go_wp2
                (try simp only [Exit.inBlock, Exit.then])
                go_ret
                rw [HR.out]
                exact ⟨rfl, below_chainT HB.out (by repeat (first | with_reducible exact Below.refl _ _ | with_reducible refine bl_plus ?_ | with_reducible refine bl_alloc ?_ _ | with_reducible refine bl_drew ?_ | with_reducible refine bl_drewN ?_ _))⟩
              · have HR := hide (show kidErr l (.mk xi xp xk xt xs) j = 0 by rw [HKE2.out, if_neg hbad, if_neg htw])
                have HLK := hide (fun W (hb : Below wr.heap.size wr W) => (by have := (HNB.out.below hb).look h64; rw [decide_eq_false htw] at this; exact this : (Instr.lookup 130 (.map (some (WB.heap.size + 1))) (.int .i64 k) false).run Tryz.prog W = .ok (.bool false) W))
                clear HER HKE2 hbad hz htw
                go_upto_region 11 with (go_at_call 94; (refine (HIX.out _ (by repeat (first | with_reducible exact Below.refl _ _ | with_reducible refine bl_plus ?_ | with_reducible refine bl_alloc ?_ _ | with_reducible refine bl_drew ?_ | with_reducible refine bl_drewN ?_ _))).mono ?_); rintro e w' ⟨rfl, hbl⟩; obtain ⟨os1, n1, rfl⟩ := below_plus hbl; clear hbl)
                go_quiet (fail)
                have hlook := HLK.out _ (show Below wr.heap.size wr (World.drewN (plus wr os1 n1) nq) from (by repeat (first | with_reducible exact Below.refl _ _ | with_reducible refine bl_plus ?_ | with_reducible refine bl_alloc ?_ _ | with_reducible refine bl_drew ?_ | with_reducible refine bl_drewN ?_ _)))
                go_wp2_with (at_mapUpdate; refine wpList_mapUpdate_own _ rfl _ _ _ 130 rfl 3 4 lawI Tryz.underlying130 _ (WB.heap.size + 1) n D rfl (HNB.out.below (by repeat (first | with_reducible exact Below.refl _ _ | with_reducible refine bl_plus ?_ | with_reducible refine bl_alloc ?_ _ | with_reducible refine bl_drew ?_ | with_reducible refine bl_drewN ?_ _))).own hn9 _ _ _ rfl rfl hkey _ [] (plainElem_bool Tryz.underlying4 true) ?_; intro w1 hown1 hgr1; have HNB3 := hide (HNB.out.put hown1); have HBX3 := hide ((HBX.out.below (by repeat (first | with_reducible exact Below.refl _ _ | with_reducible refine bl_plus ?_ | with_reducible refine bl_alloc ?_ _ | with_reducible refine bl_drew ?_ | with_reducible refine bl_drewN ?_ _)) HBX.out.lt).grown hgr1 (by simp)); have HB3 := hide ((below_chainT HBB.out (show Below wr.heap.size wr (World.drewN (plus wr os1 n1) nq) from (by repeat (first | with_reducible exact Below.refl _ _ | with_reducible refine bl_plus ?_ | with_reducible refine bl_alloc ?_ _ | with_reducible refine bl_drew ?_ | with_reducible refine bl_drewN ?_ _)))).grown hgr1 (show WB.heap.size ≤ (plus wr os1 n1).heap.size from by rw [plus_size]; have := HBB.out.size; omega) (fun k hk => by injection hk with hk; omega)); clear hown1 hgr1)
                go_roundw
                case rel => exact ⟨j + 1, n + 1, _, hlt, by go_num, hide (HNB3.out.same (fun y => (HTK.out y).symm)), by omega, HBX3, HB3, hide (fun j' hj' => by
                  by_cases e : j' = j
                  · subst e; exact HR.out
                  · exact HJ.out j' (by omega))⟩
                case measure => simp [intOf]; omega
        · obtain rfl : j = xk.length := by omega
          have HR := hide (HQZ.out HJ.out)
          go_wp2
          go_roundw
          case rel => exact ⟨q + 1, hlq, by go_num, hide (fun q' hq' => by
            by_cases e : q' = q
            · subst e; exact HR.out
            · exact HQ.out q' (by omega)), hide (below_chainT HB.out (by repeat (first | with_reducible exact Below.refl _ _ | with_reducible refine bl_plus ?_ | with_reducible refine bl_alloc ?_ _ | with_reducible refine bl_drew ?_ | with_reducible refine bl_drewN ?_ _)))⟩
          case measure => simp [intOf]; omega
    · obtain rfl : q = l.length := by omega
      have HR := hide (show kidsErr l = 0 from firstErr_none HQ.out)
      go_wp2
      go_ret
      rw [HR.out]
      exact ⟨rfl, HBW.out⟩

end Go.Proofs.YtioppoaijehicaaGreatDoor
