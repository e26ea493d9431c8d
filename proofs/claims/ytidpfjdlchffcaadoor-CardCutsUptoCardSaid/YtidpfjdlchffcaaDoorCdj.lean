/-
  WALK: cards that are equal; the law CardCuts.
-/
import Derived.Test.YtidpfjdlchffcaaDoorCdi
set_option linter.all false
namespace Go.Proofs.YtidpfjdlchffcaaDoor
open Go.RowKit

set_option maxHeartbeats 3200000 in
set_option maxRecDepth 100000 in
theorem equalC_any (l : List CD) (A B : Option Addr) (c d b1 b2 : Nat) (w : World) (hA : OwnK 4 29 w b1 (.slice A l.length c) l.length (flatC l)) (hB : OwnK 4 29 w b2 (.slice B l.length d) l.length (flatC l)) :
    Calls Tryd.prog 6 #[.slice A l.length c, .slice B l.length d] w fun e w' => e = .returned (.bool true) ∧ Below w.heap.size w w' := by
  have hml : l.length ≤ maxLen := by
    obtain ⟨A', c', -, h1, h2, -⟩ := ownK_form hA
    exact Nat.le_trans h1 h2
  unfold maxLen at hml
  have HA := hide hA
  have HB := hide hB
  clear hA hB
  go_enter Tryd.func6, Tryd.ntmps6
  go_wp2
  go_loopw [13] (fun i9 wr => ∃ k : Nat, k ≤ l.length ∧ i9 = .int .i64 k ∧ Hid (Below w.heap.size w wr)) (fun i9 _ => l.length - (intOf i9).toNat)
  case atStart => exact ⟨0, Nat.zero_le _, rfl, hide (Below.refl _ _)⟩
  case round =>
    obtain ⟨k, hk, rfl, HW⟩ := hrel
    by_cases hlt : k < l.length
    · have ik : (k : Int) < (l.length : Int) := by omega
      obtain ⟨gA, rfl, -, hg1, x0, x1, x2, x3⟩ := cut_row (ownK_below HA.out HW.out) hlt
      obtain ⟨gB, rfl, -, hg2, y0, y1, y2, y3⟩ := cut_row (ownK_below HB.out HW.out) hlt
      generalize l[k] = g at *
      obtain ⟨gb, gn, gf, gk⟩ := g
      (try simp only at x0 x1 x2 x3 y0 y1 y2 y3)
      go_upto_region 6 with (fail)
      go_quiet (fail)
      go_wp2
      go_roundw
      case rel => exact ⟨k + 1, by omega, by go_num, hide (below_chainT HW.out (by repeat (first | with_reducible exact Below.refl _ _ | with_reducible refine bl_plus ?_ | with_reducible refine bl_alloc ?_ _ | with_reducible refine bl_drew ?_ | with_reducible refine bl_drewN ?_ _)))⟩
      case measure => simp [intOf]; omega
    · obtain rfl : k = l.length := by omega
      go_wp2
      first
        | exact ⟨rfl, HW.out⟩
        | (go_ret; exact ⟨rfl, HW.out⟩)

set_option maxHeartbeats 3200000 in
set_option maxRecDepth 100000 in
theorem cardCuts_any (s : ByteArray) (l : List BK) (A : Option Addr) (c : Nat) (w : World) (hs : s.size ≤ 1100000) (hA : BsAt w A l) (hk : ∀ b ∈ l, ∀ k ∈ b.kids, In64 k) (hc : l.length ≤ c) (hm : MaxTold w) :
    Calls Tryd.prog 3 #[.string s, .slice A l.length c] w fun e w' => e = .returned (.bool true) ∧ Below w.heap.size w w' := by
  have HM := hide hm
  have H1 := hide (fun W (hb : Below w.heap.size w W) => cards_any l A c W (hA.below hb) hk hc (maxTold_b hm hb))
  have H2 := hide (fun W (hb : Below w.heap.size w W) => cardsFor_any l A c W (hA.below hb) hk hc (maxTold_b hm hb))
  have H3 := hide (fun W (hb : Below w.heap.size w W) => cut_any s W hs (maxTold_b hm hb))
  have H4 := hide (fun W (hb : Below w.heap.size w W) => cutOf_any s W hs (maxTold_b hm hb))
  clear hA hk hc hm
  generalize cardsQ l = q at *
  generalize cutL s = p at *
  generalize baseErr l = be at *
  have e0 : (be == be) = true := by simp
  go_enter Tryd.func3, Tryd.ntmps3
  go_upto_region 2 with (go_at_call 4; refine (H1.out _ (Below.refl _ _)).mono ?_; rintro e w' ⟨A1, c1, rfl, hown, hbl⟩; have HO1 := hide hown; have HB := hide hbl; clear hown hbl)
  obtain ⟨w1, hw1⟩ : ∃ w1 : World, w1 = w' := ⟨_, rfl⟩
  subst hw1
  go_upto_region 3 with (go_at_call 5; refine (H2.out _ HB.out).mono ?_; rintro e w' ⟨A2, c2, rfl, hown, hbl⟩; have HO2 := hide (ownK_low (b2 := 0) hown (Nat.zero_le _)); have HO1' := hide (ownK_below HO1.out hbl); have HBx := hide (HB.out.trans (hbl.mono HB.out.size)); clear HB HO1 hown hbl; have HB := HBx; have HO1 := HO1'; clear HBx HO1')
  obtain ⟨w2, hw2⟩ : ∃ w2 : World, w2 = w' := ⟨_, rfl⟩
  subst hw2
  go_wp2_with (first
    | (go_at_call 7; refine (H3.out _ HB.out).mono ?_; rintro e w' ⟨A3, c3, rfl, hown, hbl⟩; have HO3 := hide (ownK_low (b2 := 0) hown (Nat.zero_le _)); have HO1' := hide (ownK_below HO1.out hbl); have HO2' := hide (ownK_below HO2.out hbl); have HBx := hide (HB.out.trans (hbl.mono HB.out.size)); clear HB HO1 HO2 hown hbl; have HB := HBx; have HO1 := HO1'; have HO2 := HO2'; clear HBx HO1' HO2')
    | (go_at_call 8; refine (H4.out _ HB.out).mono ?_; rintro e w' ⟨A4, c4, rfl, hown, hbl⟩; have HO4 := hide (ownK_low (b2 := 0) hown (Nat.zero_le _)); have HO1' := hide (ownK_below HO1.out hbl); have HO2' := hide (ownK_below HO2.out hbl); have HO3' := hide (ownK_below HO3.out hbl); have HBx := hide (HB.out.trans (hbl.mono HB.out.size)); clear HB HO1 HO2 HO3 hown hbl; have HB := HBx; have HO1 := HO1'; have HO2 := HO2'; have HO3 := HO3'; clear HBx HO1' HO2' HO3')
    | (go_at_call 6; refine (equalC_any p A3 A4 c3 c4 _ _ _ HO3.out HO4.out).mono ?_; rintro e w' ⟨rfl, hbl⟩; have HO1' := hide (ownK_below HO1.out hbl); have HO2' := hide (ownK_below HO2.out hbl); have HBx := hide (HB.out.trans (hbl.mono HB.out.size)); clear HB HO1 HO2 HO3 HO4 hbl; have HB := HBx; have HO1 := HO1'; have HO2 := HO2'; clear HBx HO1' HO2')
    | (go_at_call 6; refine (equalC_any q A1 A2 c1 c2 _ _ _ HO1.out HO2.out).mono ?_; rintro e w' ⟨rfl, hbl⟩; have HBx := hide (HB.out.trans (hbl.mono HB.out.size)); clear HB HO1 HO2 hbl; have HB := HBx; clear HBx))
  first
    | exact ⟨rfl, HB.out⟩
    | (go_ret; exact ⟨rfl, HB.out⟩)

end Go.Proofs.YtidpfjdlchffcaaDoor
