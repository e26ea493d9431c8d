/-
  WALK: the cards of a base, in the reference.
-/
import Derived.Test.YtidpfjdlchffcaaDoorCdh
set_option linter.all false
namespace Go.Proofs.YtidpfjdlchffcaaDoor
open Go.RowKit

set_option maxHeartbeats 3200000 in
set_option maxRecDepth 100000 in
theorem cardsFor_any (l : List BK) (A : Option Addr) (c : Nat) (w : World) (hA : BsAt w A l) (hk : ∀ b ∈ l, ∀ k ∈ b.kids, In64 k) (hc : l.length ≤ c) (hm : MaxTold w) :
    Calls Tryd.prog 5 #[.slice A l.length c] w fun e w' => ∃ A c, e = Ending.returned (.tuple #[.slice A (cardsQ l).length c, .int .i64 (baseErr l)]) ∧ OwnK 4 29 w' w.heap.size (.slice A (cardsQ l).length c) (cardsQ l).length (flatC (cardsQ l)) ∧ Below w.heap.size w w' := by
  have HPO : Hid (∀ A c w', OwnK 4 29 w' w.heap.size (.slice A (cardsQ l).length c) (cardsQ l).length (flatC (cardsQ l)) → Below w.heap.size w w' → (fun e w' => ∃ A c, e = Ending.returned (.tuple #[.slice A (cardsQ l).length c, .int .i64 (baseErr l)]) ∧ OwnK 4 29 w' w.heap.size (.slice A (cardsQ l).length c) (cardsQ l).length (flatC (cardsQ l)) ∧ Below w.heap.size w w') (.returned (.tuple #[.slice A (cardsQ l).length c, .int .i64 (baseErr l)])) w') := hide fun A c w' h1 h2 => ⟨A, c, rfl, h1, h2⟩
  generalize (fun e w' => ∃ A c, e = Ending.returned (.tuple #[.slice A (cardsQ l).length c, .int .i64 (baseErr l)]) ∧ OwnK 4 29 w' w.heap.size (.slice A (cardsQ l).length c) (cardsQ l).length (flatC (cardsQ l)) ∧ Below w.heap.size w w') = PO at *
  have HCK := hide (baseError_any l A c w hA)
  have HA := hide hA
  have HM := hide hm
  have hml := hA.1
  unfold maxLen at hml
  clear hA hk hm
  by_cases h0 : baseErr l = 0
  · obtain ⟨hl0, hl2, HI, HX⟩ := base_ok h0
    have HI := hide HI
    have HX := hide HX
    have HQ := hide (show cardsQ l = l.flatMap cardsZ by unfold cardsQ; rw [if_pos h0])
    rw [h0] at HPO HCK
    clear h0
    go_enter Tryd.func5, Tryd.ntmps5
    go_upto_region 4 with (go_at_call 11; refine HCK.out.mono ?_; rintro e w' ⟨rfl, hbl⟩; have HB := hide hbl; clear hbl; generalize w' = WB at *)
    clear HCK
    have HAB := hide (fun W (hb : Below WB.heap.size WB W) (q : Nat) (hq : q < l.length) => HA.out.getC (HB.out.trans (hb.mono HB.out.size)) hq)
    obtain ⟨iC, hiP, hzP0, hzP1, hzP2⟩ := info_parts info_cardC
    have HIC := hide (And.intro hiP (And.intro hzP0 (And.intro hzP1 hzP2)))
    clear hiP hzP0 hzP1 hzP2
    have HST := hide (show ([] : List CD) = (l.take (0 + 1)).flatMap cardsZ from by rw [take_cards hl0, cardsZ_none (.inl (HI.out.zero hl0))]; rfl)
    obtain ⟨b, o, A1, c1, A2, c2, rfl, -, -⟩ := HAB.out WB (Below.refl _ _) 0 hl0
    obtain ⟨N, hN⟩ : ∃ N, l.length = N + 1 := ⟨l.length - 1, by omega⟩
    rw [hN] at hml hl2 hc ⊢
    have i1 : (N : Int) ≤ 2000 := by omega
    by_cases hc1 : c = 1
    · subst hc1
      obtain rfl : N = 0 := by omega
      go_wp2
      have HZ := hide (HPO.out none 0 WB)
      rw [show cardsQ l = [] from by rw [HQ.out, HST.out, ← hN, List.take_length]] at HZ
      go_loopw [5, 18] (fun l5 i9 wr => i9 = .int .i64 0 ∧ l5 = .slice none 0 0 ∧ wr = WB) (fun _ _ _ => 0)
      case atStart => exact ⟨rfl, rfl, rfl⟩
      case round =>
        obtain ⟨rfl, rfl, rfl⟩ := hrel
        go_wp2
        (first | exact HZ.out OwnK.empty HB.out | (go_returns; exact HZ.out OwnK.empty HB.out))
    · have ic : ¬ (c : Int) = 1 := by omega
      have ic2 : (N : Int) + 1 ≤ (c : Int) := by omega
      go_wp2
      go_loopw [5, 18] (fun l5 i9 wr => ∃ (k : Nat) (A8 : Option Addr) (c8 : Nat) (acc : List CD), k ≤ N ∧ i9 = .int .i64 k ∧ l5 = .slice A8 acc.length c8 ∧ Hid (acc = (l.take (k + 1)).flatMap cardsZ) ∧ Hid (OwnK 4 29 wr WB.heap.size (.slice A8 acc.length c8) acc.length (flatC acc)) ∧ Hid (Below WB.heap.size WB wr) ∧ Hid (acc.length ≤ 20 * k)) (fun _ i9 _ => N - (intOf i9).toNat)
      case atStart => exact ⟨0, none, 0, [], Nat.zero_le _, rfl, rfl, hide HST.out, hide OwnK.empty, hide (by repeat (first | with_reducible exact Below.refl _ _ | with_reducible refine bl_plus ?_ | with_reducible refine bl_alloc ?_ _ | with_reducible refine bl_drew ?_ | with_reducible refine bl_drewN ?_ _)), hide (Nat.le_refl _)⟩
      case round =>
        obtain ⟨k, A8, c8, acc, hk, rfl, rfl, HAE, HOW, HBW, HLN⟩ := hrel
        obtain ⟨W0, hW0⟩ : ∃ W0 : World, W0 = wr := ⟨_, rfl⟩
        subst hW0
        by_cases hlt : k < N
        · have ik : (k : Int) < (N : Int) := by omega
          have hq : k + 1 < l.length := by omega
          obtain ⟨b', o', A1, c1, A2, c2, hAe, hlt2, y0, y1, y2, y3, y4, -, -, -⟩ := HAB.out W0 HBW.out (k + 1) hq
          obtain ⟨rfl, rfl⟩ : b = b' ∧ o = o' := by injection hAe with hAe; injection hAe with e1 e2; exact ⟨e1, e2⟩
          rw [show o + (k + 1) * 5 = o + 5 + k * 5 by omega] at y0 y1 y2 y3 y4
          have HTK := hide (take_cards hq)
          have HXT := hide (HX.out l[k + 1] (List.getElem_mem hq))
          have HZN := hide (fun (h : l[k + 1].id = 0 ∨ l[k + 1].par = 0) => cardsZ_none h)
          have HZS := hide (fun (h : l[k + 1].id ≠ 0) (h2 : l[k + 1].par ≠ 0) => cardsZ_some h h2)
          have HID := hide (show l[k + 1].id ≠ 0 from (by have := HI.out.pos (k + 1) (by omega) hq; omega))
          generalize hlq : l[k + 1] = x at *
          obtain ⟨xi, xp, xk, xt, xs⟩ := x
          (try simp only at y0 y1 y2 y3 y4 HXT HZN HZS HID)
          clear hlq
          go_upto_region 8 with (fail)
          have HXB := hide (Blk.new W0 36 #[.int .i64 xi, .int .i64 xp, .slice A1 xk.length c1, .string xt, .slice A2 xs.length c2])
          have HBW1 := hide (bl_alloc HBW.out (.cells #[.int .i64 xi, .int .i64 xp, .slice A1 xk.length c1, .string xt, .slice A2 xs.length c2] 36))
          have HOW1 := hide (ownK_alloc HOW.out (.cells #[.int .i64 xi, .int .i64 xp, .slice A1 xk.length c1, .string xt, .slice A2 xs.length c2] 36))
          have HL1 := hide HXB.out.lt
          clear y0 y1 y2 y3 y4
          obtain ⟨x0, x1, x2, x3, x4, xl⟩ := blk5c HXB.out
          generalize (W0.alloc (.cells #[.int .i64 xi, .int .i64 xp, .slice A1 xk.length c1, .string xt, .slice A2 xs.length c2] 36)) = W1 at *
          have hi := HID.out
          by_cases hp : xp = 0
          · have e2 : (xp == 0) = true := by simp [hp]
            have HZ0 := hide (HZN.out (.inr hp))
            clear HZN HZS hi hp
            have HAN := hide (show acc = (l.take (k + 1 + 1)).flatMap cardsZ from by rw [HTK.out, HAE.out, HZ0.out, List.append_nil])
            go_wp2
            go_roundw
            case rel => exact ⟨k + 1, A8, c8, acc, by omega, by go_num, rfl, HAN, HOW1, HBW1, hide (by have := HLN.out; omega)⟩
            case measure => simp [intOf]; omega
          · have e2 : (xp == 0) = false := by simp [hp]
            have HZ0 := hide (HZS.out hi hp)
            have HCT := hide (cutOf_any xt W1 (by have := HXT.out; omega) (maxTold_b HM.out (HB.out.trans (HBW1.out.mono HB.out.size))))
            have HCL := hide (cutL_le xt)
            clear HZN HZS HXT hi hp
            go_upto_region 10 with (go_at_call 8; refine HCT.out.mono ?_; rintro e w' ⟨A3, c3, rfl, hown, hbl⟩; have HCC := hide hown; have HBC := hide hbl; clear hown hbl)
            obtain ⟨WC, hWC⟩ : ∃ WC : World, WC = w' := ⟨_, rfl⟩
            subst hWC
            obtain ⟨cs, hcs⟩ : ∃ cs, cs = cutL xt := ⟨_, rfl⟩
            rw [← hcs] at HCC HCL HZ0 ⊢
            clear HCT hcs
            have HL2 := hide HBC.out.size
            have HOWC := hide (ownK_below HOW1.out HBC.out)
            have HBWC := hide (HBW1.out.trans (HBC.out.mono HBW1.out.size))
            have HXC := hide (show Blk WC W0.heap.size 36 #[.int .i64 xi, .int .i64 xp, .slice A1 xk.length c1, .string xt, .slice A2 xs.length c2] from HXB.out.below HBC.out HL1.out)
            clear x0 x1 x2 x3 x4 xl HXB HOW1 HBW1 HBC
            have hc20 : (cs.length : Int) ≤ 20 := by have := HCL.out; omega
            go_loopw [5, 29] (fun l5 j9 w4 => ∃ (t : Nat) (A9 : Option Addr) (c9 : Nat) (ac : List CD), t ≤ cs.length ∧ j9 = .int .i64 t ∧ l5 = .slice A9 ac.length c9 ∧ Hid (ac = acc ++ (cs.take t).map (putB xi)) ∧ Hid (OwnK 4 29 w4 WB.heap.size (.slice A9 ac.length c9) ac.length (flatC ac)) ∧ Hid (KeptIn W0.heap.size WC.heap.size WC w4) ∧ Hid (∀ g, (Value.slice A9 ac.length c9).ownBlock = some g → g < W0.heap.size ∨ WC.heap.size ≤ g) ∧ Hid (Below WB.heap.size WB w4) ∧ Hid (WC.heap.size ≤ w4.heap.size)) (fun _ j9 _ => cs.length - (intOf j9).toNat)
            case atStart => exact ⟨0, A8, c8, acc, Nat.zero_le _, rfl, rfl, hide (by simp), HOWC, hide KeptIn.refl, hide (fun g hg => .inl (HOW.out.lt g hg).2), HBWC, hide (Nat.le_refl _)⟩
            case round =>
              obtain ⟨t, A9, c9, ac, ht, rfl, rfl, HAC, HOA, HKI, HNB, HBA, HSA⟩ := hrel
              by_cases htl : t < cs.length
              · have it : (t : Int) < (cs.length : Int) := by omega
                have HCK := hide (HCC.out.kept (w' := wr) (fun g hg => HKI.out g (by have := (HCC.out.lt g hg).1; have := HL1.out; omega) (HCC.out.lt g hg).2))
                obtain ⟨gc, rfl, hg1, hg2, y0, y1, y2, y3⟩ := cut_row HCK.out htl
                have hbx : Blk wr W0.heap.size 36 _ := (HKI.out W0.heap.size (Nat.le_refl _) (by have := HL1.out; have := HL2.out; omega)).trans HXC.out
                have HBX := hide hbx
                obtain ⟨b0, b1, b2, b3, b4, bl⟩ := blk5c hbx
                have HTP := hide (show acc ++ (cs.take (t + 1)).map (putB xi) = ac ++ [putB xi cs[t]] from by rw [take_put htl, HAC.out, List.append_assoc])
                have HLC := hide (show ac.length ≤ 20 * k + 20 by rw [HAC.out, List.length_append, List.length_map, List.length_take]; have := HLN.out; have := HCL.out; omega)
                have HBG := hide (show (ac.length + 1) * iC.bytes ≤ 140737488355328 ∧ ac.length + 1 ≤ 140737488355328 by have h9 := HIC.out.2.2.2; rw [h9]; have := HLC.out; omega)
                have HPB := hide (show (putB xi cs[t]).cells = [.int .i64 xi, .int .i64 cs[t].n, .string cs[t].f, .string cs[t].k] from rfl)
                have HLA := hide (show (ac ++ [putB xi cs[t]]).length = ac.length + 1 by simp)
                clear hbx HAC
                generalize cs[t] = cd at *
                obtain ⟨cb, cn, cf, ck⟩ := cd
                (try simp only at y0 y1 y2 y3 HPB)
                go_upto_region 12 with (fail)
                have HBK := hide (Blk.new wr 29 #[.int .i64 cb, .int .i64 cn, .string cf, .string ck])
                have HB1 := hide (bl_alloc (Below.refl wr.heap.size wr) (.cells #[.int .i64 cb, .int .i64 cn, .string cf, .string ck] 29))
                have HBX1 := hide (HBX.out.alloc (.cells #[.int .i64 cb, .int .i64 cn, .string cf, .string ck] 29))
                have hgn : W0.heap.size < wr.heap.size := by have := HSA.out; have := HL1.out; have := HL2.out; omega
                have HW1 := hide HBK.out.lt
                clear b0 b1 b2 b3 b4 bl y0 y1 y2 y3
                obtain ⟨b0, b1, b2, b3, b4, bl⟩ := blk5c HBX1.out
                obtain ⟨v0, v1, v2, v3, z2, z3, vl⟩ := blk4 HBK.out
                have z0 := HBK.out.frozen 0
                obtain ⟨gG, hgG⟩ : ∃ g, g = wr.heap.size := ⟨_, rfl⟩
                have HGG := hide hgG
                rw [← hgG] at v0 v1 v2 v3 z0 z2 z3 vl HBK hgn
                generalize hWn : (wr.alloc (.cells #[.int .i64 cb, .int .i64 cn, .string cf, .string ck] 29)) = W1 at *
                rw [← hgG]
                clear hWn hgG
                go_upto_region 13 with (fail)
                have HBK2 := hide (show Blk (W1.setCell ⟨gG, 0, none⟩ (.int .i64 xi)) gG 29 #[.int .i64 xi, .int .i64 cn, .string cf, .string ck] from HBK.out.set_ 0 (.int .i64 xi))
                have HB2 := hide (HB1.out.setCell (p := ⟨gG, 0, none⟩) (Nat.le_of_eq HGG.out.symm) (.int .i64 xi))
                clear b0 b1 b2 b3 b4 bl v0 v1 v2 v3 z0 z2 z3 vl HBK HBX1 HB1
                generalize (W1.setCell ⟨gG, 0, none⟩ (.int .i64 xi)) = W2 at *
                obtain ⟨v0, v1, v2, v3, z2, z3, vl⟩ := blk4 HBK2.out
                have HOA2 := hide (ownK_below HOA.out HB2.out)
                have HKI2 := hide (HKI.out.below HB2.out HSA.out)
                have HBA2 := hide (HBA.out.trans (HB2.out.mono HBA.out.size))
                have HS2 := hide HBA2.out.size
                have HSC2 := hide (Nat.le_trans HSA.out HB2.out.size)
                clear HOA HKI HBA HB2
                go_upto_region 14 with (at_builtin; refine wpList_append_b rfl (.tmp 36) (.tmp 38) rfl rfl Tryd.underlying23 HIC.out.1 HIC.out.2.1 HIC.out.2.2.1 (by decide) rfl (by have := HIC.out.2.2.2; omega) WB.heap.size ac.length (.slice A9 ac.length c9) (flatC ac) [.int .i64 xi, .int .i64 cn, .string cf, .string ck] _ rfl (ownK_alloc HOA2.out _) rfl (by intro u hu; simp only [List.mem_cons, List.not_mem_nil, or_false] at hu; rcases hu with rfl | rfl | rfl | rfl <;> rfl) rfl (newN_cells (cs := [.int .i64 xi, .int .i64 cn, .string cf, .string ck]) rfl) HBG.out (by rw [World.size_alloc]; have := HS2.out; omega) ?_; intro v' w8 hown8 hgr8 hfr8; obtain ⟨A7, c7, rfl, _⟩ := ownK_form hown8; have HB8 := hide ((bl_alloc HBA2.out (.cells #[.int .i64 xi, .int .i64 cn, .string cf, .string ck] 29)).grown hgr8 (by rw [World.size_alloc]; have := HS2.out; omega) (fun k9 hk9 => (HOA2.out.lt k9 hk9).1)); have HKI8 := hide ((HKI2.out.below (bl_alloc (Below.refl W2.heap.size W2) (.cells #[.int .i64 xi, .int .i64 cn, .string cf, .string ck] 29)) HSC2.out).grown hgr8 (by rw [World.size_alloc]; have := HSC2.out; omega) HNB.out); have HNB8 := hide (show ∀ g, (Value.slice A7 (ac.length + 1) c7).ownBlock = some g → g < W0.heap.size ∨ WC.heap.size ≤ g from nb_next HNB.out hfr8 (by rw [World.size_alloc]; have := HSC2.out; omega)); have HSA8 := hide (show WC.heap.size ≤ w8.heap.size from Nat.le_trans (by rw [World.size_alloc]; have := HSC2.out; omega) hgr8.size); rw [← HLA.out, ← HPB.out, ← flatC_snoc] at hown8; rw [← HLA.out] at HNB8; have HOW8 := hide hown8; clear hown8 hgr8 hfr8)
                go_wp2
                go_roundw
                case rel => exact ⟨t + 1, A7, c7, ac ++ [putB xi ⟨cb, cn, cf, ck⟩], by omega, by go_num, by rw [HLA.out], hide HTP.out.symm, HOW8, HKI8, HNB8, HB8, HSA8⟩
                case measure => simp [intOf]; omega
              · obtain rfl : t = cs.length := by omega
                have HAN := hide (show ac = (l.take (k + 1 + 1)).flatMap cardsZ from by rw [HAC.out, List.take_length, HTK.out, HAE.out, HZ0.out])
                have HLN2 := hide (show ac.length ≤ 20 * (k + 1) by rw [HAC.out, List.length_append, List.length_map, List.length_take]; have := HLN.out; have := HCL.out; omega)
                go_wp2
                go_roundw
                case rel => exact ⟨k + 1, A9, c9, ac, by omega, by go_num, rfl, HAN, HOA, HBA, HLN2⟩
                case measure => simp [intOf]; omega
        · obtain rfl : k = N := by omega
          have HZ := hide (HPO.out A8 c8 W0)
          rw [show cardsQ l = acc from by rw [HQ.out, HAE.out, ← hN, List.take_length]] at HZ
          go_wp2
          (first | exact HZ.out (ownK_low HOW.out HB.out.size) (HB.out.trans (HBW.out.mono HB.out.size)) | (go_returns; exact HZ.out (ownK_low HOW.out HB.out.size) (HB.out.trans (HBW.out.mono HB.out.size))))
  · have HQ := hide (show cardsQ l = [] by unfold cardsQ; rw [if_neg h0])
    have e0 : (baseErr l != 0) = true := by simp [h0]
    rw [HQ.out] at HPO
    generalize baseErr l = be at *
    go_enter Tryd.func5, Tryd.ntmps5
    go_wp2_with (go_at_call 11; refine HCK.out.mono ?_; rintro e w' ⟨rfl, hbl⟩; have HB := hide hbl; clear hbl)
    (first | exact HPO.out none 0 w' OwnK.empty HB.out | (go_returns; exact HPO.out none 0 w' OwnK.empty HB.out))

end Go.Proofs.YtidpfjdlchffcaaDoor
