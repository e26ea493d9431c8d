/-
  WALK: Merge, in the program.
-/
import Derived.Test.YtdncmjlakmkfiaaGreatDoorMgu
set_option linter.all false
namespace Go.Proofs.YtdncmjlakmkfiaaGreatDoor
open Go.RowKit Go.Maps Go.WideMaps

set_option maxHeartbeats 3200000 in
set_option maxRecDepth 100000 in
theorem merge_any (B A C : List PR) (A0 A1 A2 : Option Addr) (c0 c1 c2 : Nat) (w : World) (h0 : PsAt w A0 B) (h1 : PsAt w A1 A) (h2 : PsAt w A2 C) :
    Calls Tryz.prog 9 #[.slice A0 B.length c0, .slice A1 A.length c1, .slice A2 C.length c2] w (MgFin (mgRes B A C) w) := by
  have HP := hide (show ∀ k, k < 3 → PsAt w (sel3 A0 A1 A2 k) (sel3 B A C k) from fun k hk => by
    have : k = 0 ∨ k = 1 ∨ k = 2 := by omega
    rcases this with rfl | rfl | rfl
    · exact h0
    · exact h1
    · exact h2)
  have HPS := hide (And.intro h0 (And.intro h1 h2))
  have hmm := @run_makeMap Tryz.prog
  have HERR : Hid (∀ (e : Int) (w' : World), mgErr B A C = e → e ≠ 0 → Below w.heap.size w w' → MgFin (mgRes B A C) w (.returned (.tuple #[.slice none 0 0, .slice none 0 0, .int .i64 e])) w') :=
    hide fun e w' h he hb => by rw [mgRes_err h he]; exact MgFin.none hb
  have HBIG : Hid (∀ (nms : List ByteArray) (w' : World), mgErr B A C = 0 → Rise nms → (∀ x, x ∈ nms ↔ x ∈ allNames B A C) → 20 < (mgAll B A C nms).1.length → Below w.heap.size w w' → MgFin (mgRes B A C) w (.returned (.tuple #[.slice none 0 0, .slice none 0 0, .int .i64 4])) w') :=
    hide fun nms w' h hr hm hl hb => by rw [mgRes_is h hr hm, if_pos hl]; exact MgFin.none hb
  have HFIN : Hid (∀ (nms : List ByteArray) (B1 B2 : Option Addr) (d1 d2 m1 m2 : Nat) (w' : World), mgErr B A C = 0 → Rise nms → (∀ x, x ∈ nms ↔ x ∈ allNames B A C) → ¬ 20 < (mgAll B A C nms).1.length → m1 = (mgAll B A C nms).1.length → m2 = (mgAll B A C nms).2.length → PsAt w' B1 (mgAll B A C nms).1 → SAt w' B2 (mgAll B A C nms).2 → Below w.heap.size w w' → MgFin (mgRes B A C) w (.returned (.tuple #[.slice B1 m1 d1, .slice B2 m2 d2, .int .i64 0])) w') :=
    hide fun nms B1 B2 d1 d2 m1 m2 w' h hr hm hl e1 e2 hp hs hb => by rw [mgRes_is h hr hm, if_neg hl, e1, e2]; exact ⟨B1, B2, d1, d2, rfl, hp, hs, hb⟩
  generalize MgFin (mgRes B A C) w = PO at *
  clear h0 h1 h2
  go_enter Tryz.func9, Tryz.ntmps9
  go_wp2
  go_loopw [33] (fun i wr => ∃ (k n : Nat) (D : DataW Unit), k ≤ 3 ∧ i = .int .i64 k ∧ Hid (NM w wr n D (NmIn B A C k)) ∧ Hid (n ≤ 20 * k) ∧ Hid (Blk wr (w.heap.size + 1) 30 #[.slice A0 B.length c0, .slice A1 A.length c1, .slice A2 C.length c2]) ∧ Hid (∀ j, j < k → propsErr (sel3 B A C j) = 0)) (fun i _ => 3 - (intOf i).toNat)
  case atStart => exact ⟨0, 0, _, by omega, rfl, hide (((nm_made w).same (fun x => ⟨False.elim, fun ⟨j, hj, _⟩ => absurd hj (by omega)⟩)).below (by repeat (first | with_reducible exact Below.refl _ _ | with_reducible refine bl_plus ?_ | with_reducible refine bl_alloc ?_ _ | with_reducible refine bl_drew ?_ | with_reducible refine bl_drewN ?_ _))), hide (by omega), hide (blk_of (w := w.alloc (.map #[] 0)) (by rw [World.size_alloc]) (by repeat (first | with_reducible exact Below.refl _ _ | with_reducible refine bl_plus ?_ | with_reducible refine bl_alloc ?_ _ | with_reducible refine bl_drew ?_ | with_reducible refine bl_drewN ?_ _))), hide (fun j hj => absurd hj (by omega))⟩
  case round =>
    obtain ⟨k, n, D, hk, rfl, HNM, HN, HAR, HE⟩ := hrel
    by_cases hlt : k < 3
    · have hcell : wr.cell? ⟨w.heap.size + 1, k, none⟩ = some (.slice (sel3 A0 A1 A2 k) (sel3 B A C k).length (sel3 c0 c1 c2 k)) := (HAR.out.cell k).trans (cell3 hlt)
      have HPL := hide (HP.out k hlt)
      have HCK := hide (fun W (hb : Below wr.heap.size wr W) => checkProps_any (sel3 B A C k) (sel3 A0 A1 A2 k) (sel3 c0 c1 c2 k) W (HPL.out.below (below_chain HNM.out.bel hb)))
      have HER := hide (fun (h : propsErr (sel3 B A C k) ≠ 0) => mgErr_at HE.out hlt h)
      have i1 : (k : Int) < 3 := by omega
      generalize hL : sel3 B A C k = L at hcell HPL HCK HER
      have HL := hide hL
      clear hL
      generalize sel3 A0 A1 A2 k = AL at *
      generalize sel3 c0 c1 c2 k = cL at *
      by_cases he : propsErr L = 0
      · have HZ := hide he
        have HLN := hide (show L.length ≤ 20 ∧ k < 3 from ⟨propsErr_le20 he, hlt⟩)
        rw [he] at HCK
        clear he HER
        go_wp2_with (go_at_call 35; (refine (HCK.out _ (by repeat (first | with_reducible exact Below.refl _ _ | with_reducible refine bl_plus ?_ | with_reducible refine bl_alloc ?_ _ | with_reducible refine bl_drew ?_ | with_reducible refine bl_drewN ?_ _))).mono ?_); rintro e w' ⟨rfl, hbl⟩; obtain ⟨os1, n1, rfl⟩ := below_plus hbl; clear hbl)
        go_loopw [44] (fun i wr => ∃ (j n : Nat) (D : DataW Unit), j ≤ L.length ∧ i = .int .i64 j ∧ Hid (NM w wr n D (NmAt B A C k L j)) ∧ Hid (n ≤ 20 * k + j) ∧ Hid (Blk wr (w.heap.size + 1) 30 #[.slice A0 B.length c0, .slice A1 A.length c1, .slice A2 C.length c2])) (fun i _ => L.length - (intOf i).toNat)
        case atStart => exact ⟨0, n, D, Nat.zero_le _, rfl, hide ((HNM.out.same (fun x => nmAt_zero)).below (by repeat (first | with_reducible exact Below.refl _ _ | with_reducible refine bl_plus ?_ | with_reducible refine bl_alloc ?_ _ | with_reducible refine bl_drew ?_ | with_reducible refine bl_drewN ?_ _))), hide (by have := HN.out; omega), hide (HAR.out.below (by repeat (first | with_reducible exact Below.refl _ _ | with_reducible refine bl_plus ?_ | with_reducible refine bl_alloc ?_ _ | with_reducible refine bl_drew ?_ | with_reducible refine bl_drewN ?_ _)) HAR.out.lt)⟩
        case round =>
          obtain ⟨j, n2, D2, hj, rfl, HNM2, HN2, HAR2⟩ := hrel
          clear HNM HN HAR
          have h20 := HLN.out.1
          by_cases hlt : j < L.length
          · obtain ⟨b', o', rfl, hb', hpr⟩ := (HPL.out.below HNM2.out.bel).2 (by omega)
            obtain ⟨y0, hsz, y1, y2, y3, y4, A9, c9, y5, -⟩ := (hpr j hlt).cells
            clear hpr
            have hkey : keyOf Tryz.prog 9 (.string L[j].n) = some (.string L[j].n.data.toList) := keyOf_string_mk Tryz.underlying9 hsz
            have HNX := hide (fun x => nmAt_succ (B := B) (A := A) (C := C) (k := k) (x := x) hlt)
            have i1 : (j : Int) < (L.length : Int) := by omega
            clear hsz
            generalize L[j] = x at *
            obtain ⟨pn, ⟨xk, xi, xt, xs, xl⟩⟩ := x
            simp only [V.k, V.i, V.t, V.s, V.l] at *
            have hn2 : n2 < maxLen := by have := HN2.out; have := HLN.out; unfold maxLen; omega
            go_wp2_with (first | (at_mapUpdate; refine wpList_mapUpdate_own _ rfl _ _ _ 100 rfl 9 4 lawS Tryz.underlying100 _ w.heap.size n2 D2 rfl (HNM2.out.below (by repeat (first | with_reducible exact Below.refl _ _ | with_reducible refine bl_plus ?_ | with_reducible refine bl_alloc ?_ _ | with_reducible refine bl_drew ?_ | with_reducible refine bl_drewN ?_ _))).own hn2 _ _ _ rfl rfl hkey _ [] (plainElem_bool Tryz.underlying4 true) ?_; intro w1 hown1 hgr1; have HNM3 := hide ((HNM2.out.below (by repeat (first | with_reducible exact Below.refl _ _ | with_reducible refine bl_plus ?_ | with_reducible refine bl_alloc ?_ _ | with_reducible refine bl_drew ?_ | with_reducible refine bl_drewN ?_ _))).put hown1 hgr1); have HAR3 := hide (((HAR2.out.below (by repeat (first | with_reducible exact Below.refl _ _ | with_reducible refine bl_plus ?_ | with_reducible refine bl_alloc ?_ _ | with_reducible refine bl_drew ?_ | with_reducible refine bl_drewN ?_ _)) HAR2.out.lt)).grown hgr1 (by simp)); clear hown1 hgr1))
            go_roundw
            case rel => exact ⟨j + 1, n2 + 1, _, hlt, by go_num, hide (HNM3.out.same (fun x => HNX.out x)), hide (by have := HN2.out; omega), HAR3⟩
            case measure => simp [intOf]; omega
          · obtain rfl : j = L.length := by omega
            have HNM3 := hide (HNM2.out.same (fun x => nmAt_end HL.out))
            clear HNM2
            go_wp2
            go_roundw
            case rel => exact ⟨k + 1, n2, D2, by omega, by go_num, hide (HNM3.out.below (by repeat (first | with_reducible exact Below.refl _ _ | with_reducible refine bl_plus ?_ | with_reducible refine bl_alloc ?_ _ | with_reducible refine bl_drew ?_ | with_reducible refine bl_drewN ?_ _))), hide (by have := HN2.out; have := HLN.out; omega), hide (HAR2.out.below (by repeat (first | with_reducible exact Below.refl _ _ | with_reducible refine bl_plus ?_ | with_reducible refine bl_alloc ?_ _ | with_reducible refine bl_drew ?_ | with_reducible refine bl_drewN ?_ _)) HAR2.out.lt), hide (fun q hq => by
              rcases Nat.lt_or_ge q k with h9 | h9
              · exact HE.out q h9
              · obtain rfl : q = k := by omega
                rw [HL.out]; exact HZ.out)⟩
            case measure => simp [intOf]; omega
      · have he2 : (propsErr L != 0) = true := bne_iff_ne.2 he
        have HE2 := hide (fun w' hb => HERR.out _ w' (HER.out he) he hb)
        clear he HER hk
        generalize propsErr L = E at *
        go_wp2_with (go_at_call 35; (refine (HCK.out _ (by repeat (first | with_reducible exact Below.refl _ _ | with_reducible refine bl_plus ?_ | with_reducible refine bl_alloc ?_ _ | with_reducible refine bl_drew ?_ | with_reducible refine bl_drewN ?_ _))).mono ?_); rintro e w' ⟨rfl, hbl⟩; obtain ⟨os1, n1, rfl⟩ := below_plus hbl; clear hbl)
        (try simp only [Exit.inBlock, Exit.then])
        exact HE2.out _ (below_chain HNM.out.bel (by repeat (first | with_reducible exact Below.refl _ _ | with_reducible refine bl_plus ?_ | with_reducible refine bl_alloc ?_ _ | with_reducible refine bl_drew ?_ | with_reducible refine bl_drewN ?_ _)))
    · obtain rfl : k = 3 := by omega
      rw [show (((3 : Nat) : Int)) = 3 from rfl]
      obtain ⟨hme, e0, e1, e2⟩ := mgErr_none HE.out
      have HF := hide (And.intro (few_props e0) (And.intro (few_props e1) (few_props e2)))
      have HME := hide hme
      have HKS := hide (fun W (hb : Below wr.heap.size wr W) => sortedM_any w W n D _ (HNM.out.below hb) (by have := HN.out; omega))
      have HBW := hide HNM.out.bel
      have HN9 := hide (show n ≤ 60 by have := HN.out; omega)
      clear hme e0 e1 e2 HE HAR HERR HP HNM HN
      have HSZ := hide (fun x hx => names_size HPS.out.1 HPS.out.2.1 HPS.out.2.2 x (nmIn_all.1 hx))
      go_wp2_with (first | (go_at_call 37; (refine (keysM_any _ _).mono ?_); rintro e w' ⟨rfl, rfl⟩) | (go_at_call 36; (refine (HKS.out _ (by repeat (first | with_reducible exact Below.refl _ _ | with_reducible refine bl_plus ?_ | with_reducible refine bl_alloc ?_ _ | with_reducible refine bl_drew ?_ | with_reducible refine bl_drewN ?_ _))).mono ?_); rintro e w2 ⟨A3, c3, nms, rfl, hri, hmem, hnl, hsat, hbl⟩; have HRI := hide hri; have HMEM := hide hmem; have HNL := hide hnl; have HSA := hide hsat; have HB2 := hide (below_chain HBW.out (below_chain (by repeat (first | with_reducible exact Below.refl _ _ | with_reducible refine bl_plus ?_ | with_reducible refine bl_alloc ?_ _ | with_reducible refine bl_drew ?_ | with_reducible refine bl_drewN ?_ _)) hbl)); clear hri hmem hnl hsat hbl))
      clear HKS
      have HNL := hide (Nat.le_trans HNL.out HN9.out)
      have HSZ := hide (fun (x : ByteArray) (hx : x ∈ nms) => HSZ.out x ((HMEM.out x).1 hx))
      have HMEM := hide (fun x => (HMEM.out x).trans nmIn_all)
      clear HN9 HBW
      go_loopw [15, 16, 57] (fun so sc i wr => ∃ (q : Nat) (ps : List CP) (cl : List ByteArray) (B1 B2 : Option Addr) (d1 d2 : Nat), q ≤ nms.length ∧ so = .slice B1 ps.length d1 ∧ sc = .slice B2 cl.length d2 ∧ i = .int .i64 q ∧ Hid (MR wr w2.heap.size (.slice B1 ps.length d1) (.slice B2 cl.length d2) ps cl) ∧ Hid (Below w2.heap.size w2 wr) ∧ Hid (ps.map CP.pr = (mgAll B A C (nms.take q)).1 ∧ cl = (mgAll B A C (nms.take q)).2) ∧ Hid (ps.length ≤ q ∧ cl.length ≤ q)) (fun _ _ i _ => nms.length - (intOf i).toNat)
      case atStart => exact ⟨0, [], [], none, none, 0, 0, Nat.zero_le _, rfl, rfl, rfl, hide mr_nil, hide (Below.refl _ _), hide ⟨rfl, rfl⟩, hide ⟨Nat.le_refl _, Nat.le_refl _⟩⟩
      case round =>
        obtain ⟨q, ps, cl, B1, B2, d1, d2, hq, rfl, rfl, rfl, HMR, HBB, HST, HLE⟩ := hrel
        have HB := hide (below_chain HB2.out HBB.out)
        have HW2 := hide HBB.out.size
        by_cases hlt : q < nms.length
        · obtain ⟨b', o', rfl, hb', hs⟩ := HSA.out.2 (by omega)
          have hcell : wr.cell? ⟨b', o' + q, none⟩ = some (.string nms[q]) := (HBB.out.cell (p := ⟨b', o' + q, none⟩) hb').trans (hs q hlt)
          have HSTP := hide (mgAll_take B A C hlt)
          have HNZ := hide (HSZ.out nms[q] (List.getElem_mem hlt))
          have HNL3 := hide (show nms.length ≤ 60 from HNL.out)
          have h60 : nms.length ≤ 60 := HNL.out
          have i1 : (q : Int) < (nms.length : Int) := by omega
          clear hs
          generalize nms[q] = x at *
          have HF3 := hide (And.intro (gv_few HF.out.1 x) (And.intro (gv_few HF.out.2.1 x) (gv_few HF.out.2.2 x)))
          have HG0 := hide (fun W (hb : Below wr.heap.size wr W) => getM_any A0 c0 B x W (HPS.out.1.below (below_chain HB.out hb)) HF.out.1)
          have HG1 := hide (fun W (hb : Below wr.heap.size wr W) => getM_any A1 c1 A x W (HPS.out.2.1.below (below_chain HB.out hb)) HF.out.2.1)
          have HG2 := hide (fun W (hb : Below wr.heap.size wr W) => getM_any A2 c2 C x W (HPS.out.2.2.below (below_chain HB.out hb)) HF.out.2.2)
          have HMV := hide (fun G0 g0 G1 g1 G2 g2 W h0 h1 h2 => mergedValue_any (gv B x) (gv A x) (gv C x) G0 G1 G2 g0 g1 g2 W h0 h1 h2 ⟨HF3.out.1.1, HF3.out.2.1.1, HF3.out.2.2.1⟩)
          have HFM := hide (mValue_few HF3.out.1 HF3.out.2.1 HF3.out.2.2).fits
          unfold mgStep at HSTP
          unfold MvOut at HMV
          generalize mValue (gv B x) (gv A x) (gv C x) = Q at *
          clear HF3
          generalize gv B x = vb at *
          generalize gv A x = va at *
          generalize gv C x = vc at *
          obtain ⟨⟨xk, xi, xt, xs, xl⟩, cz⟩ := Q
          obtain ⟨bk, bi, bt, bs, bl⟩ := vb
          obtain ⟨ak, ai, at_, as_, al⟩ := va
          obtain ⟨zk, zi, zt, zs, zl⟩ := vc
          simp only [V.arg, V.k, V.i, V.t, V.s, V.l] at HG0 HG1 HG2 HMV HSTP HFM
          go_upto_region 22 with (first | (go_at_call_of 38 (Value.slice A0 B.length c0); (refine (HG0.out _ (by repeat (first | with_reducible exact Below.refl _ _ | with_reducible refine bl_plus ?_ | with_reducible refine bl_alloc ?_ _ | with_reducible refine bl_drew ?_ | with_reducible refine bl_drewN ?_ _))).mono ?_); rintro e W0 ⟨G0, g0, e0, rfl, hl, hbl⟩; have HB10 := hide (below_chain (w := wr) (by repeat (first | with_reducible exact Below.refl _ _ | with_reducible refine bl_plus ?_ | with_reducible refine bl_alloc ?_ _ | with_reducible refine bl_drew ?_ | with_reducible refine bl_drewN ?_ _)) hbl); have HGL0 := hide hl; clear hl hbl) | (go_at_call_of 38 (Value.slice A1 A.length c1); (refine (HG1.out _ (by repeat (first | with_reducible exact HB10.out | with_reducible refine bl_plus ?_ | with_reducible refine bl_alloc ?_ _ | with_reducible refine bl_drew ?_ | with_reducible refine bl_drewN ?_ _))).mono ?_); rintro e W1 ⟨G1, g1, e1, rfl, hl, hbl⟩; have HB11 := hide (below_chain (w := wr) (by repeat (first | with_reducible exact HB10.out | with_reducible refine bl_plus ?_ | with_reducible refine bl_alloc ?_ _ | with_reducible refine bl_drew ?_ | with_reducible refine bl_drewN ?_ _)) hbl); have HBS1 := hide (below_chain (w := W0) (by repeat (first | with_reducible exact Below.refl _ _ | with_reducible refine bl_plus ?_ | with_reducible refine bl_alloc ?_ _ | with_reducible refine bl_drew ?_ | with_reducible refine bl_drewN ?_ _)) hbl); have HXB0 := hide (boxV_of (w := W0) (W := W1) (y := .mk bk bi bt bs bl) (B := G0) (d := g0) (g := W0.heap.size) rfl (by exact hbl)); have HGL1 := hide hl; clear hl hbl) | (go_at_call_of 38 (Value.slice A2 C.length c2); (refine (HG2.out _ (by repeat (first | with_reducible exact HB11.out | with_reducible refine bl_plus ?_ | with_reducible refine bl_alloc ?_ _ | with_reducible refine bl_drew ?_ | with_reducible refine bl_drewN ?_ _))).mono ?_); rintro e W2 ⟨G2, g2, e2, rfl, hl, hbl⟩; have HB12 := hide (below_chain (w := wr) (by repeat (first | with_reducible exact HB11.out | with_reducible refine bl_plus ?_ | with_reducible refine bl_alloc ?_ _ | with_reducible refine bl_drew ?_ | with_reducible refine bl_drewN ?_ _)) hbl); have HBS2 := hide (below_chain (w := W1) (by repeat (first | with_reducible exact Below.refl _ _ | with_reducible refine bl_plus ?_ | with_reducible refine bl_alloc ?_ _ | with_reducible refine bl_drew ?_ | with_reducible refine bl_drewN ?_ _)) hbl); have HXB1 := hide (boxV_of (w := W1) (W := W2) (y := .mk ak ai at_ as_ al) (B := G1) (d := g1) (g := W1.heap.size) rfl (by exact hbl)); have HGL2 := hide hl; clear hl hbl))
          obtain ⟨x0, x1, x2, x3, x4, xl0⟩ := HXB0.out.below (below_chain HBS2.out (show Below W2.heap.size W2 (W2.alloc (.cells #[.int .i64 zk, .int .i64 zi, .int .i64 zt, .string zs, .slice G2 zl.length g2] 24)) from (by repeat (first | with_reducible exact Below.refl _ _ | with_reducible refine bl_plus ?_ | with_reducible refine bl_alloc ?_ _ | with_reducible refine bl_drew ?_ | with_reducible refine bl_drewN ?_ _))))
          obtain ⟨y0, y1, y2, y3, y4, yl0⟩ := HXB1.out.below (show Below W2.heap.size W2 (W2.alloc (.cells #[.int .i64 zk, .int .i64 zi, .int .i64 zt, .string zs, .slice G2 zl.length g2] 24)) from (by repeat (first | with_reducible exact Below.refl _ _ | with_reducible refine bl_plus ?_ | with_reducible refine bl_alloc ?_ _ | with_reducible refine bl_drew ?_ | with_reducible refine bl_drewN ?_ _)))
          simp only [V.k, V.i, V.t, V.s, V.l] at x0 x1 x2 x3 x4 y0 y1 y2 y3 y4
          clear HXB0 HXB1 HG0 HG1 HG2
          go_upto_region 23 with (go_at_call 39; (refine (HMV.out _ _ _ _ _ _ _ (HGL0.out.below (below_chain HBS1.out (below_chain HBS2.out (by repeat (first | with_reducible exact Below.refl _ _ | with_reducible refine bl_plus ?_ | with_reducible refine bl_alloc ?_ _ | with_reducible refine bl_drew ?_ | with_reducible refine bl_drewN ?_ _))))) (HGL1.out.below (below_chain HBS2.out (by repeat (first | with_reducible exact Below.refl _ _ | with_reducible refine bl_plus ?_ | with_reducible refine bl_alloc ?_ _ | with_reducible refine bl_drew ?_ | with_reducible refine bl_drewN ?_ _)))) (HGL2.out.below (by repeat (first | with_reducible exact Below.refl _ _ | with_reducible refine bl_plus ?_ | with_reducible refine bl_alloc ?_ _ | with_reducible refine bl_drew ?_ | with_reducible refine bl_drewN ?_ _)))).mono ?_); rintro e W3 ⟨G3, g3, rfl, hl, hbl⟩; have HB13 := hide (below_chain (w := wr) (by repeat (first | with_reducible exact HB12.out | with_reducible refine bl_plus ?_ | with_reducible refine bl_alloc ?_ _ | with_reducible refine bl_drew ?_ | with_reducible refine bl_drewN ?_ _)) hbl); have HGL3 := hide hl; clear hl hbl)
          clear HMV x0 x1 x2 x3 x4 xl0 y0 y1 y2 y3 y4 yl0 HGL0 HGL1 HGL2 HBS1 HBS2 HB10 HB11 HB12
          have HCV := hide (fun W (h : LAt W G3 xl) => copyValue_any (.mk xk xi xt xs xl) HFM.out G3 g3 W h)
          unfold CopyOut at HCV
          simp only [V.arg, V.k, V.i, V.t, V.s, V.l] at HCV
          obtain ⟨iP, hiP, hzP0, hzP1, hzP2⟩ := info_parts info_prop
          have HIP := hide (And.intro hiP (And.intro hzP0 (And.intro hzP1 hzP2)))
          obtain ⟨iS, hiS, hzS0, hzS1, hzS2⟩ := info_parts info_str
          have HIS := hide (And.intro hiS (And.intro hzS0 (And.intro hzS1 hzS2)))
          clear hiP hzP0 hzP1 hzP2 hiS hzS0 hzS1 hzS2
          have HBG := hide (show (ps.length + 1) * iP.bytes ≤ 140737488355328 ∧ ps.length + 1 ≤ 140737488355328 by have h9 := HIP.out.2.2.2; rw [h9]; have := HLE.out.1; have := HNL3.out; omega)
          have HBG2 := hide (show (cl.length + 1) * iS.bytes ≤ 140737488355328 ∧ cl.length + 1 ≤ 140737488355328 by have h9 := HIS.out.2.2.2; rw [h9]; have := HLE.out.2; have := HNL3.out; omega)
          cases hk : (xk != 0) with
          | true =>
            have HK := hide (show xk ≠ 0 by simpa using hk)
            cases cz with
            | true =>
              have HST2 := hide (show mgAll B A C (nms.take (q + 1)) = ((mgAll B A C (nms.take q)).1 ++ [⟨x, .mk xk xi xt xs xl⟩], (mgAll B A C (nms.take q)).2 ++ [x]) by rw [HSTP.out]; have h9 := HK.out; simp [h9])
              clear HSTP
              have HLN := hide (fun (A5 : Option Addr) => (by simp : (ps ++ [(⟨x, ⟨.mk xk xi xt xs xl, A5, xl.length⟩⟩ : CP)]).length = ps.length + 1))
              have HLC := hide (show (cl ++ [x]).length = cl.length + 1 by simp)
              go_wp2_with (first | (go_at_call 16; (refine (HCV.out _ (HGL3.out.below (by repeat (first | with_reducible exact Below.refl _ _ | with_reducible refine bl_plus ?_ | with_reducible refine bl_alloc ?_ _ | with_reducible refine bl_drew ?_ | with_reducible refine bl_drewN ?_ _)))).mono ?_); rintro e W5 ⟨A5, rfl, hz, hlin, hbl⟩; have HB15 := hide (below_chain (w := wr) (by repeat (first | with_reducible exact HB13.out | with_reducible refine bl_plus ?_ | with_reducible refine bl_alloc ?_ _ | with_reducible refine bl_drew ?_ | with_reducible refine bl_drewN ?_ _)) hbl); have HL5 := hide (hlin.mono (Q := fun b => wr.heap.size ≤ b ∧ b < W5.heap.size) (fun b hb => And.intro (Nat.le_trans (show Below wr.heap.size wr _ from (by repeat (first | with_reducible exact HB13.out | with_reducible refine bl_plus ?_ | with_reducible refine bl_alloc ?_ _ | with_reducible refine bl_drew ?_ | with_reducible refine bl_drewN ?_ _))).size hb.1) hb.2)); clear hz hlin hbl) | (at_builtin; refine wpList_append_b rfl (.tmp 89) (.tmp 94) rfl rfl Tryz.underlying30 HIP.out.1 HIP.out.2.1 HIP.out.2.2.1 (by decide) rfl (by have := HIP.out.2.2.2; omega) w2.heap.size ps.length (.slice B1 ps.length d1) (flatCP ps) [.string x, .int .i64 xk, .int .i64 xi, .int .i64 xt, .string xs, .slice A5 xl.length xl.length] _ rfl (ownK_alloc (HMR.out.below HB15.out).own _) rfl (by intro u hu; simp only [List.mem_cons, List.not_mem_nil, or_false] at hu; rcases hu with rfl | rfl | rfl | rfl | rfl | rfl <;> rfl) rfl (newN_cells (cs := [.string x, .int .i64 xk, .int .i64 xi, .int .i64 xt, .string xs, .slice A5 xl.length xl.length]) rfl) HBG.out (by simp only [World.size_alloc]; have := HB15.out.size; have := HW2.out; omega) ?_; intro v' w1 hown1 hgr1 hfr1; obtain ⟨A6, c6, rfl, _⟩ := ownK_form hown1; have hmr := MR.push (p := ⟨x, ⟨.mk xk xi xt xs xl, A5, xl.length⟩⟩) ((HMR.out.below HB15.out).below (bl_alloc (Below.refl _ _) (.cells #[.string x, .int .i64 xk, .int .i64 xi, .int .i64 xt, .string xs, .slice A5 xl.length xl.length] 47))) hgr1 hfr1 hown1 ((HL5.out.frame (fun b hb => Below.heap_alloc _ _ b hb.2)).mono (fun b hb => ⟨by rw [World.size_alloc]; have := hb.2; omega, fun e => by have h1 := (HMR.out.own.lt b e).2; have h2 := hb.1; omega, fun e => by have h1 := (HMR.out.own2.lt b e).2; have h2 := hb.1; omega⟩)) HNZ.out; have HB16 := hide ((below_chain HBB.out (bl_alloc HB15.out (.cells #[.string x, .int .i64 xk, .int .i64 xi, .int .i64 xt, .string xs, .slice A5 xl.length xl.length] 47))).grown hgr1 (by simp only [World.size_alloc]; have := HB15.out.size; have := HW2.out; omega) (fun k hk => (HMR.out.own.lt k hk).1)); rw [← HLN.out A5] at hmr; have HMR6 := hide hmr; clear hown1 hgr1 hfr1 hmr) | (at_builtin; refine wpList_append_b rfl (.tmp 97) (.tmp 99) rfl rfl Tryz.underlying31 HIS.out.1 HIS.out.2.1 HIS.out.2.2.1 (by decide) rfl (by have := HIS.out.2.2.2; omega) w2.heap.size cl.length (.slice B2 cl.length d2) (strV cl) [.string x] _ rfl (ownK_alloc HMR6.out.own2 _) rfl (by intro u hu; simp only [List.mem_cons, List.not_mem_nil, or_false] at hu; rcases hu with rfl; rfl) rfl (newN_cells (cs := [.string x]) (by first | rfl | simp only [World.size_alloc])) HBG2.out (by simp only [World.size_alloc]; have := HB16.out.size; omega) ?_; intro v' w8 hown1 hgr1 hfr1; obtain ⟨A7, c7, rfl, _⟩ := ownK_form hown1; have hmr := MR.push2 (HMR6.out.below (bl_alloc (Below.refl _ _) (.cells #[.string x] 9))) hgr1 hfr1 hown1; have HB17 := hide ((bl_alloc HB16.out (.cells #[.string x] 9)).grown hgr1 (by simp only [World.size_alloc]; have := HB16.out.size; omega) (fun k hk => (HMR6.out.own2.lt k hk).1)); rw [← HLC.out] at hmr; have HMR7 := hide hmr; clear hown1 hgr1 hfr1 hmr))
              go_roundw
              case rel => exact ⟨q + 1, ps ++ [(⟨x, ⟨.mk xk xi xt xs xl, A5, xl.length⟩⟩ : CP)], cl ++ [x], A6, A7, c6, c7, hlt, by rw [HLN.out A5], by rw [HLC.out], by go_num, HMR7, HB17, hide ⟨by rw [HST2.out, List.map_append, HST.out.1]; rfl, by rw [HST2.out, HST.out.2]⟩, hide ⟨by rw [HLN.out A5]; have := HLE.out.1; omega, by rw [HLC.out]; have := HLE.out.2; omega⟩⟩
              case measure => simp [intOf]; omega
            | false =>
              have HST2 := hide (show mgAll B A C (nms.take (q + 1)) = ((mgAll B A C (nms.take q)).1 ++ [⟨x, .mk xk xi xt xs xl⟩], (mgAll B A C (nms.take q)).2) by rw [HSTP.out]; have h9 := HK.out; simp [h9])
              clear HSTP
              have HLN := hide (fun (A5 : Option Addr) => (by simp : (ps ++ [(⟨x, ⟨.mk xk xi xt xs xl, A5, xl.length⟩⟩ : CP)]).length = ps.length + 1))
              go_wp2_with (first | (go_at_call 16; (refine (HCV.out _ (HGL3.out.below (by repeat (first | with_reducible exact Below.refl _ _ | with_reducible refine bl_plus ?_ | with_reducible refine bl_alloc ?_ _ | with_reducible refine bl_drew ?_ | with_reducible refine bl_drewN ?_ _)))).mono ?_); rintro e W5 ⟨A5, rfl, hz, hlin, hbl⟩; have HB15 := hide (below_chain (w := wr) (by repeat (first | with_reducible exact HB13.out | with_reducible refine bl_plus ?_ | with_reducible refine bl_alloc ?_ _ | with_reducible refine bl_drew ?_ | with_reducible refine bl_drewN ?_ _)) hbl); have HL5 := hide (hlin.mono (Q := fun b => wr.heap.size ≤ b ∧ b < W5.heap.size) (fun b hb => And.intro (Nat.le_trans (show Below wr.heap.size wr _ from (by repeat (first | with_reducible exact HB13.out | with_reducible refine bl_plus ?_ | with_reducible refine bl_alloc ?_ _ | with_reducible refine bl_drew ?_ | with_reducible refine bl_drewN ?_ _))).size hb.1) hb.2)); clear hz hlin hbl) | (at_builtin; refine wpList_append_b rfl (.tmp 89) (.tmp 94) rfl rfl Tryz.underlying30 HIP.out.1 HIP.out.2.1 HIP.out.2.2.1 (by decide) rfl (by have := HIP.out.2.2.2; omega) w2.heap.size ps.length (.slice B1 ps.length d1) (flatCP ps) [.string x, .int .i64 xk, .int .i64 xi, .int .i64 xt, .string xs, .slice A5 xl.length xl.length] _ rfl (ownK_alloc (HMR.out.below HB15.out).own _) rfl (by intro u hu; simp only [List.mem_cons, List.not_mem_nil, or_false] at hu; rcases hu with rfl | rfl | rfl | rfl | rfl | rfl <;> rfl) rfl (newN_cells (cs := [.string x, .int .i64 xk, .int .i64 xi, .int .i64 xt, .string xs, .slice A5 xl.length xl.length]) rfl) HBG.out (by simp only [World.size_alloc]; have := HB15.out.size; have := HW2.out; omega) ?_; intro v' w1 hown1 hgr1 hfr1; obtain ⟨A6, c6, rfl, _⟩ := ownK_form hown1; have hmr := MR.push (p := ⟨x, ⟨.mk xk xi xt xs xl, A5, xl.length⟩⟩) ((HMR.out.below HB15.out).below (bl_alloc (Below.refl _ _) (.cells #[.string x, .int .i64 xk, .int .i64 xi, .int .i64 xt, .string xs, .slice A5 xl.length xl.length] 47))) hgr1 hfr1 hown1 ((HL5.out.frame (fun b hb => Below.heap_alloc _ _ b hb.2)).mono (fun b hb => ⟨by rw [World.size_alloc]; have := hb.2; omega, fun e => by have h1 := (HMR.out.own.lt b e).2; have h2 := hb.1; omega, fun e => by have h1 := (HMR.out.own2.lt b e).2; have h2 := hb.1; omega⟩)) HNZ.out; have HB16 := hide ((below_chain HBB.out (bl_alloc HB15.out (.cells #[.string x, .int .i64 xk, .int .i64 xi, .int .i64 xt, .string xs, .slice A5 xl.length xl.length] 47))).grown hgr1 (by simp only [World.size_alloc]; have := HB15.out.size; have := HW2.out; omega) (fun k hk => (HMR.out.own.lt k hk).1)); rw [← HLN.out A5] at hmr; have HMR6 := hide hmr; clear hown1 hgr1 hfr1 hmr))
              go_roundw
              case rel => exact ⟨q + 1, ps ++ [(⟨x, ⟨.mk xk xi xt xs xl, A5, xl.length⟩⟩ : CP)], cl, A6, B2, c6, d2, hlt, by rw [HLN.out A5], rfl, by go_num, HMR6, HB16, hide ⟨by rw [HST2.out, List.map_append, HST.out.1]; rfl, by rw [HST2.out]; exact HST.out.2⟩, hide ⟨by rw [HLN.out A5]; have := HLE.out.1; omega, by have := HLE.out.2; omega⟩⟩
              case measure => simp [intOf]; omega
          | false =>
            have HK := hide (show ¬ xk ≠ 0 by simpa using hk)
            cases cz with
            | true =>
              have HST2 := hide (show mgAll B A C (nms.take (q + 1)) = ((mgAll B A C (nms.take q)).1, (mgAll B A C (nms.take q)).2 ++ [x]) by rw [HSTP.out]; have h9 := HK.out; simp at h9; simp [h9])
              clear HSTP
              have HLC := hide (show (cl ++ [x]).length = cl.length + 1 by simp)
              go_wp2_with (first | (at_builtin; refine wpList_append_b rfl (.tmp 97) (.tmp 99) rfl rfl Tryz.underlying31 HIS.out.1 HIS.out.2.1 HIS.out.2.2.1 (by decide) rfl (by have := HIS.out.2.2.2; omega) w2.heap.size cl.length (.slice B2 cl.length d2) (strV cl) [.string x] _ rfl (ownK_alloc (HMR.out.below (bl_alloc HB13.out (.cells #[.int .i64 xk, .int .i64 xi, .int .i64 xt, .string xs, .slice G3 xl.length g3] 24))).own2 _) rfl (by intro u hu; simp only [List.mem_cons, List.not_mem_nil, or_false] at hu; rcases hu with rfl; rfl) rfl (newN_cells (cs := [.string x]) (by first | rfl | simp only [World.size_alloc])) HBG2.out (by simp only [World.size_alloc]; have := HB13.out.size; have := HW2.out; omega) ?_; intro v' w8 hown1 hgr1 hfr1; obtain ⟨A7, c7, rfl, _⟩ := ownK_form hown1; have hmr := MR.push2 ((HMR.out.below (bl_alloc HB13.out (.cells #[.int .i64 xk, .int .i64 xi, .int .i64 xt, .string xs, .slice G3 xl.length g3] 24))).below (bl_alloc (Below.refl _ _) (.cells #[.string x] 9))) hgr1 hfr1 hown1; have HB17 := hide ((bl_alloc (below_chain HBB.out (bl_alloc HB13.out (.cells #[.int .i64 xk, .int .i64 xi, .int .i64 xt, .string xs, .slice G3 xl.length g3] 24))) (.cells #[.string x] 9)).grown hgr1 (by simp only [World.size_alloc]; have := HB13.out.size; have := HW2.out; omega) (fun k hk => ((HMR.out.below (bl_alloc HB13.out (.cells #[.int .i64 xk, .int .i64 xi, .int .i64 xt, .string xs, .slice G3 xl.length g3] 24))).own2.lt k hk).1)); rw [← HLC.out] at hmr; have HMR7 := hide hmr; clear hown1 hgr1 hfr1 hmr))
              go_roundw
              case rel => exact ⟨q + 1, ps, cl ++ [x], B1, A7, d1, c7, hlt, rfl, by rw [HLC.out], by go_num, HMR7, HB17, hide ⟨by rw [HST2.out]; exact HST.out.1, by rw [HST2.out, HST.out.2]⟩, hide ⟨by have := HLE.out.1; omega, by rw [HLC.out]; have := HLE.out.2; omega⟩⟩
              case measure => simp [intOf]; omega
            | false =>
              have HST2 := hide (show mgAll B A C (nms.take (q + 1)) = ((mgAll B A C (nms.take q)).1, (mgAll B A C (nms.take q)).2) by rw [HSTP.out]; have h9 := HK.out; simp at h9; simp [h9])
              clear HSTP
              go_wp2
              go_roundw
              case rel => exact ⟨q + 1, ps, cl, B1, B2, d1, d2, hlt, rfl, rfl, by go_num, hide (HMR.out.below (bl_alloc HB13.out (.cells #[.int .i64 xk, .int .i64 xi, .int .i64 xt, .string xs, .slice G3 xl.length g3] 24))), hide (below_chain HBB.out (bl_alloc HB13.out (.cells #[.int .i64 xk, .int .i64 xi, .int .i64 xt, .string xs, .slice G3 xl.length g3] 24))), hide ⟨by rw [HST2.out]; exact HST.out.1, by rw [HST2.out]; exact HST.out.2⟩, hide ⟨by have := HLE.out.1; omega, by have := HLE.out.2; omega⟩⟩
              case measure => simp [intOf]; omega
        · obtain rfl : q = nms.length := by omega
          have HALL := hide (show ps.map CP.pr = (mgAll B A C nms).1 ∧ cl = (mgAll B A C nms).2 by have := HST.out; rwa [List.take_length] at this)
          have HLL := hide (show (mgAll B A C nms).1.length = ps.length ∧ (mgAll B A C nms).2.length = cl.length from ⟨by rw [← HALL.out.1, List.length_map], by rw [← HALL.out.2]⟩)
          clear HST
          by_cases h20 : 20 < ps.length
          · have i9 : (20 : Int) < (ps.length : Int) := by omega
            have HZ := hide (HBIG.out nms wr HME.out HRI.out HMEM.out (by rw [HLL.out.1]; exact h20) HB.out)
            clear h20
            go_wp2
            (try simp only [Exit.inBlock, Exit.then])
            exact HZ.out
          · have i9 : ¬ (20 : Int) < (ps.length : Int) := by omega
            have HK1 := hide HMR.out.row6.clip
            have HK2 := hide (ownK_clip HMR.out.own2)
            have HC1 := hide (fun W => clipP_any B1 ps.length d1 W HK1.out.2.2.1 HK1.out.2.2.2.1 HK1.out.2.2.2.2.1 HK1.out.2.2.2.2.2)
            have HC2 := hide (fun W => clipS_any B2 cl.length d2 W HK2.out.2.1 HK2.out.2.2.1 HK2.out.2.2.2.1 HK2.out.2.2.2.2)
            have HZ := hide (HFIN.out nms B1 B2 ps.length cl.length ps.length cl.length wr HME.out HRI.out HMEM.out (by rw [HLL.out.1]; exact h20) HLL.out.1.symm HLL.out.2.symm (by rw [← HALL.out.1]; exact HMR.out.row6.psAt.2) (by rw [← HALL.out.2]; exact (sAt_of_own HMR.out.own2).2.2) HB.out)
            clear h20
            go_wp2_with (first | (go_at_call 40; (refine (HC1.out _).mono ?_); rintro e w' ⟨rfl, hw⟩; subst hw) | (go_at_call 41; (refine (HC2.out _).mono ?_); rintro e w' ⟨rfl, hw⟩; subst hw))
            exact HZ.out


end Go.Proofs.YtdncmjlakmkfiaaGreatDoor
