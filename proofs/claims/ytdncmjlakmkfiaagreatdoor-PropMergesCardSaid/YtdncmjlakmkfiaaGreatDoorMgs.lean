/-
  WALK: MergeOf, in the reference.
-/
import Derived.Test.YtdncmjlakmkfiaaGreatDoorMgv
set_option linter.all false
namespace Go.Proofs.YtdncmjlakmkfiaaGreatDoor
open Go.RowKit Go.Lib

set_option maxHeartbeats 3200000 in
set_option maxRecDepth 100000 in
theorem mergeOf_any (B A C : List PR) (A0 A1 A2 : Option Addr) (c0 c1 c2 : Nat) (w : World) (h0 : PsAt w A0 B) (h1 : PsAt w A1 A) (h2 : PsAt w A2 C) :
    Calls Tryz.prog 10 #[.slice A0 B.length c0, .slice A1 A.length c1, .slice A2 C.length c2] w (MgFin (mgRes B A C) w) := by
  have HP := hide (show ∀ k, k < 3 → PsAt w (sel3 A0 A1 A2 k) (sel3 B A C k) from fun k hk => by
    have : k = 0 ∨ k = 1 ∨ k = 2 := by omega
    rcases this with rfl | rfl | rfl
    · exact h0
    · exact h1
    · exact h2)
  have HPS := hide (And.intro h0 (And.intro h1 h2))
  have HERR : Hid (∀ (e : Int) (w' : World), mgErr B A C = e → e ≠ 0 → Below w.heap.size w w' → MgFin (mgRes B A C) w (.returned (.tuple #[.slice none 0 0, .slice none 0 0, .int .i64 e])) w') :=
    hide fun e w' h he hb => by rw [mgRes_err h he]; exact MgFin.none hb
  have HBIG : Hid (∀ (nms : List ByteArray) (w' : World), mgErr B A C = 0 → Rise nms → (∀ x, x ∈ nms ↔ x ∈ allNames B A C) → 20 < (mgAll B A C nms).1.length → Below w.heap.size w w' → MgFin (mgRes B A C) w (.returned (.tuple #[.slice none 0 0, .slice none 0 0, .int .i64 4])) w') :=
    hide fun nms w' h hr hm hl hb => by rw [mgRes_is h hr hm, if_pos hl]; exact MgFin.none hb
  have HFIN : Hid (∀ (nms : List ByteArray) (B1 B2 : Option Addr) (d1 d2 m1 m2 : Nat) (w' : World), mgErr B A C = 0 → Rise nms → (∀ x, x ∈ nms ↔ x ∈ allNames B A C) → ¬ 20 < (mgAll B A C nms).1.length → m1 = (mgAll B A C nms).1.length → m2 = (mgAll B A C nms).2.length → PsAt w' B1 (mgAll B A C nms).1 → SAt w' B2 (mgAll B A C nms).2 → Below w.heap.size w w' → MgFin (mgRes B A C) w (.returned (.tuple #[.slice B1 m1 d1, .slice B2 m2 d2, .int .i64 0])) w') :=
    hide fun nms B1 B2 d1 d2 m1 m2 w' h hr hm hl e1 e2 hp hs hb => by rw [mgRes_is h hr hm, if_neg hl, e1, e2]; exact ⟨B1, B2, d1, d2, rfl, hp, hs, hb⟩
  generalize MgFin (mgRes B A C) w = PO at *
  clear h0 h1 h2
  go_enter Tryz.func10, Tryz.ntmps10
  go_wp2
  go_loopw [9, 32] (fun sn i wr => ∃ (k : Nat) (nm : List ByteArray) (Bn : Option Addr) (dn : Nat), k ≤ 3 ∧ sn = .slice Bn nm.length dn ∧ i = .int .i64 k ∧ Hid (OwnK 1 9 wr (w.heap.size + 1) (.slice Bn nm.length dn) nm.length (strV nm)) ∧ Hid (nm = (catK B A C k).map (·.n)) ∧ Hid (nm.length ≤ 20 * k) ∧ Hid (Blk wr w.heap.size 30 #[.slice A0 B.length c0, .slice A1 A.length c1, .slice A2 C.length c2]) ∧ Hid (Below w.heap.size w wr) ∧ Hid (∀ j, j < k → propsErr (sel3 B A C j) = 0)) (fun _ i _ => 3 - (intOf i).toNat)
  case atStart => exact ⟨0, [], none, 0, by omega, rfl, rfl, hide OwnK.empty, hide rfl, hide (Nat.zero_le _), hide (blk_of (w := w) rfl (by repeat (first | with_reducible exact Below.refl _ _ | with_reducible refine bl_plus ?_ | with_reducible refine bl_alloc ?_ _ | with_reducible refine bl_drew ?_ | with_reducible refine bl_drewN ?_ _))), hide (by repeat (first | with_reducible exact Below.refl _ _ | with_reducible refine bl_plus ?_ | with_reducible refine bl_alloc ?_ _ | with_reducible refine bl_drew ?_ | with_reducible refine bl_drewN ?_ _)), hide (fun j hj => absurd hj (by omega))⟩
  case round =>
    obtain ⟨k, nm, Bn, dn, hk, rfl, rfl, HOW, HNM, HN, HAR, HB, HE⟩ := hrel
    by_cases hlt : k < 3
    · have hcell : wr.cell? ⟨w.heap.size, k, none⟩ = some (.slice (sel3 A0 A1 A2 k) (sel3 B A C k).length (sel3 c0 c1 c2 k)) := (HAR.out.cell k).trans (cell3 hlt)
      have HPL := hide (HP.out k hlt)
      have HCK := hide (fun W (hb : Below wr.heap.size wr W) => propsFault_any (sel3 B A C k) (sel3 A0 A1 A2 k) (sel3 c0 c1 c2 k) W (HPL.out.below (below_chain HB.out hb)))
      have HER := hide (fun (h : propsErr (sel3 B A C k) ≠ 0) => mgErr_at HE.out hlt h)
      have i1 : (k : Int) < 3 := by omega
      generalize hL : sel3 B A C k = L at hcell HPL HCK HER
      have HL := hide hL
      clear hL
      generalize sel3 A0 A1 A2 k = AL at *
      generalize sel3 c0 c1 c2 k = cL at *
      by_cases he : propsErr L = 0
      · have HZ := hide he
        have HLN2 := hide (show L.length ≤ 20 ∧ k < 3 from ⟨propsErr_le20 he, hlt⟩)
        rw [he] at HCK
        clear he HER
        go_wp2_with (go_at_call 42; (refine (HCK.out _ (by repeat (first | with_reducible exact Below.refl _ _ | with_reducible refine bl_plus ?_ | with_reducible refine bl_alloc ?_ _ | with_reducible refine bl_drew ?_ | with_reducible refine bl_drewN ?_ _))).mono ?_); rintro e w' ⟨rfl, hbl⟩; obtain ⟨os1, n1, rfl⟩ := below_plus hbl; clear hbl)
        go_loopw [9, 43] (fun sn i wr => ∃ (j : Nat) (nm : List ByteArray) (Bn : Option Addr) (dn : Nat), j ≤ L.length ∧ sn = .slice Bn nm.length dn ∧ i = .int .i64 j ∧ Hid (OwnK 1 9 wr (w.heap.size + 1) (.slice Bn nm.length dn) nm.length (strV nm)) ∧ Hid (nm = (catK B A C k ++ L.take j).map (·.n)) ∧ Hid (nm.length ≤ 20 * k + j) ∧ Hid (Blk wr w.heap.size 30 #[.slice A0 B.length c0, .slice A1 A.length c1, .slice A2 C.length c2]) ∧ Hid (Below w.heap.size w wr)) (fun _ i _ => L.length - (intOf i).toNat)
        case atStart => exact ⟨0, nm, Bn, dn, Nat.zero_le _, rfl, rfl, hide (ownK_below HOW.out (by repeat (first | with_reducible exact Below.refl _ _ | with_reducible refine bl_plus ?_ | with_reducible refine bl_alloc ?_ _ | with_reducible refine bl_drew ?_ | with_reducible refine bl_drewN ?_ _))), hide (by rw [HNM.out, List.take_zero, List.append_nil]), hide (by have := HN.out; omega), hide (HAR.out.below (by repeat (first | with_reducible exact Below.refl _ _ | with_reducible refine bl_plus ?_ | with_reducible refine bl_alloc ?_ _ | with_reducible refine bl_drew ?_ | with_reducible refine bl_drewN ?_ _)) HAR.out.lt), hide (below_chain HB.out (by repeat (first | with_reducible exact Below.refl _ _ | with_reducible refine bl_plus ?_ | with_reducible refine bl_alloc ?_ _ | with_reducible refine bl_drew ?_ | with_reducible refine bl_drewN ?_ _)))⟩
        case round =>
          clear HOW HNM HN HAR HB
          obtain ⟨j, nm, Bn, dn, hj, rfl, rfl, HOW, HNM, HN, HAR2, HB2⟩ := hrel
          have h20 := HLN2.out.1
          by_cases hlt : j < L.length
          · obtain ⟨b', o', rfl, hb', hpr⟩ := (HPL.out.below HB2.out).2 (by omega)
            obtain ⟨y0, hsz, y1, y2, y3, y4, A9, c9, y5, -⟩ := (hpr j hlt).cells
            clear hpr
            have HLN := hide (fun (x : ByteArray) => (by simp : (nm ++ [x]).length = nm.length + 1))
            have HNX := hide (show nm ++ [L[j].n] = (catK B A C k ++ L.take (j + 1)).map (·.n) by rw [HNM.out, List.take_succ_eq_append_getElem hlt, ← List.append_assoc, List.map_append (l₂ := [L[j]])]; rfl)
            have i1 : (j : Int) < (L.length : Int) := by omega
            have HWS := hide (show w.heap.size + 1 ≤ wr.heap.size from HAR2.out.lt)
            obtain ⟨iS, hiS, hzS0, hzS1, hzS2⟩ := info_parts info_str
            have HIS := hide (And.intro hiS (And.intro hzS0 (And.intro hzS1 hzS2)))
            have HBG := hide (show (nm.length + 1) * iS.bytes ≤ 140737488355328 ∧ nm.length + 1 ≤ 140737488355328 by have h9 := HIS.out.2.2.2; rw [h9]; have := HN.out; have := HLN2.out; omega)
            clear hsz hiS hzS0 hzS1 hzS2
            generalize L[j] = x at *
            obtain ⟨pn, ⟨xk, xi, xt, xs, xl⟩⟩ := x
            simp only [V.k, V.i, V.t, V.s, V.l] at *
            have HLN := hide (HLN.out pn)
            go_wp2_with (first | (at_builtin; refine wpList_append_b rfl (.tmp 47) (.tmp 50) rfl rfl Tryz.underlying31 HIS.out.1 HIS.out.2.1 HIS.out.2.2.1 (by decide) rfl (by have := HIS.out.2.2.2; omega) (w.heap.size + 1) nm.length (.slice Bn nm.length dn) (strV nm) [.string pn] _ rfl (ownK_alloc (ownK_alloc HOW.out _) _) rfl (by intro u hu; simp only [List.mem_cons, List.not_mem_nil, or_false] at hu; rcases hu with rfl; rfl) rfl (newN_cells (cs := [.string pn]) (by first | rfl | simp only [World.size_alloc])) HBG.out (by simp only [World.size_alloc]; have := HWS.out; omega) ?_; intro v' w1 hown1 hgr1 hfr1; obtain ⟨A7, c7, rfl, _⟩ := ownK_form hown1; have HAR3 := hide ((HAR2.out.below (bl_alloc (bl_alloc (Below.refl _ _) (.cells #[.string pn, .int .i64 xk, .int .i64 xi, .int .i64 xt, .string xs, .slice A9 xl.length c9] 47)) (.cells #[.string pn] 9)) HAR2.out.lt).grown hgr1 (ownK_ne HOW.out (Nat.lt_succ_self _))); have HB3 := hide ((bl_alloc (bl_alloc HB2.out (.cells #[.string pn, .int .i64 xk, .int .i64 xi, .int .i64 xt, .string xs, .slice A9 xl.length c9] 47)) (.cells #[.string pn] 9)).grown hgr1 (by simp only [World.size_alloc]; have := HWS.out; omega) (fun k hk => by have := (HOW.out.lt k hk).1; omega)); rw [← HLN.out, ← strV_snoc] at hown1; have HOW3 := hide hown1; clear hown1 hgr1 hfr1))
            go_roundw
            case rel => exact ⟨j + 1, nm ++ [pn], A7, c7, hlt, by rw [HLN.out], by go_num, HOW3, HNX, hide (by rw [HLN.out]; have := HN.out; omega), HAR3, HB3⟩
            case measure => simp [intOf]; omega
          · obtain rfl : j = L.length := by omega
            have HNM3 := hide (show nm = (catK B A C (k + 1)).map (·.n) by rw [HNM.out, List.take_length, ← HL.out]; rfl)
            clear HNM
            go_wp2
            go_roundw
            case rel => exact ⟨k + 1, nm, Bn, dn, by omega, rfl, by go_num, hide (ownK_below HOW.out (by repeat (first | with_reducible exact Below.refl _ _ | with_reducible refine bl_plus ?_ | with_reducible refine bl_alloc ?_ _ | with_reducible refine bl_drew ?_ | with_reducible refine bl_drewN ?_ _))), HNM3, hide (by have := HN.out; have := HLN2.out; omega), hide (HAR2.out.below (by repeat (first | with_reducible exact Below.refl _ _ | with_reducible refine bl_plus ?_ | with_reducible refine bl_alloc ?_ _ | with_reducible refine bl_drew ?_ | with_reducible refine bl_drewN ?_ _)) HAR2.out.lt), hide (below_chain HB2.out (by repeat (first | with_reducible exact Below.refl _ _ | with_reducible refine bl_plus ?_ | with_reducible refine bl_alloc ?_ _ | with_reducible refine bl_drew ?_ | with_reducible refine bl_drewN ?_ _))), hide (fun q hq => by
              rcases Nat.lt_or_ge q k with h9 | h9
              · exact HE.out q h9
              · obtain rfl : q = k := by omega
                rw [HL.out]; exact HZ.out)⟩
            case measure => simp [intOf]; omega
      · have he2 : (propsErr L != 0) = true := bne_iff_ne.2 he
        have HE2 := hide (fun w' hb => HERR.out _ w' (HER.out he) he hb)
        clear he HER hk
        generalize propsErr L = E at *
        go_wp2_with (go_at_call 42; (refine (HCK.out _ (by repeat (first | with_reducible exact Below.refl _ _ | with_reducible refine bl_plus ?_ | with_reducible refine bl_alloc ?_ _ | with_reducible refine bl_drew ?_ | with_reducible refine bl_drewN ?_ _))).mono ?_); rintro e w' ⟨rfl, hbl⟩; obtain ⟨os1, n1, rfl⟩ := below_plus hbl; clear hbl)
        (try simp only [Exit.inBlock, Exit.then])
        exact HE2.out _ (below_chain HB.out (by repeat (first | with_reducible exact Below.refl _ _ | with_reducible refine bl_plus ?_ | with_reducible refine bl_alloc ?_ _ | with_reducible refine bl_drew ?_ | with_reducible refine bl_drewN ?_ _)))
    · obtain rfl : k = 3 := by omega
      rw [show (((3 : Nat) : Int)) = 3 from rfl]
      obtain ⟨hme, e0, e1, e2⟩ := mgErr_none HE.out
      have HF := hide (And.intro (few_props e0) (And.intro (few_props e1) (few_props e2)))
      have HME := hide hme
      have HN9 := hide (show nm.length ≤ 60 by have := HN.out; omega)
      have HWS := hide (show w.heap.size + 1 ≤ wr.heap.size from HAR.out.lt)
      clear hme e0 e1 e2 HE HAR HERR HP HN
      have HSZ := hide (fun x hx => names_size HPS.out.1 HPS.out.2.1 HPS.out.2.2 x (catK_mem.1 hx))
      go_wp2_with (first | (go_at_call 43; (refine (sortB_any _ (w.heap.size + 1) dn Bn nm (ownK_below HOW.out (by repeat (first | with_reducible exact Below.refl _ _ | with_reducible refine bl_plus ?_ | with_reducible refine bl_alloc ?_ _ | with_reducible refine bl_drew ?_ | with_reducible refine bl_drewN ?_ _))) (by have := HN9.out; omega)).mono ?_); rintro e w1 ⟨rfl, hown1, hgr1⟩; have HB1 := hide ((below_chain HB.out (by repeat (first | with_reducible exact Below.refl _ _ | with_reducible refine bl_plus ?_ | with_reducible refine bl_alloc ?_ _ | with_reducible refine bl_drew ?_ | with_reducible refine bl_drewN ?_ _))).grown hgr1 (by have := HWS.out; omega) (fun k hk => by have := (HOW.out.lt k hk).1; omega)); have HO1 := hide hown1; have HW1 := hide (Nat.le_trans HWS.out hgr1.size); clear hown1 hgr1) | (go_at_call 44; (refine (compactB_any _ (w.heap.size + 1) dn Bn nm (ownK_below HO1.out (by repeat (first | with_reducible exact Below.refl _ _ | with_reducible refine bl_plus ?_ | with_reducible refine bl_alloc ?_ _ | with_reducible refine bl_drew ?_ | with_reducible refine bl_drewN ?_ _))) (by have := HN9.out; omega)).mono ?_); rintro e w2 ⟨nms, rfl, hri, hmem, hnl, hsat, hgr1⟩; have HRI := hide hri; have HMEM := hide hmem; have HNL := hide hnl; have HSA := hide hsat; have HB2 := hide ((below_chain HB1.out (by repeat (first | with_reducible exact Below.refl _ _ | with_reducible refine bl_plus ?_ | with_reducible refine bl_alloc ?_ _ | with_reducible refine bl_drew ?_ | with_reducible refine bl_drewN ?_ _))).grown hgr1 (by have := HW1.out; omega) (fun k hk => by have := (HO1.out.lt k hk).1; omega)); clear hri hmem hnl hsat hgr1))
      have HNL := hide (Nat.le_trans HNL.out HN9.out)
      have HMEM := hide (show ∀ x, x ∈ nms ↔ x ∈ allNames B A C from fun x => (HMEM.out x).trans (by rw [HNM.out]; exact catK_mem))
      have HSZ := hide (fun (x : ByteArray) (hx : x ∈ nms) => names_size HPS.out.1 HPS.out.2.1 HPS.out.2.2 x ((HMEM.out x).1 hx))
      clear HN9 HNM HO1 HW1 HB1 HOW HB HWS
      go_loopw [15, 16, 59] (fun so sc i wr => ∃ (q : Nat) (l : List PR) (cl : List ByteArray) (B1 B2 : Option Addr) (d1 d2 : Nat), q ≤ nms.length ∧ so = .slice B1 l.length d1 ∧ sc = .slice B2 cl.length d2 ∧ i = .int .i64 q ∧ Hid (PsAt wr B1 l) ∧ Hid (OwnS 9 wr w2.heap.size (.slice B2 cl.length d2) cl.length (strV cl)) ∧ Hid (Below w2.heap.size w2 wr) ∧ Hid (l = (mgAll B A C (nms.take q)).1 ∧ cl = (mgAll B A C (nms.take q)).2) ∧ Hid (l.length ≤ q ∧ cl.length ≤ q)) (fun _ _ i _ => nms.length - (intOf i).toNat)
      case atStart => exact ⟨0, [], [], none, none, 0, 0, Nat.zero_le _, rfl, rfl, rfl, hide ⟨Nat.zero_le _, fun h => absurd h (by simp)⟩, hide OwnS.empty, hide (Below.refl _ _), hide ⟨rfl, rfl⟩, hide ⟨Nat.le_refl _, Nat.le_refl _⟩⟩
      case round =>
        obtain ⟨q, l, cl, B1, B2, d1, d2, hq, rfl, rfl, rfl, HPL, HOS, HBB, HST, HLE⟩ := hrel
        have HB := hide (below_chain HB2.out HBB.out)
        have HW2 := hide HBB.out.size
        by_cases hlt : q < nms.length
        · obtain ⟨b', o', rfl, hb', hs⟩ := HSA.out.2 (by omega)
          have hcell : wr.cell? ⟨b', o' + q, none⟩ = some (.string nms[q]) := (HBB.out.cell (p := ⟨b', o' + q, none⟩) hb').trans (hs q hlt)
          have HNZ := hide (HSZ.out nms[q] (List.getElem_mem hlt))
          have HNL3 := hide (show nms.length ≤ 60 from HNL.out)
          have h60 : nms.length ≤ 60 := HNL.out
          have i1 : (q : Int) < (nms.length : Int) := by omega
          have HLE2 := hide (mgAll_names (B := B) (A := A) (C := C) (q + 1) nms hlt).2.1
          have hnm := mgAll_sorted (B := B) (A := A) (C := C) HRI.out q (by omega)
          have hbf : ∀ p ∈ l, p.n ≠ nms[q] ∧ compareBytes (nameB p) nms[q].data.toList < 0 := fun p hp => rise_ne HRI.out hlt p.n ((mgAll_names (B := B) (A := A) (C := C) q nms (by omega)).1 p (by rw [← HST.out.1]; exact hp))
          have HSTP0 := hide (mgAll_take B A C hlt)
          have hnm1 : Named l := by rw [HST.out.1]; exact hnm.1
          have hnm2 : l.Pairwise (fun p q => ¬ compareBytes (nameB q) (nameB p) < 0) := by rw [HST.out.1]; exact hnm.2
          clear hs hnm
          generalize nms[q] = x at *
          have HF3 := hide (And.intro (gv_few HF.out.1 x) (And.intro (gv_few HF.out.2.1 x) (gv_few HF.out.2.2 x)))
          have HWI := hide (fun (G : Option Addr) (g : Nat) (W : World) (hp : PsAt W B1 l) (hv : LAt W G (mValue (gv B x) (gv A x) (gv C x)).1.l) => withM_any B1 d1 l (mgAll B A C (nms.take (q + 1))).1 x (mValue (gv B x) (gv A x) (gv C x)).1 G g W hp (by have := HLE.out.1; have := HNL3.out; omega) HNZ.out hv hnm1 hbf hnm2 (by rw [HSTP0.out, HST.out.1]; rfl))
          have HSTP := hide (show (mgAll B A C (nms.take (q + 1))).2 = if (mValue (gv B x) (gv A x) (gv C x)).2 = true then (mgAll B A C (nms.take q)).2 ++ [x] else (mgAll B A C (nms.take q)).2 by rw [HSTP0.out]; rfl)
          clear HSTP0 hbf hnm1 hnm2
          have HG0 := hide (fun W (hb : Below wr.heap.size wr W) => getRM_any A0 c0 B x W (HPS.out.1.below (below_chain HB.out hb)))
          have HG1 := hide (fun W (hb : Below wr.heap.size wr W) => getRM_any A1 c1 A x W (HPS.out.2.1.below (below_chain HB.out hb)))
          have HG2 := hide (fun W (hb : Below wr.heap.size wr W) => getRM_any A2 c2 C x W (HPS.out.2.2.below (below_chain HB.out hb)))
          have HMV := hide (fun G0 g0 G1 g1 G2 g2 W h0 h1 h2 => mergeValueR_any (gv B x) (gv A x) (gv C x) G0 G1 G2 g0 g1 g2 W h0 h1 h2 ⟨HF3.out.1.1, HF3.out.2.1.1, HF3.out.2.2.1⟩)
          unfold MvOut at HMV
          generalize mValue (gv B x) (gv A x) (gv C x) = Q at *
          clear HF3
          generalize gv B x = vb at *
          generalize gv A x = va at *
          generalize gv C x = vc at *
          obtain ⟨⟨xk, xi, xt, xs, xl⟩, cz⟩ := Q
          obtain ⟨bk, bi, bt, bs, bl⟩ := vb
          obtain ⟨ak, ai, at_, as_, al⟩ := va
          obtain ⟨zk, zi, zt, zs, zl⟩ := vc
          obtain ⟨fz, hfz⟩ : ∃ fz, cz = !fz := ⟨!cz, by simp⟩
          subst hfz
          simp only [V.arg, V.k, V.i, V.t, V.s, V.l, Bool.not_not] at HG0 HG1 HG2 HMV HSTP HWI
          generalize hl2 : (mgAll B A C (nms.take (q + 1))).1 = l2 at HWI HLE2
          have HLQ := hide hl2.symm
          clear hl2
          go_upto_region 23 with (first | (go_at_call_of 45 (Value.slice A0 B.length c0); (refine (HG0.out _ (by repeat (first | with_reducible exact Below.refl _ _ | with_reducible refine bl_plus ?_ | with_reducible refine bl_alloc ?_ _ | with_reducible refine bl_drew ?_ | with_reducible refine bl_drewN ?_ _))).mono ?_); rintro e W0 ⟨G0, g0, e0, rfl, hl, hbl⟩; have HB10 := hide (below_chain (w := wr) (by repeat (first | with_reducible exact Below.refl _ _ | with_reducible refine bl_plus ?_ | with_reducible refine bl_alloc ?_ _ | with_reducible refine bl_drew ?_ | with_reducible refine bl_drewN ?_ _)) hbl); have HGL0 := hide hl; clear hl hbl) | (go_at_call_of 45 (Value.slice A1 A.length c1); (refine (HG1.out _ (by repeat (first | with_reducible exact HB10.out | with_reducible refine bl_plus ?_ | with_reducible refine bl_alloc ?_ _ | with_reducible refine bl_drew ?_ | with_reducible refine bl_drewN ?_ _))).mono ?_); rintro e W1 ⟨G1, g1, e1, rfl, hl, hbl⟩; have HB11 := hide (below_chain (w := wr) (by repeat (first | with_reducible exact HB10.out | with_reducible refine bl_plus ?_ | with_reducible refine bl_alloc ?_ _ | with_reducible refine bl_drew ?_ | with_reducible refine bl_drewN ?_ _)) hbl); have HBS1 := hide (below_chain (w := W0) (by repeat (first | with_reducible exact Below.refl _ _ | with_reducible refine bl_plus ?_ | with_reducible refine bl_alloc ?_ _ | with_reducible refine bl_drew ?_ | with_reducible refine bl_drewN ?_ _)) hbl); have HXB0 := hide (boxV_of (w := W0) (W := W1) (y := .mk bk bi bt bs bl) (B := G0) (d := g0) (g := W0.heap.size) rfl (by exact hbl)); have HGL1 := hide hl; clear hl hbl) | (go_at_call_of 45 (Value.slice A2 C.length c2); (refine (HG2.out _ (by repeat (first | with_reducible exact HB11.out | with_reducible refine bl_plus ?_ | with_reducible refine bl_alloc ?_ _ | with_reducible refine bl_drew ?_ | with_reducible refine bl_drewN ?_ _))).mono ?_); rintro e W2 ⟨G2, g2, e2, rfl, hl, hbl⟩; have HB12 := hide (below_chain (w := wr) (by repeat (first | with_reducible exact HB11.out | with_reducible refine bl_plus ?_ | with_reducible refine bl_alloc ?_ _ | with_reducible refine bl_drew ?_ | with_reducible refine bl_drewN ?_ _)) hbl); have HBS2 := hide (below_chain (w := W1) (by repeat (first | with_reducible exact Below.refl _ _ | with_reducible refine bl_plus ?_ | with_reducible refine bl_alloc ?_ _ | with_reducible refine bl_drew ?_ | with_reducible refine bl_drewN ?_ _)) hbl); have HXB1 := hide (boxV_of (w := W1) (W := W2) (y := .mk ak ai at_ as_ al) (B := G1) (d := g1) (g := W1.heap.size) rfl (by exact hbl)); have HGL2 := hide hl; clear hl hbl))
          obtain ⟨x0, x1, x2, x3, x4, xl0⟩ := HXB0.out.below (below_chain HBS2.out (show Below W2.heap.size W2 (W2.alloc (.cells #[.int .i64 zk, .int .i64 zi, .int .i64 zt, .string zs, .slice G2 zl.length g2] 24)) from (by repeat (first | with_reducible exact Below.refl _ _ | with_reducible refine bl_plus ?_ | with_reducible refine bl_alloc ?_ _ | with_reducible refine bl_drew ?_ | with_reducible refine bl_drewN ?_ _))))
          obtain ⟨y0, y1, y2, y3, y4, yl0⟩ := HXB1.out.below (show Below W2.heap.size W2 (W2.alloc (.cells #[.int .i64 zk, .int .i64 zi, .int .i64 zt, .string zs, .slice G2 zl.length g2] 24)) from (by repeat (first | with_reducible exact Below.refl _ _ | with_reducible refine bl_plus ?_ | with_reducible refine bl_alloc ?_ _ | with_reducible refine bl_drew ?_ | with_reducible refine bl_drewN ?_ _)))
          simp only [V.k, V.i, V.t, V.s, V.l] at x0 x1 x2 x3 x4 y0 y1 y2 y3 y4
          clear HXB0 HXB1 HG0 HG1 HG2
          go_upto_region 24 with (go_at_call 46; (refine (HMV.out _ _ _ _ _ _ _ (HGL0.out.below (below_chain HBS1.out (below_chain HBS2.out (by repeat (first | with_reducible exact Below.refl _ _ | with_reducible refine bl_plus ?_ | with_reducible refine bl_alloc ?_ _ | with_reducible refine bl_drew ?_ | with_reducible refine bl_drewN ?_ _))))) (HGL1.out.below (below_chain HBS2.out (by repeat (first | with_reducible exact Below.refl _ _ | with_reducible refine bl_plus ?_ | with_reducible refine bl_alloc ?_ _ | with_reducible refine bl_drew ?_ | with_reducible refine bl_drewN ?_ _)))) (HGL2.out.below (by repeat (first | with_reducible exact Below.refl _ _ | with_reducible refine bl_plus ?_ | with_reducible refine bl_alloc ?_ _ | with_reducible refine bl_drew ?_ | with_reducible refine bl_drewN ?_ _)))).mono ?_); rintro e W3 ⟨G3, g3, rfl, hl, hbl⟩; have HB13 := hide (below_chain (w := wr) (by repeat (first | with_reducible exact HB12.out | with_reducible refine bl_plus ?_ | with_reducible refine bl_alloc ?_ _ | with_reducible refine bl_drew ?_ | with_reducible refine bl_drewN ?_ _)) hbl); have HGL3 := hide hl; clear hl hbl)
          clear HMV x0 x1 x2 x3 x4 xl0 y0 y1 y2 y3 y4 yl0 HGL0 HGL1 HGL2 HBS1 HBS2 HB10 HB11 HB12
          have HWI := hide (HWI.out G3 g3)
          obtain ⟨iS, hiS, hzS0, hzS1, hzS2⟩ := info_parts info_str
          have HIS := hide (And.intro hiS (And.intro hzS0 (And.intro hzS1 hzS2)))
          clear hiS hzS0 hzS1 hzS2
          have HBG2 := hide (show (cl.length + 1) * iS.bytes ≤ 140737488355328 ∧ cl.length + 1 ≤ 140737488355328 by have h9 := HIS.out.2.2.2; rw [h9]; have := HLE.out.2; have := HNL3.out; omega)
          cases fz with
          | false =>
            have HLC := hide (show (cl ++ [x]).length = cl.length + 1 by simp)
            have HST2 := hide (show cl ++ [x] = (mgAll B A C (nms.take (q + 1))).2 by rw [HSTP.out, HST.out.2]; rfl)
            clear HSTP
            go_wp2_with (first | (at_builtin; refine wpList_append_s rfl (.tmp 90) (.tmp 92) rfl rfl Tryz.underlying31 HIS.out.1 HIS.out.2.1 HIS.out.2.2.1 rfl ⟨_, rfl⟩ (by have := HIS.out.2.2.2; omega) w2.heap.size cl.length (.slice B2 cl.length d2) (strV cl) (.string x) _ rfl (HOS.out.below (bl_alloc (bl_alloc HB13.out (.cells #[.int .i64 xk, .int .i64 xi, .int .i64 xt, .string xs, .slice G3 xl.length g3] 24)) _)) rfl ⟨_, rfl⟩ rfl ((blk_of (w := W3.alloc (.cells #[.int .i64 xk, .int .i64 xi, .int .i64 xt, .string xs, .slice G3 xl.length g3] 24)) (T := 9) (cs := #[.string x]) (by simp only [World.size_alloc]) (Below.refl _ _)).cell 0) HBG2.out (by simp only [World.size_alloc]; have := HB13.out.size; have := HW2.out; omega) ?_; intro v' w8 hown1 hgr1 hfr1; obtain ⟨A7, c7, rfl, _⟩ := ownK_form hown1.1; have HHI := hide ((HOS.out.below (bl_alloc (bl_alloc HB13.out (.cells #[.int .i64 xk, .int .i64 xi, .int .i64 xt, .string xs, .slice G3 xl.length g3] 24)) (.cells #[.string x] 9))).hasI hgr1); have HS8 := hide hgr1.size; obtain ⟨v0, v1, v2, v3, v4, vl⟩ := boxV_int HHI.out HS8.out ((boxV_new W3 (.mk xk xi xt xs xl) G3 g3).below (bl_alloc (Below.refl _ _) (.cells #[.string x] 9))); have HB18 := hide ((below_chain HBB.out (bl_alloc (bl_alloc HB13.out (.cells #[.int .i64 xk, .int .i64 xi, .int .i64 xt, .string xs, .slice G3 xl.length g3] 24)) (.cells #[.string x] 9))).grown hgr1 (by simp only [World.size_alloc]; have := HB13.out.size; have := HW2.out; omega) (fun k hk => (HOS.out.1.lt k hk).1)); have HP8 := hide (psAt_int HHI.out HS8.out (HPL.out.below (bl_alloc (bl_alloc HB13.out (.cells #[.int .i64 xk, .int .i64 xi, .int .i64 xt, .string xs, .slice G3 xl.length g3] 24)) (.cells #[.string x] 9)))); have HL8 := hide (lAt_int HHI.out HS8.out (HGL3.out.below (bl_alloc (bl_alloc (Below.refl _ _) (.cells #[.int .i64 xk, .int .i64 xi, .int .i64 xt, .string xs, .slice G3 xl.length g3] 24)) (.cells #[.string x] 9)))); rw [← HLC.out, ← strV_snoc] at hown1; have HOS8 := hide hown1; simp only [V.k, V.i, V.t, V.s, V.l] at v0 v1 v2 v3 v4; clear hown1 hgr1 hfr1) | (go_at_call 47; (refine (HWI.out _ (HP8.out.below (by repeat (first | with_reducible exact Below.refl _ _ | with_reducible refine bl_plus ?_ | with_reducible refine bl_alloc ?_ _ | with_reducible refine bl_drew ?_ | with_reducible refine bl_drewN ?_ _))) (HL8.out.below (by repeat (first | with_reducible exact Below.refl _ _ | with_reducible refine bl_plus ?_ | with_reducible refine bl_alloc ?_ _ | with_reducible refine bl_drew ?_ | with_reducible refine bl_drewN ?_ _)))).mono ?_); rintro e w9 ⟨A6, c6, rfl, hps, hbl⟩; have HP9 := hide hps; have HB19 := hide (below_chain HB18.out (below_chain (by repeat (first | with_reducible exact Below.refl _ _ | with_reducible refine bl_plus ?_ | with_reducible refine bl_alloc ?_ _ | with_reducible refine bl_drew ?_ | with_reducible refine bl_drewN ?_ _)) hbl)); have HOS9 := hide (HOS8.out.below (below_chain (by repeat (first | with_reducible exact Below.refl _ _ | with_reducible refine bl_plus ?_ | with_reducible refine bl_alloc ?_ _ | with_reducible refine bl_drew ?_ | with_reducible refine bl_drewN ?_ _)) hbl)); clear hps hbl))
            go_roundw
            case rel => exact ⟨q + 1, _, cl ++ [x], A6, A7, c6, c7, hlt, rfl, by rw [HLC.out], by go_num, HP9, HOS9, HB19, hide ⟨HLQ.out, HST2.out⟩, hide ⟨HLE2.out, by rw [HLC.out]; have := HLE.out.2; omega⟩⟩
            case measure => simp [intOf]; omega
          | true =>
            have HST2 := hide (show cl = (mgAll B A C (nms.take (q + 1))).2 by rw [HSTP.out, HST.out.2]; rfl)
            clear HSTP
            go_wp2_with (first | (go_at_call 47; (refine (HWI.out _ (HPL.out.below (bl_alloc HB13.out _)) (HGL3.out.below (by repeat (first | with_reducible exact Below.refl _ _ | with_reducible refine bl_plus ?_ | with_reducible refine bl_alloc ?_ _ | with_reducible refine bl_drew ?_ | with_reducible refine bl_drewN ?_ _)))).mono ?_); rintro e w9 ⟨A6, c6, rfl, hps, hbl⟩; have HP9 := hide hps; have HB19 := hide (below_chain HBB.out (below_chain (bl_alloc HB13.out (.cells #[.int .i64 xk, .int .i64 xi, .int .i64 xt, .string xs, .slice G3 xl.length g3] 24)) hbl)); have HOS9 := hide (HOS.out.below (below_chain (bl_alloc HB13.out (.cells #[.int .i64 xk, .int .i64 xi, .int .i64 xt, .string xs, .slice G3 xl.length g3] 24)) hbl)); clear hps hbl))
            go_roundw
            case rel => exact ⟨q + 1, _, cl, A6, B2, c6, d2, hlt, rfl, rfl, by go_num, HP9, HOS9, HB19, hide ⟨HLQ.out, HST2.out⟩, hide ⟨HLE2.out, by have := HLE.out.2; omega⟩⟩
            case measure => simp [intOf]; omega
        · obtain rfl : q = nms.length := by omega
          have HALL := hide (show l = (mgAll B A C nms).1 ∧ cl = (mgAll B A C nms).2 by have := HST.out; rwa [List.take_length] at this)
          clear HST
          by_cases h20 : 20 < l.length
          · have i9 : (20 : Int) < (l.length : Int) := by omega
            have HZ := hide (HBIG.out nms wr HME.out HRI.out HMEM.out (by rw [← HALL.out.1]; exact h20) HB.out)
            clear h20
            go_wp2
            (try simp only [Exit.inBlock, Exit.then])
            exact HZ.out
          · have i9 : ¬ (20 : Int) < (l.length : Int) := by omega
            have HZ := hide (HFIN.out nms B1 B2 d1 d2 l.length cl.length wr HME.out HRI.out HMEM.out (by rw [← HALL.out.1]; exact h20) (by rw [← HALL.out.1]) (by rw [← HALL.out.2]) (by rw [← HALL.out.1]; exact HPL.out) (by rw [← HALL.out.2]; exact (sAt_of_own HOS.out.1).2.2) HB.out)
            clear h20
            go_wp2
            (try simp only [Exit.inBlock, Exit.then])
            exact HZ.out


end Go.Proofs.YtdncmjlakmkfiaaGreatDoor
