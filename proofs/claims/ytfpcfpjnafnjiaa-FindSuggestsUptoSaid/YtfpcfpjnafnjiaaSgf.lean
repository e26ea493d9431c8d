/-
  WALK: an index is right, in the reference.
-/
import Derived.Test.YtfpcfpjnafnjiaaSge
set_option linter.all false
namespace Go.Proofs.Ytfpcfpjnafnjiaa
open Go.RowKit Go.Lib Go.Maps

theorem nsErr_any {sz : Int} {l : List Int} (h : l.any (fun a => decide (a < 0 ∨ sz ≤ a)) = true) : nsErr sz l = 2 := by
  obtain ⟨a, ha, h2⟩ := List.any_eq_true.1 h
  obtain ⟨k, hk, rfl⟩ := List.mem_iff_getElem.1 ha
  refine nsErr_far hk ?_
  unfold farE
  rw [gN_eq hk, if_pos (of_decide_eq_true h2)]
  decide
theorem nsErr_all {sz : Int} {l : List Int} (h : l.any (fun a => decide (a < 0 ∨ sz ≤ a)) = false) : ∀ j, j < l.length → farE sz l j = 0 := fun j hj => by
  have h2 := List.any_eq_false.1 h l[j] (List.getElem_mem hj)
  unfold farE
  rw [gN_eq hj, if_neg (fun g => h2 (decide_eq_true g))]

set_option maxHeartbeats 25600000 in
set_option maxRecDepth 100000 in
theorem indexFault_any (E : List En) (T : List Te) (A B : Option Addr) (cA cB : Nat) (w : World) (hE : EnsAt w A E) (hT : TesAt w B T) (hs : ∀ t ∈ T, t.t.size ≤ 1900000) :
    Calls Try.prog 20 #[.agg #[.slice A E.length cA, .slice B T.length cB]] w fun e w' => e = .returned (.int .i64 (ixErr E T)) ∧ Below w.heap.size w w' := by
  have hm := hE.1
  have hm2 := hT.1
  unfold maxLen at hm hm2
  have HEN := hide hE
  have HTE := hide hT
  have HS := hide hs
  clear hE hT hs
  by_cases h20 : 2000 < E.length
  · rw [ixErr_ents (by rw [entsErr_many h20]; decide), entsErr_many h20]
    have i1 : (2000 : Int) < (E.length : Int) := by omega
    clear HEN HTE HS
    go_enter Try.func20, Try.ntmps20
    go_wp2
    go_ret
    exact ⟨rfl, (by repeat (first | with_reducible exact Below.refl _ _ | with_reducible refine bl_plus ?_ | with_reducible refine bl_alloc ?_ _ | with_reducible refine bl_drew ?_ | with_reducible refine bl_drewN ?_ _))⟩
  have HF := hide (fun k hk h hne => (by
    have h1 := entsErr_first (l := E) (k := k) h20 hk h hne
    rw [ixErr_ents (by rw [h1]; exact hne), h1] : ixErr E T = entErr E k))
  have HN := hide (fun h => (ixErr_terms (entsErr_none (l := E) h20 h) : ixErr E T = firstE (termErr E T) T.length))
  have HZ := hide (fun h => entsErr_none (l := E) h20 h)
  have hmm := @run_makeMap Try.prog
  generalize ixErr E T = R at *
  have i1 : ¬ (2000 : Int) < (E.length : Int) := by omega
  go_enter Try.func20, Try.ntmps20
  go_wp2
  go_loopw [22] (fun i wr => ∃ (q : Nat) (os1 : Array Obj) (n1 : Nat), q ≤ E.length ∧ i = .int .i64 q ∧ Hid (∀ j, j < q → entErr E j = 0) ∧ wr = plus (w.alloc (.cells #[.slice A E.length cA, .slice B T.length cB] 25)) os1 n1 ∧ Hid (wr.ownsMap Try.prog 3 (plainElem Try.prog 3) (w.heap.size + 1) q (mapE (E.take q)))) (fun i _ => E.length - (RowKit.intOf i).toNat)
  case atStart => exact ⟨0, #[.map #[] 0], _, Nat.zero_le _, rfl, hide (fun j hj => by omega), alloc_plusG, hide (by
    have := World.ownsMap_made (H := Unit) (w.alloc (.cells #[.slice A E.length cA, .slice B T.length cB] 25)) Try.prog 3 (plainElem Try.prog 3)
    simp only [plus_size, World.size_alloc] at this
    exact this)⟩
  case round =>
    obtain ⟨q, os1, n1, hq, rfl, HK, rfl, HMAP⟩ := hrel
    by_cases hlt : q < E.length
    · obtain ⟨b, o, rfl, hb, hv⟩ := HEN.out.2 (by omega)
      obtain ⟨c0, c1⟩ := hv q hlt
      have hf : entErr E q ≠ 0 → R = entErr E q := fun h => HF.out q hlt HK.out h
      have HNXT := hide (fun (h : entErr E q = 0) j (hj : j < q + 1) => (by
        rcases Nat.lt_or_ge j q with g | g
        · exact HK.out j g
        · obtain rfl : j = q := by omega
          exact h : entErr E j = 0))
      have HMK := hide (show mapE (E.take (q + 1)) = (mapE (E.take q)).put (kI E[q].id) (.lit (.int .i64 E[q].sz)) by rw [List.take_succ_eq_append_getElem hlt, mapE_snoc])
      have hcs := entErr_cases hlt
      have HV := hide hv
      clear hv HF HN HZ HTE HS HEN HK
      rcases Nat.eq_zero_or_pos q with hq0 | hq0
      · have hg : decide (0 < q) = false := decide_eq_false (by omega)
        clear HV
        generalize entErr E q = er at *
        generalize gE E (q - 1) = z at *
        generalize E[q] = x at *
        generalize mapE (E.take q) = D at *
        obtain ⟨xid, xsz⟩ := x
        simp only at c0 c1 hcs HMK
        rcases hcs with ⟨h1, hE⟩ | ⟨h1, HCS⟩
        · clear hq0; obtain rfl := hf (by omega)
          subst hE
          rcases h1 with h1 | h1
          · go_wp2
            go_ret
            exact ⟨rfl, (by repeat (first | with_reducible exact Below.refl _ _ | with_reducible refine bl_plus ?_ | with_reducible refine bl_alloc ?_ _ | with_reducible refine bl_drew ?_ | with_reducible refine bl_drewN ?_ _))⟩
          · have h1b : ¬ xid < 1 := by omega
            go_wp2
            go_ret
            exact ⟨rfl, (by repeat (first | with_reducible exact Below.refl _ _ | with_reducible refine bl_plus ?_ | with_reducible refine bl_alloc ?_ _ | with_reducible refine bl_drew ?_ | with_reducible refine bl_drewN ?_ _))⟩
        have h1a : ¬ xid < 1 := by omega
        have h1b : ¬ 1000000 < xid := by omega
        rcases HCS with ⟨hlt0, _, _⟩ | ⟨hgt, HCS⟩
        · exact absurd hlt0 (by omega)
        clear hgt hq0
        rcases HCS with ⟨h2, hE⟩ | ⟨h2, hE⟩
        · obtain rfl := hf (by omega)
          subst hE
          rcases h2 with h2 | h2
          · go_upto_region 9 with (fail)
            go_quiet (fail)
            go_wp2
            go_ret
            exact ⟨rfl, (by repeat (first | with_reducible exact Below.refl _ _ | with_reducible refine bl_plus ?_ | with_reducible refine bl_alloc ?_ _ | with_reducible refine bl_drew ?_ | with_reducible refine bl_drewN ?_ _))⟩
          · have h2b : ¬ xsz < 0 := by omega
            go_upto_region 9 with (fail)
            go_quiet (fail)
            go_wp2
            go_ret
            exact ⟨rfl, (by repeat (first | with_reducible exact Below.refl _ _ | with_reducible refine bl_plus ?_ | with_reducible refine bl_alloc ?_ _ | with_reducible refine bl_drew ?_ | with_reducible refine bl_drewN ?_ _))⟩
        have h2a : ¬ xsz < 0 := by omega
        have h2b : ¬ 2000 < xsz := by omega
        have HKEY := hide (keyOf_int_mk (P := Try.prog) Try.underlying3 (wf_small (n := xid) (by omega) (by omega)))
        have HEL := hide (plainElem_int (P := Try.prog) (H := Unit) Try.underlying3 (wf_small (n := xsz) (by omega) (by omega)))
        subst hE
        go_upto_region 9 with (fail)
        go_quiet (fail)
        go_wp2_with (at_mapUpdate; go_loud (refine wpList_mapUpdate_own _ rfl _ _ _ 64 rfl 3 3 keyI Try.underlying64 (plainElem Try.prog 3) (w.heap.size + 1) q _ rfl (own_below HMAP.out (by repeat (first | with_reducible exact Below.refl _ _ | with_reducible refine bl_plus ?_ | with_reducible refine bl_alloc ?_ _ | with_reducible refine bl_drew ?_ | with_reducible refine bl_drewN ?_ _))) (by unfold maxLen; omega) _ _ _ rfl rfl HKEY.out _ [] HEL.out ?_; intro w2 hown2 hgrow2; have HM3 := hide (hown2); obtain ⟨os10, n10, rfl⟩ := grown_plus (L := (w.alloc (.cells #[.slice (some ⟨b, o, none⟩) E.length cA, .slice B T.length cB] 25))) (by repeat (first | with_reducible exact Below.refl _ _ | with_reducible refine bl_plus ?_ | with_reducible refine bl_alloc ?_ _ | with_reducible refine bl_drew ?_ | with_reducible refine bl_drewN ?_ _)) hgrow2 (fun k hk => by have := Option.some.inj hk; simp only [plus_size, World.size_alloc]; omega); clear hown2 hgrow2))
        go_roundw
        case rel => exact ⟨q + 1, os10, n10, hlt, by go_num, hide (HNXT.out (by trivial)), rfl, hide (by rw [HMK.out]; exact HM3.out)⟩
        case measure => simp [RowKit.intOf]; omega
      · obtain ⟨m, rfl⟩ : ∃ m, q = m + 1 := ⟨q - 1, by omega⟩
        rw [show m + 1 - 1 = m from rfl, gE_eq (show m < E.length by omega)] at hcs
        have d0 := (HV.out m (by omega)).1
        have hg : (0 : Int) < ((m + 1 : Nat) : Int) := by omega
        clear HV hq0
        generalize entErr E (m + 1) = er at *
        generalize E[m + 1] = x at *
        generalize E[m] = z at *
        generalize mapE (E.take (m + 1)) = D at *
        obtain ⟨xid, xsz⟩ := x
        obtain ⟨zid, zsz⟩ := z
        simp only at c0 c1 d0 hcs HMK
        rcases hcs with ⟨h1, hE⟩ | ⟨h1, HCS⟩
        · obtain rfl := hf (by omega)
          subst hE
          rcases h1 with h1 | h1
          · go_wp2
            go_ret
            exact ⟨rfl, (by repeat (first | with_reducible exact Below.refl _ _ | with_reducible refine bl_plus ?_ | with_reducible refine bl_alloc ?_ _ | with_reducible refine bl_drew ?_ | with_reducible refine bl_drewN ?_ _))⟩
          · have h1b : ¬ xid < 1 := by omega
            go_wp2
            go_ret
            exact ⟨rfl, (by repeat (first | with_reducible exact Below.refl _ _ | with_reducible refine bl_plus ?_ | with_reducible refine bl_alloc ?_ _ | with_reducible refine bl_drew ?_ | with_reducible refine bl_drewN ?_ _))⟩
        have h1a : ¬ xid < 1 := by omega
        have h1b : ¬ 1000000 < xid := by omega
        rcases HCS with ⟨hlt0, hle, hE⟩ | ⟨hgt, HCS⟩
        · obtain rfl := hf (by omega)
          subst hE
          clear hlt0
          go_upto_region 9 with (fail)
          go_quiet (fail)
          go_wp2
          go_ret
          exact ⟨rfl, (by repeat (first | with_reducible exact Below.refl _ _ | with_reducible refine bl_plus ?_ | with_reducible refine bl_alloc ?_ _ | with_reducible refine bl_drew ?_ | with_reducible refine bl_drewN ?_ _))⟩
        have hgt2 : ¬ xid ≤ zid := by omega
        clear hgt
        rcases HCS with ⟨h2, hE⟩ | ⟨h2, hE⟩
        · obtain rfl := hf (by omega)
          subst hE
          rcases h2 with h2 | h2
          · go_upto_region 9 with (fail)
            go_quiet (fail)
            go_wp2
            go_ret
            exact ⟨rfl, (by repeat (first | with_reducible exact Below.refl _ _ | with_reducible refine bl_plus ?_ | with_reducible refine bl_alloc ?_ _ | with_reducible refine bl_drew ?_ | with_reducible refine bl_drewN ?_ _))⟩
          · have h2b : ¬ xsz < 0 := by omega
            go_upto_region 9 with (fail)
            go_quiet (fail)
            go_wp2
            go_ret
            exact ⟨rfl, (by repeat (first | with_reducible exact Below.refl _ _ | with_reducible refine bl_plus ?_ | with_reducible refine bl_alloc ?_ _ | with_reducible refine bl_drew ?_ | with_reducible refine bl_drewN ?_ _))⟩
        have h2a : ¬ xsz < 0 := by omega
        have h2b : ¬ 2000 < xsz := by omega
        have HKEY := hide (keyOf_int_mk (P := Try.prog) Try.underlying3 (wf_small (n := xid) (by omega) (by omega)))
        have HEL := hide (plainElem_int (P := Try.prog) (H := Unit) Try.underlying3 (wf_small (n := xsz) (by omega) (by omega)))
        subst hE
        go_upto_region 9 with (fail)
        go_quiet (fail)
        go_wp2_with (at_mapUpdate; go_loud (refine wpList_mapUpdate_own _ rfl _ _ _ 64 rfl 3 3 keyI Try.underlying64 (plainElem Try.prog 3) (w.heap.size + 1) (m + 1) _ rfl (own_below HMAP.out (by repeat (first | with_reducible exact Below.refl _ _ | with_reducible refine bl_plus ?_ | with_reducible refine bl_alloc ?_ _ | with_reducible refine bl_drew ?_ | with_reducible refine bl_drewN ?_ _))) (by unfold maxLen; omega) _ _ _ rfl rfl HKEY.out _ [] HEL.out ?_; intro w2 hown2 hgrow2; have HM3 := hide (hown2); obtain ⟨os10, n10, rfl⟩ := grown_plus (L := (w.alloc (.cells #[.slice (some ⟨b, o, none⟩) E.length cA, .slice B T.length cB] 25))) (by repeat (first | with_reducible exact Below.refl _ _ | with_reducible refine bl_plus ?_ | with_reducible refine bl_alloc ?_ _ | with_reducible refine bl_drew ?_ | with_reducible refine bl_drewN ?_ _)) hgrow2 (fun k hk => by have := Option.some.inj hk; simp only [plus_size, World.size_alloc]; omega); clear hown2 hgrow2))
        go_roundw
        case rel => exact ⟨m + 2, os10, n10, hlt, by go_num, hide (HNXT.out (by trivial)), rfl, hide (by rw [HMK.out]; exact HM3.out)⟩
        case measure => simp [RowKit.intOf]; omega
    · obtain rfl : q = E.length := by omega
      rw [List.take_length] at HMAP
      have hE0 := HZ.out HK.out
      have hR := HN.out HK.out
      have HN2 := hide (fun h => hR.trans (firstE_none (f := termErr E T) (n := T.length) h))
      have HF2 := hide (fun k h hne hk => hR.trans (firstE_first (f := termErr E T) (k := k) h hne (n := T.length) hk))
      have HSZ := hide (sizeE_range (ents_sizes hE0))
      clear HF HN HZ HK HEN hE0 hR hlt hq i1
      go_wp2
      go_loopw [69] (fun i wr => ∃ (q : Nat) (os2 : Array Obj) (n2 : Nat), q ≤ T.length ∧ i = .int .i64 q ∧ Hid (∀ j, j < q → termErr E T j = 0) ∧ wr = plus (plus (w.alloc (.cells #[.slice A E.length cA, .slice B T.length cB] 25)) os1 n1) os2 n2) (fun i _ => T.length - (RowKit.intOf i).toNat)
      case atStart => exact ⟨0, #[], _, Nat.zero_le _, rfl, hide (fun j hj => by omega), plus_nil.symm⟩
      case round =>
        obtain ⟨q, os2, n2, hq, rfl, HK, rfl⟩ := hrel
        by_cases hlt : q < T.length
        · obtain ⟨b, o, rfl, hb, hv⟩ := HTE.out.2 (by omega)
          have hf : termErr E T q ≠ 0 → R = termErr E T q := fun h => HF2.out q HK.out h hlt
          have HNXT := hide (fun (h : termErr E T q = 0) j (hj : j < q + 1) => (by
            rcases Nat.lt_or_ge j q with g | g
            · exact HK.out j g
            · obtain rfl : j = q := by omega
              exact h : termErr E T j = 0))
          obtain ⟨c0, A2, e2, c1, hL2⟩ := hv q hlt
          have hcs := termErr_cases (E := E) hlt
          have hcw := isWordS_cases T[q].t
          have HWO := hide (fun W' => wordsOf_any T[q].t W' (HS.out T[q] (List.getElem_mem hlt)))
          unfold WdsOut at HWO
          have HL2 := hide hL2
          have HV := hide hv
          clear hv HK HTE HN2 HF2 hL2 HS
          have HPREV := hide (fun (m : Nat) (hm : q = m + 1) => (show w.cell? ⟨b, o + m * 2, none⟩ = some (.string (gT T (q - 1)).t) by
            rw [hm, show m + 1 - 1 = m from rfl, gT_eq (show m < T.length by omega)]
            exact (HV.out m (by omega)).1))
          clear HV
          generalize termErr E T q = er0 at *
          generalize gT T (q - 1) = z at *
          generalize T[q] = x at *
          obtain ⟨xt, xl⟩ := x
          obtain ⟨zt, zl⟩ := z
          simp only at c0 c1 hcs HWO HL2 hcw HPREV
          generalize wordsAt xt 0 = ws at *
          have hlx := HL2.out.1
          unfold maxLen at hlx
          rcases hcs with ⟨hh, hE⟩ | ⟨hh, HCS⟩
          · obtain rfl := hf (by omega)
            subst hE
            rw [hh] at hcw
            clear hh HPREV HL2 HMAP HSZ HNXT
            rcases hcw with ⟨⟨yt, yf, yu⟩, hws, hw⟩ | ⟨hl, hw⟩
            · replace hw := hw.symm
              simp only at hw
              have HT0 := hide (show ws.length = 1 ∧ ∀ h : 0 < ws.length, ws[0].t = yt from by subst hws; exact ⟨rfl, fun _ => rfl⟩)
              rw [HT0.out.1] at HWO
              clear hws
              go_upto_region 19 with (go_at_call 21; refine (HWO.out _).mono ?_; rintro e w' ⟨v1, rfl, hown, hbl⟩; obtain ⟨A1, c1, rfl, hc1, hc2, _⟩ := ownK_form hown; have HW1 := hide (hown.wds).2.2.2; obtain ⟨os3, n3, rfl⟩ := below_plus hbl; clear hbl hown)
              have d5w := HW1.out (by have := HT0.out.1; omega)
              obtain ⟨b1, o1, rfl, hb1, hv1⟩ := d5w
              have d5 := (hv1 0 (by have := HT0.out.1; omega)).1
              rw [HT0.out.2] at d5
              simp only [Nat.zero_mul, Nat.add_zero, plus_size, World.size_alloc] at d5 hb1
              clear hv1
              go_quiet (fail)
              go_wp2
              go_ret
              exact ⟨rfl, (by repeat (first | with_reducible exact Below.refl _ _ | with_reducible refine bl_plus ?_ | with_reducible refine bl_alloc ?_ _ | with_reducible refine bl_drew ?_ | with_reducible refine bl_drewN ?_ _))⟩
            · clear hw
              have i5 : ((ws.length : Int) != 1) = true := bne_iff_ne.2 (by omega)
              clear hl
              go_upto_region 19 with (go_at_call 21; refine (HWO.out _).mono ?_; rintro e w' ⟨v1, rfl, hown, hbl⟩; obtain ⟨A1, c1, rfl, hc1, hc2, _⟩ := ownK_form hown; have HW1 := hide (hown.wds).2.2.2; obtain ⟨os3, n3, rfl⟩ := below_plus hbl; clear hbl hown)
              go_quiet (fail)
              go_wp2
              go_ret
              exact ⟨rfl, (by repeat (first | with_reducible exact Below.refl _ _ | with_reducible refine bl_plus ?_ | with_reducible refine bl_alloc ?_ _ | with_reducible refine bl_drew ?_ | with_reducible refine bl_drewN ?_ _))⟩
          rw [hh] at hcw
          rcases hcw with ⟨⟨yt, yf, yu⟩, hws, hw⟩ | ⟨_, hw⟩
          case inr => cases hw
          replace hw := hw.symm
          simp only at hw
          have HT0 := hide (show ws.length = 1 ∧ ∀ h : 0 < ws.length, ws[0].t = yt from by subst hws; exact ⟨rfl, fun _ => rfl⟩)
          rw [HT0.out.1] at HWO
          clear hh hws
          rcases HCS with ⟨hn0, hE⟩ | ⟨hn0, HCS⟩
          · obtain rfl := hf (by omega)
            subst hE
            clear HPREV HL2 HMAP HSZ HNXT
            have i0 : ((xl.length : Int) == 0) = true := by rw [hn0]; rfl
            clear hn0
            go_upto_region 19 with (go_at_call 21; refine (HWO.out _).mono ?_; rintro e w' ⟨v1, rfl, hown, hbl⟩; obtain ⟨A1, c1, rfl, hc1, hc2, _⟩ := ownK_form hown; have HW1 := hide (hown.wds).2.2.2; obtain ⟨os3, n3, rfl⟩ := below_plus hbl; clear hbl hown)
            have d5w := HW1.out (by have := HT0.out.1; omega)
            obtain ⟨b1, o1, rfl, hb1, hv1⟩ := d5w
            have d5 := (hv1 0 (by have := HT0.out.1; omega)).1
            rw [HT0.out.2] at d5
            simp only [Nat.zero_mul, Nat.add_zero, plus_size, World.size_alloc] at d5 hb1
            clear hv1
            go_quiet (fail)
            go_wp2
            go_ret
            exact ⟨rfl, (by repeat (first | with_reducible exact Below.refl _ _ | with_reducible refine bl_plus ?_ | with_reducible refine bl_alloc ?_ _ | with_reducible refine bl_drew ?_ | with_reducible refine bl_drewN ?_ _))⟩
          have i0 : ((xl.length : Int) == 0) = false := beq_eq_false_iff_ne.2 (by omega)
          go_upto_region 19 with (go_at_call 21; refine (HWO.out _).mono ?_; rintro e w' ⟨v1, rfl, hown, hbl⟩; obtain ⟨A1, c1, rfl, hc1, hc2, _⟩ := ownK_form hown; have HW1 := hide (hown.wds).2.2.2; obtain ⟨os3, n3, rfl⟩ := below_plus hbl; clear hbl hown)
          have d5w := HW1.out (by have := HT0.out.1; omega)
          obtain ⟨b1, o1, rfl, hb1, hv1⟩ := d5w
          have d5 := (hv1 0 (by have := HT0.out.1; omega)).1
          rw [HT0.out.2] at d5
          simp only [Nat.zero_mul, Nat.add_zero, plus_size, World.size_alloc] at d5 hb1
          clear hv1
          go_quiet (fail)
          go_upto_region 21 with (fail)
          clear i0 hw d5 hb1
          go_cut [108] from 95 to 108 (fun v wx => v = .bool (decide (0 < q ∧ leB xt zt = true)) ∧ ∃ n9, wx = plus ((plus (plus (w.alloc (.cells #[.slice A E.length cA, .slice (some ⟨b, o, none⟩) T.length cB] 25)) os1 n1) os2 n2).alloc (.cells #[.string xt, .slice A2 xl.length e2] 39)) os3 n9)
          case first =>
            clear HL2 HMAP HSZ HNXT HCS hf
            rcases Nat.eq_zero_or_pos q with hq0 | hq0
            · have hg : decide (0 < q) = false := decide_eq_false (by omega)
              have hB : decide (0 < q ∧ leB xt zt = true) = false := decide_eq_false (fun h => by omega)
              clear hq0 HPREV
              go_quiet (fail)
              go_wp2
              go_meet
              exact ⟨by rw [hB], _, rfl⟩
            · obtain ⟨m, rfl⟩ : ∃ m, q = m + 1 := ⟨q - 1, by omega⟩
              have d0 := HPREV.out m rfl
              have hg : (0 : Int) < ((m + 1 : Nat) : Int) := by omega
              have hB : decide (0 < m + 1 ∧ leB xt zt = true) = (Op.bytesLess xt.toList zt.toList || xt.toList == zt.toList) := by
                unfold leB
                generalize (Op.bytesLess xt.toList zt.toList || xt.toList == zt.toList) = bb
                cases bb <;> simp
              have HB := hide hB
              clear hq0 HPREV hB
              go_quiet (fail)
              go_wp2
              go_meet
              exact ⟨by rw [HB.out], _, rfl⟩
          case rest =>
          obtain ⟨rfl, n9, rfl⟩ := hcut
          clear HPREV
          rcases HCS with ⟨hlt0, hle, hE⟩ | ⟨hgt, hE⟩
          · obtain rfl := hf (by omega)
            subst hE
            rw [decide_eq_true (⟨hlt0, hle⟩ : 0 < q ∧ leB xt zt = true)]
            clear HL2 HMAP HSZ HNXT hlt0 hle
            go_wp2
            go_ret
            exact ⟨rfl, (by repeat (first | with_reducible exact Below.refl _ _ | with_reducible refine bl_plus ?_ | with_reducible refine bl_alloc ?_ _ | with_reducible refine bl_drew ?_ | with_reducible refine bl_drewN ?_ _))⟩
          have hB : decide (0 < q ∧ leB xt zt = true) = false := decide_eq_false (fun h => by rw [hgt h.1] at h; exact Bool.false_ne_true h.2)
          rw [hB]
          have HFP := hide (fun k (hK : ∀ j, j < k → postErr E xl j = 0) (hne : postErr E xl k ≠ 0) (hk : k < xl.length) => (by
            have h1 := firstE_first (f := postErr E xl) (k := k) hK hne hk
            rw [← hE] at h1
            rw [← h1]
            exact hf (by rw [h1]; exact hne) : R = postErr E xl k))
          have HNP := hide (fun (h : ∀ j, j < xl.length → postErr E xl j = 0) => HNXT.out (by rw [hE]; exact firstE_none h))
          clear hB hgt hE hf HNXT hn0
          go_wp2
          go_loopw [112] (fun i wr => ∃ (k : Nat) (os4 : Array Obj) (n4 : Nat), k ≤ xl.length ∧ i = .int .i64 k ∧ Hid (∀ j, j < k → postErr E xl j = 0) ∧ wr = plus ((plus (plus (w.alloc (.cells #[.slice A E.length cA, .slice (some ⟨b, o, none⟩) T.length cB] 25)) os1 n1) os2 n2).alloc (.cells #[.string xt, .slice A2 xl.length e2] 39)) os4 n4) (fun i _ => xl.length - (RowKit.intOf i).toNat)
          case atStart => exact ⟨0, os3, _, Nat.zero_le _, rfl, hide (fun j hj => by omega), rfl⟩
          case round =>
            obtain ⟨k, os4, n4, hk, rfl, HK, rfl⟩ := hrel
            by_cases hlt2 : k < xl.length
            · obtain ⟨b2, o2, rfl, hb2, hv2⟩ := HL2.out.2 (by omega)
              have hf : postErr E xl k ≠ 0 → R = postErr E xl k := fun h => HFP.out k HK.out h hlt2
              have HNXT := hide (fun (h : postErr E xl k = 0) j (hj : j < k + 1) => (by
                rcases Nat.lt_or_ge j k with g | g
                · exact HK.out j g
                · obtain rfl : j = k := by omega
                  exact h : postErr E xl j = 0))
              obtain ⟨p0, hkw, A3, e3, p1, hL3⟩ := hv2 k hlt2
              have hcs := postErr_cases (E := E) hlt2
              have HL3 := hide hL3
              have HKEY := hide (keyOf_int_mk (P := Try.prog) Try.underlying3 hkw)
              have HPREV := hide (fun (m : Nat) (hm : k = m + 1) => (show w.cell? ⟨b2, o2 + m * 2, none⟩ = some (.int .i64 (gP xl (k - 1)).id) by
                rw [hm, show m + 1 - 1 = m from rfl, gP_eq (show m < xl.length by omega)]
                exact (hv2 m (by omega)).1))
              clear hv2 HK HFP HNP hL3 hkw HL2
              generalize postErr E xl k = er at *
              generalize gP xl (k - 1) = z at *
              generalize xl[k] = x at *
              obtain ⟨xid, xns⟩ := x
              obtain ⟨zid, zns⟩ := z
              simp only at p0 p1 hcs HL3 HKEY HPREV
              have hln := HL3.out.1
              unfold maxLen at hln
              rcases hcs with ⟨hh, hE⟩ | ⟨hh, HCS⟩
              · obtain rfl := hf (by omega)
                subst hE
                unfold hasE at hh
                clear HPREV HL3 HNXT
                go_wp2_with (at_lookup; refine wpList_lookup_own_ok_int _ rfl _ _ 64 rfl 3 3 .i64 keyI Try.underlying64 Try.underlying3 (zeroI _) (w.heap.size + 1) E.length (mapE E) rfl (own_below HMAP.out (by repeat (first | with_reducible exact Below.refl _ _ | with_reducible refine bl_plus ?_ | with_reducible refine bl_alloc ?_ _ | with_reducible refine bl_drew ?_ | with_reducible refine bl_drewN ?_ _))) _ (kI xid) rfl HKEY.out ?_; intro csz hat hwc; have hsz := sizeE_of hat; clear hat hwc)
                go_ret
                exact ⟨rfl, (by repeat (first | with_reducible exact Below.refl _ _ | with_reducible refine bl_plus ?_ | with_reducible refine bl_alloc ?_ _ | with_reducible refine bl_drew ?_ | with_reducible refine bl_drewN ?_ _))⟩
              unfold hasE at hh
              go_upto_region 29 with (at_lookup; refine wpList_lookup_own_ok_int _ rfl _ _ 64 rfl 3 3 .i64 keyI Try.underlying64 Try.underlying3 (zeroI _) (w.heap.size + 1) E.length (mapE E) rfl (own_below HMAP.out (by repeat (first | with_reducible exact Below.refl _ _ | with_reducible refine bl_plus ?_ | with_reducible refine bl_alloc ?_ _ | with_reducible refine bl_drew ?_ | with_reducible refine bl_drewN ?_ _))) _ (kI xid) rfl HKEY.out ?_; intro csz hat hwc; have hsz := sizeE_of hat; clear hat hwc)
              clear HMAP HKEY
              go_cut [127] from 127 to 141 (fun v wx => v = .bool (decide (0 < k ∧ xid ≤ zid)) ∧ ∃ n9, wx = (((plus ((plus (plus (w.alloc (.cells #[.slice A E.length cA, .slice (some ⟨b, o, none⟩) T.length cB] 25)) os1 n1) os2 n2).alloc (.cells #[.string xt, .slice (some ⟨b2, o2, none⟩) xl.length e2] 39)) os4 n4).alloc (.cells #[.int .i64 xid, .slice A3 xns.length e3] 74)).alloc (.cells #[.int .i64 csz] 3)).drewN n9)
              case first =>
                clear HL3 HSZ HNXT HCS hf
                rcases Nat.eq_zero_or_pos k with hq0 | hq0
                · have hg : decide (0 < k) = false := decide_eq_false (by omega)
                  have hB : decide (0 < k ∧ xid ≤ zid) = false := decide_eq_false (fun h => by omega)
                  clear hq0 HPREV
                  go_quiet (fail)
                  go_wp2
                  go_meet
                  exact ⟨by rw [hB], _, rfl⟩
                · obtain ⟨m, rfl⟩ : ∃ m, k = m + 1 := ⟨k - 1, by omega⟩
                  have d0 := HPREV.out m rfl
                  have hg : (0 : Int) < ((m + 1 : Nat) : Int) := by omega
                  have HB := hide (show decide (0 < m + 1 ∧ xid ≤ zid) = decide (xid ≤ zid) from by
                    by_cases h : xid ≤ zid
                    · rw [decide_eq_true h, decide_eq_true ⟨by omega, h⟩]
                    · rw [decide_eq_false h, decide_eq_false (fun g => h g.2)])
                  clear hq0 HPREV
                  go_quiet (fail)
                  go_wp2
                  go_meet
                  exact ⟨by rw [HB.out], _, rfl⟩
              case rest =>
              obtain ⟨rfl, n8, rfl⟩ := hcut
              clear HPREV
              rcases HCS with ⟨hlt0, hle, hE⟩ | ⟨hgt, HCS⟩
              · obtain rfl := hf (by omega)
                subst hE
                rw [decide_eq_true (⟨hlt0, hle⟩ : 0 < k ∧ xid ≤ zid)]
                clear HL3 HSZ HNXT hlt0 hle
                go_wp2
                go_ret
                exact ⟨rfl, (by repeat (first | with_reducible exact Below.refl _ _ | with_reducible refine bl_plus ?_ | with_reducible refine bl_alloc ?_ _ | with_reducible refine bl_drew ?_ | with_reducible refine bl_drewN ?_ _))⟩
              rw [decide_eq_false (show ¬ (0 < k ∧ xid ≤ zid) by omega)]
              clear hgt
              rcases HCS with ⟨hn0, hE⟩ | ⟨hn0, hE⟩
              · obtain rfl := hf (by omega)
                subst hE
                have i0 : ((xns.length : Int) == 0) = true := by rw [hn0]; rfl
                clear HL3 HSZ HNXT hn0
                go_wp2
                go_ret
                exact ⟨rfl, (by repeat (first | with_reducible exact Below.refl _ _ | with_reducible refine bl_plus ?_ | with_reducible refine bl_alloc ?_ _ | with_reducible refine bl_drew ?_ | with_reducible refine bl_drewN ?_ _))⟩
              have i0 : ((xns.length : Int) == 0) = false := beq_eq_false_iff_ne.2 (by omega)
              rw [hsz] at hE
              have HCF := hide (fun g W (hb : Below w.heap.size w W) (hc : W.cell? ⟨g, 0, none⟩ = some (.int .i64 csz)) (hl : g < W.heap.size) => containsFnI_any 40 #[.pointer (some ⟨g, 0, none⟩)] (fun a => decide (a < 0 ∨ csz ≤ a)) A3 e3 xns W (HL3.out.below hb) (fun args w => Go.Proofs.enters_of Try.func40 (by kernel_rfl) rfl args w) (fun x _ W' hb2 => farFn_any x csz g W' ((hb2.cell (p := ⟨g, 0, none⟩) hl).trans hc) (Nat.lt_of_lt_of_le hl hb2.size)))
              cases hfar : xns.any (fun a => decide (a < 0 ∨ csz ≤ a)) with
              | true =>
                have h2 : er = 2 := hE.trans (nsErr_any hfar)
                rw [hfar] at HCF
                obtain rfl := hf (by omega)
                subst h2
                clear hE hfar HL3 HSZ HNXT hn0
                go_wp2_with (go_at_call 39; refine (HCF.out _ _ ?cb ?cc ?cl).mono ?_; (case cb => exact (by repeat (first | with_reducible exact Below.refl _ _ | with_reducible refine bl_plus ?_ | with_reducible refine bl_alloc ?_ _ | with_reducible refine bl_drew ?_ | with_reducible refine bl_drewN ?_ _))); (case cc => go_simp); (case cl => go_simp); rintro e w' ⟨rfl, hbl⟩; obtain ⟨os5, n5, rfl⟩ := below_plus hbl; clear hbl)
                go_ret
                exact ⟨rfl, (by repeat (first | with_reducible exact Below.refl _ _ | with_reducible refine bl_plus ?_ | with_reducible refine bl_alloc ?_ _ | with_reducible refine bl_drew ?_ | with_reducible refine bl_drewN ?_ _))⟩
              | false =>
                have HFA := hide (nsErr_all hfar)
                rw [hfar] at HCF
                clear hfar HSZ hn0
                go_wp2_with (go_at_call 39; refine (HCF.out _ _ ?cb ?cc ?cl).mono ?_; (case cb => exact (by repeat (first | with_reducible exact Below.refl _ _ | with_reducible refine bl_plus ?_ | with_reducible refine bl_alloc ?_ _ | with_reducible refine bl_drew ?_ | with_reducible refine bl_drewN ?_ _))); (case cc => go_simp); (case cl => go_simp); rintro e w' ⟨rfl, hbl⟩; obtain ⟨os5, n5, rfl⟩ := below_plus hbl; clear hbl)
                clear HCF i0
                go_loopw [13] (fun i wr => ∃ (r n3 : Nat), r ≤ xns.length - 1 ∧ i = .int .i64 ((r + 1 : Nat) : Int) ∧ Hid (∀ j, j < r → fallE xns j = 0) ∧ wr = plus (((plus ((plus (plus (w.alloc (.cells #[.slice A E.length cA, .slice (some ⟨b, o, none⟩) T.length cB] 25)) os1 n1) os2 n2).alloc (.cells #[.string xt, .slice (some ⟨b2, o2, none⟩) xl.length e2] 39)) os4 n4).alloc (.cells #[.int .i64 xid, .slice A3 xns.length e3] 74)).alloc (.cells #[.int .i64 csz] 3)) os5 n3) (fun i _ => xns.length - (RowKit.intOf i).toNat)
                case atStart => exact ⟨0, _, Nat.zero_le _, rfl, hide (fun j hj => by omega), rfl⟩
                case round =>
                  obtain ⟨r, n3, hr, rfl, HFK, rfl⟩ := hrel
                  by_cases hlt3 : r + 1 < xns.length
                  · obtain ⟨b3, o3, rfl, hb3, hv3⟩ := HL3.out.2 (by omega)
                    have e0 := hv3 r (by omega)
                    have e1 := hv3 (r + 1) hlt3
                    have hfall : fallE xns r = if xns[r + 1] ≤ xns[r] then 5 else 0 := by
                      unfold fallE
                      rw [gN_eq hlt3, gN_eq (show r < xns.length by omega)]
                    have j1 : ((r + 1 : Nat) : Int) < (xns.length : Int) := by omega
                    clear hv3
                    by_cases hbad : xns[r + 1] ≤ xns[r]
                    · have h2 : er = 5 := hE.trans (nsErr_fall HFA.out (show r < xns.length - 1 by omega) HFK.out (by rw [hfall, if_pos hbad]))
                      obtain rfl := hf (by omega)
                      subst h2
                      clear hE hfall HFK HFA HL3 HNXT
                      generalize xns[r] = y at *
                      generalize xns[r + 1] = z2 at *
                      go_wp2
                      go_quiet (fail)
                      go_wp2
                      go_ret
                      exact ⟨rfl, (by repeat (first | with_reducible exact Below.refl _ _ | with_reducible refine bl_plus ?_ | with_reducible refine bl_alloc ?_ _ | with_reducible refine bl_drew ?_ | with_reducible refine bl_drewN ?_ _))⟩
                    · rw [if_neg hbad] at hfall
                      have HF2 := hide (fun j (hj : j < r + 1) => (by
                        rcases Nat.lt_or_ge j r with g | g
                        · exact HFK.out j g
                        · obtain rfl : j = r := by omega
                          exact hfall : fallE xns j = 0))
                      clear hfall HFK
                      generalize xns[r] = y at *
                      generalize xns[r + 1] = z2 at *
                      go_wp2
                      go_quiet (fail)
                      go_wp2
                      go_roundw
                      case rel => exact ⟨r + 1, _, by omega, by go_num, HF2, rfl⟩
                      case measure => simp [RowKit.intOf]; omega
                  · have h2 : er = 0 := hE.trans (nsErr_none HFA.out (fun j hj => HFK.out j (by omega)))
                    have j1 : ¬ ((r + 1 : Nat) : Int) < (xns.length : Int) := by omega
                    clear hE
                    go_wp2
                    go_roundw
                    case rel => exact ⟨k + 1, _, _, hlt2, by go_num, hide (HNXT.out h2), by rw [plus_alloc, plus_alloc, plus_plus]⟩
                    case measure => simp [RowKit.intOf]; omega
            · obtain rfl : k = xl.length := by omega
              have hz := HNP.out (fun j hj => HK.out j hj)
              have HZ := hide hz
              clear hz
              go_wp2
              go_roundw
              case rel => exact ⟨q + 1, _, _, hlt, by go_num, HZ, by rw [plus_alloc, plus_plus]⟩
              case measure => simp [RowKit.intOf]; omega
        · have hR : R = 0 := HN2.out (fun j hj => HK.out j (by omega))
          subst hR
          obtain rfl : q = T.length := by omega
          go_wp2
          go_ret
          exact ⟨rfl, (by repeat (first | with_reducible exact Below.refl _ _ | with_reducible refine bl_plus ?_ | with_reducible refine bl_alloc ?_ _ | with_reducible refine bl_drew ?_ | with_reducible refine bl_drewN ?_ _))⟩

end Go.Proofs.Ytfpcfpjnafnjiaa
