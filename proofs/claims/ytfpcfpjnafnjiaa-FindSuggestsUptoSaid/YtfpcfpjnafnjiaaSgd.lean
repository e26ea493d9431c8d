/-
  WALK: an index is right.
-/
import Derived.Test.YtfpcfpjnafnjiaaSgb
import Derived.Test.YtfpcfpjnafnjiaaSgc
set_option linter.all false
namespace Go.Proofs.Ytfpcfpjnafnjiaa
open Go.RowKit Go.Lib Go.Maps

theorem wf_small {n : Int} (h : -1000000000 ≤ n) (h2 : n ≤ 1000000000) : (Lit.int .i64 n).wf = true := by
  have e1 : IntKind.i64.min = -9223372036854775808 := rfl
  have e2 : IntKind.i64.max = 9223372036854775807 := rfl
  simp only [Lit.wf, Bool.and_eq_true, decide_eq_true_eq, e1, e2]
  omega
theorem plus_end {L : World} {o2 o3 o4 : Array Obj} {n2 n3 n4 nq : Nat} {x : Obj} : plus ((plus ((plus L o2 n2).alloc x) o3 n3).drewN nq) o4 n4 = plus L (o2.push x ++ o3 ++ o4) n4 := by rw [plus_alloc, plus_plus, plus_drewN, plus_plus]
theorem alloc_plusG {w : World} {o : Obj} : w.alloc o = plus w #[o] w.drawn := by
  conv => lhs; rw [← plus_nil (w := w)]
  rw [plus_alloc]
  rfl
theorem ents_right {l : List En} (h : entsErr l = 0) : l.length ≤ 2000 ∧ ∀ e ∈ l, 1 ≤ e.id ∧ e.id ≤ 1000000 ∧ 0 ≤ e.sz ∧ e.sz ≤ 2000 := by
  have h0 := h
  unfold entsErr at h
  split at h
  · cases h
  · refine ⟨by omega, fun e he => ?_⟩
    obtain ⟨j, hj, rfl⟩ := List.mem_iff_getElem.1 he
    have := firstE_zero h j hj
    rcases entErr_cases hj with ⟨_, h2⟩ | ⟨h1, ⟨_, _, h2⟩ | ⟨_, ⟨_, h2⟩ | ⟨h2, _⟩⟩⟩
    · omega
    · omega
    · omega
    · exact ⟨h1.1, h1.2, h2.1, h2.2⟩
theorem termErr_cases {E : List En} {l : List Te} {k : Nat} (hk : k < l.length) :
    (isWordS l[k].t = false ∧ termErr E l k = 1) ∨ (isWordS l[k].t = true ∧ ((l[k].l.length = 0 ∧ termErr E l k = 1) ∨ (l[k].l.length ≠ 0 ∧
      ((0 < k ∧ leB l[k].t (gT l (k - 1)).t = true ∧ termErr E l k = 5) ∨ ((0 < k → leB l[k].t (gT l (k - 1)).t = false) ∧ termErr E l k = firstE (postErr E l[k].l) l[k].l.length))))) := by
  unfold termErr
  rw [gT_eq hk]
  by_cases h1 : isWordS l[k].t = false
  · exact .inl ⟨h1, if_pos (.inl h1)⟩
  · refine .inr ⟨by simpa using h1, ?_⟩
    by_cases h2 : l[k].l.length = 0
    · exact .inl ⟨h2, if_pos (.inr h2)⟩
    · rw [if_neg (fun h => h.elim h1 h2)]
      refine .inr ⟨h2, ?_⟩
      by_cases h3 : 0 < k ∧ leB l[k].t (gT l (k - 1)).t = true
      · exact .inl ⟨h3.1, h3.2, if_pos h3⟩
      · exact .inr ⟨fun h => by simpa using fun h4 => h3 ⟨h, h4⟩, if_neg h3⟩
theorem ixErr_ents {E : List En} {T : List Te} (h : entsErr E ≠ 0) : ixErr E T = entsErr E := if_pos h
theorem ixErr_terms {E : List En} {T : List Te} (h : entsErr E = 0) : ixErr E T = firstE (termErr E T) T.length := if_neg (fun h2 => h2 h)

set_option maxHeartbeats 12800000 in
set_option maxRecDepth 100000 in
theorem checkIndex_any (E : List En) (T : List Te) (A B : Option Addr) (cA cB : Nat) (w : World) (hE : EnsAt w A E) (hT : TesAt w B T) (hs : ∀ t ∈ T, t.t.size ≤ 1900000) :
    Calls Try.prog 7 #[.agg #[.slice A E.length cA, .slice B T.length cB]] w fun e w' => e = .returned (.int .i64 (ixErr E T)) ∧ Below w.heap.size w w' := by
  have hm := hE.1
  have hm2 := hT.1
  unfold maxLen at hm hm2
  have HCE := hide (fun W (hb : Below w.heap.size w W) => checkEntries_any E A cA W (hE.below hb))
  have HEN := hide hE
  have HTE := hide hT
  have HS := hide hs
  clear hE hT hs
  by_cases h0 : entsErr E = 0
  case neg =>
    rw [ixErr_ents h0]
    generalize entsErr E = er at *
    have q1 := bne_iff_ne.2 h0
    go_enter Try.func7, Try.ntmps7
    go_wp2_with (go_at_call 28; refine (HCE.out _ ?hbw).mono ?_; (case hbw => exact (by repeat (first | with_reducible exact Below.refl _ _ | with_reducible refine bl_plus ?_ | with_reducible refine bl_alloc ?_ _ | with_reducible refine bl_drew ?_ | with_reducible refine bl_drewN ?_ _))); rintro e w' ⟨rfl, hbl⟩; obtain ⟨os0, n0, rfl⟩ := below_plus hbl; clear hbl)
    go_ret
    exact ⟨rfl, (by repeat (first | with_reducible exact Below.refl _ _ | with_reducible refine bl_plus ?_ | with_reducible refine bl_alloc ?_ _ | with_reducible refine bl_drew ?_ | with_reducible refine bl_drewN ?_ _))⟩
  rw [ixErr_terms h0]
  obtain ⟨hE2, hER⟩ := ents_right h0
  have HCP0 := hide (fun l A c mb mn w h1 h2 => checkPostings_any E h0 l A c mb mn w h1 h2)
  rw [h0] at HCE
  have HER := hide hER
  have HN := hide (fun h => firstE_none (f := termErr E T) (n := T.length) h)
  have HF := hide (fun k h hne hk => firstE_first (f := termErr E T) (k := k) h hne (n := T.length) hk)
  have hmm := @run_makeMap Try.prog
  clear h0 hER
  generalize firstE (termErr E T) T.length = R at *
  go_enter Try.func7, Try.ntmps7
  go_wp2_with (go_at_call 28; refine (HCE.out _ ?hbw).mono ?_; (case hbw => exact (by repeat (first | with_reducible exact Below.refl _ _ | with_reducible refine bl_plus ?_ | with_reducible refine bl_alloc ?_ _ | with_reducible refine bl_drew ?_ | with_reducible refine bl_drewN ?_ _))); rintro e w' ⟨rfl, hbl⟩; obtain ⟨os0, n0, rfl⟩ := below_plus hbl; clear hbl)
  clear HCE
  go_loopw [20] (fun i wr => ∃ (q : Nat) (os1 : Array Obj) (n1 : Nat), q ≤ E.length ∧ i = .int .i64 q ∧ wr = plus (plus (w.alloc (.cells #[.slice A E.length cA, .slice B T.length cB] 25)) os0 n0) os1 n1 ∧ Hid (wr.ownsMap Try.prog 3 (plainElem Try.prog 3) (w.heap.size + 1 + os0.size) q (mapE (E.take q)))) (fun i _ => E.length - (RowKit.intOf i).toNat)
  case atStart => exact ⟨0, #[.map #[] 0], _, Nat.zero_le _, rfl, alloc_plusG, hide (by
    have := World.ownsMap_made (H := Unit) (plus (w.alloc (.cells #[.slice A E.length cA, .slice B T.length cB] 25)) os0 n0) Try.prog 3 (plainElem Try.prog 3)
    simp only [plus_size, World.size_alloc] at this
    exact this)⟩
  case round =>
    obtain ⟨q, os1, n1, hq, rfl, rfl, HMAP⟩ := hrel
    by_cases hlt : q < E.length
    · obtain ⟨b, o, rfl, hb, hv⟩ := HEN.out.2 (by omega)
      obtain ⟨c0, c1⟩ := hv q hlt
      have HMK := hide (show mapE (E.take (q + 1)) = (mapE (E.take q)).put (kI E[q].id) (.lit (.int .i64 E[q].sz)) by rw [List.take_succ_eq_append_getElem hlt, mapE_snoc])
      obtain ⟨r1, r2, r3, r4⟩ := HER.out E[q] (List.getElem_mem hlt)
      clear hv
      generalize E[q] = x at *
      generalize mapE (E.take q) = D at *
      obtain ⟨xid, xsz⟩ := x
      simp only at c0 c1 r1 r2 r3 r4 HMK
      have HKEY := hide (keyOf_int_mk (P := Try.prog) Try.underlying3 (wf_small (n := xid) (by omega) (by omega)))
      have HEL := hide (plainElem_int (P := Try.prog) (H := Unit) Try.underlying3 (wf_small (n := xsz) (by omega) (by omega)))
      clear r1 r2 r3 r4
      go_wp2_with (at_mapUpdate; go_loud (refine wpList_mapUpdate_own _ rfl _ _ _ 64 rfl 3 3 keyI Try.underlying64 (plainElem Try.prog 3) (w.heap.size + 1 + os0.size) q _ rfl (HMAP.out.alloc _) (by unfold maxLen; omega) _ _ _ rfl rfl HKEY.out _ [] HEL.out ?_; intro w2 hown2 hgrow2; have HM3 := hide (hown2); obtain ⟨os10, n10, rfl⟩ := grown_plus (L := (plus (w.alloc (.cells #[.slice (some ⟨b, o, none⟩) E.length cA, .slice B T.length cB] 25)) os0 n0)) (by repeat (first | with_reducible exact Below.refl _ _ | with_reducible refine bl_plus ?_ | with_reducible refine bl_alloc ?_ _ | with_reducible refine bl_drew ?_ | with_reducible refine bl_drewN ?_ _)) hgrow2 (fun k hk => by have := Option.some.inj hk; simp only [plus_size, World.size_alloc]; omega); clear hown2 hgrow2))
      go_roundw
      case rel => exact ⟨q + 1, os10, n10, hlt, by go_num, rfl, hide (by rw [HMK.out]; exact HM3.out)⟩
      case measure => simp [RowKit.intOf]; omega
    · obtain rfl : q = E.length := by omega
      rw [List.take_length] at HMAP
      clear HER hlt hq
      go_wp2
      go_loopw [33] (fun i wr => ∃ (k : Nat) (os2 : Array Obj) (n2 : Nat), k ≤ T.length ∧ i = .int .i64 k ∧ Hid (∀ j, j < k → termErr E T j = 0) ∧ wr = plus (plus (plus (w.alloc (.cells #[.slice A E.length cA, .slice B T.length cB] 25)) os0 n0) os1 n1) os2 n2) (fun i _ => T.length - (RowKit.intOf i).toNat)
      case atStart => exact ⟨0, #[], _, Nat.zero_le _, rfl, hide (fun j hj => by omega), plus_nil.symm⟩
      case round =>
        obtain ⟨q, os2, n2, hq, rfl, HK, rfl⟩ := hrel
        by_cases hlt : q < T.length
        · obtain ⟨b, o, rfl, hb, hv⟩ := HTE.out.2 (by omega)
          have hf : termErr E T q ≠ 0 → R = termErr E T q := fun h => HF.out q HK.out h hlt
          have HNXT := hide (fun (h : termErr E T q = 0) j (hj : j < q + 1) => (by
            rcases Nat.lt_or_ge j q with g | g
            · exact HK.out j g
            · obtain rfl : j = q := by omega
              exact h : termErr E T j = 0))
          obtain ⟨c0, A2, e2, c1, hL2⟩ := hv q hlt
          have hcs := termErr_cases (E := E) hlt
          have HIW := hide (fun w => isWord_any T[q].t w (HS.out T[q] (List.getElem_mem hlt)))
          have HCP := hide (fun W (hb : Below w.heap.size w W) (hb2 : Below ((plus (plus (w.alloc (.cells #[.slice A E.length cA, .slice (some ⟨b, o, none⟩) T.length cB] 25)) os0 n0) os1 n1)).heap.size (plus (plus (w.alloc (.cells #[.slice A E.length cA, .slice (some ⟨b, o, none⟩) T.length cB] 25)) os0 n0) os1 n1) W) => HCP0.out T[q].l A2 e2 (w.heap.size + 1 + os0.size) E.length W (hL2.below hb) (own_below HMAP.out hb2))
          have HV := hide hv
          clear hv HK HTE HN HF hL2 HCP0 HEN HS
          rcases Nat.eq_zero_or_pos q with hq0 | hq0
          · have hg : decide (0 < q) = false := decide_eq_false (by omega)
            clear HV
            generalize termErr E T q = er0 at *
            generalize gT T (q - 1) = z at *
            generalize T[q] = x at *
            obtain ⟨xt, xl⟩ := x
            simp only at c0 c1 hcs HIW HCP
            rcases hcs with ⟨hh, hE⟩ | ⟨hh, HCS⟩
            · clear hq0; obtain rfl := hf (by omega)
              subst hE
              rw [hh] at HIW
              go_wp2_with (go_at_call 9; refine (HIW.out _).mono ?_; rintro e w' ⟨rfl, hbl⟩; obtain ⟨os3, n3, rfl⟩ := below_plus hbl; clear hbl)
              go_ret
              exact ⟨rfl, (by repeat (first | with_reducible exact Below.refl _ _ | with_reducible refine bl_plus ?_ | with_reducible refine bl_alloc ?_ _ | with_reducible refine bl_drew ?_ | with_reducible refine bl_drewN ?_ _))⟩
            rw [hh] at HIW
            rcases HCS with ⟨hn0, hE⟩ | ⟨hn0, HCS⟩
            · clear hq0; obtain rfl := hf (by omega)
              subst hE
              go_wp2_with (go_at_call 9; refine (HIW.out _).mono ?_; rintro e w' ⟨rfl, hbl⟩; obtain ⟨os3, n3, rfl⟩ := below_plus hbl; clear hbl)
              go_ret
              exact ⟨rfl, (by repeat (first | with_reducible exact Below.refl _ _ | with_reducible refine bl_plus ?_ | with_reducible refine bl_alloc ?_ _ | with_reducible refine bl_drew ?_ | with_reducible refine bl_drewN ?_ _))⟩
            have i0 : ((xl.length : Int) == 0) = false := beq_eq_false_iff_ne.2 (by omega)
            rcases HCS with ⟨hlt0, _, _⟩ | ⟨hgt, hE⟩
            · exact absurd hlt0 (by omega)
            clear hgt hq0
            subst hE
            generalize firstE (postErr E xl) xl.length = er at *
            by_cases hz : er = 0
            · subst hz
              clear hf
              go_upto_region 15 with (go_at_call 9; refine (HIW.out _).mono ?_; rintro e w' ⟨rfl, hbl⟩; obtain ⟨os3, n3, rfl⟩ := below_plus hbl; clear hbl)
              go_quiet (fail)
              go_wp2_with (go_at_call 29; refine (HCP.out _ ?hbw ?hbw2).mono ?_; (case hbw => exact (by repeat (first | with_reducible exact Below.refl _ _ | with_reducible refine bl_plus ?_ | with_reducible refine bl_alloc ?_ _ | with_reducible refine bl_drew ?_ | with_reducible refine bl_drewN ?_ _))); (case hbw2 => exact (by repeat (first | with_reducible exact Below.refl _ _ | with_reducible refine bl_plus ?_ | with_reducible refine bl_alloc ?_ _ | with_reducible refine bl_drew ?_ | with_reducible refine bl_drewN ?_ _))); rintro e w' ⟨rfl, hbl⟩; obtain ⟨os4, n4, rfl⟩ := below_plus hbl; clear hbl)
              go_roundw
              case rel => exact ⟨q + 1, _, _, hlt, by go_num, hide (HNXT.out (by trivial)), plus_end⟩
              case measure => simp [RowKit.intOf]; omega
            · obtain rfl := hf hz
              have q1 := bne_iff_ne.2 hz
              clear hz HNXT
              go_upto_region 15 with (go_at_call 9; refine (HIW.out _).mono ?_; rintro e w' ⟨rfl, hbl⟩; obtain ⟨os3, n3, rfl⟩ := below_plus hbl; clear hbl)
              go_quiet (fail)
              go_wp2_with (go_at_call 29; refine (HCP.out _ ?hbw ?hbw2).mono ?_; (case hbw => exact (by repeat (first | with_reducible exact Below.refl _ _ | with_reducible refine bl_plus ?_ | with_reducible refine bl_alloc ?_ _ | with_reducible refine bl_drew ?_ | with_reducible refine bl_drewN ?_ _))); (case hbw2 => exact (by repeat (first | with_reducible exact Below.refl _ _ | with_reducible refine bl_plus ?_ | with_reducible refine bl_alloc ?_ _ | with_reducible refine bl_drew ?_ | with_reducible refine bl_drewN ?_ _))); rintro e w' ⟨rfl, hbl⟩; obtain ⟨os4, n4, rfl⟩ := below_plus hbl; clear hbl)
              go_ret
              exact ⟨rfl, (by repeat (first | with_reducible exact Below.refl _ _ | with_reducible refine bl_plus ?_ | with_reducible refine bl_alloc ?_ _ | with_reducible refine bl_drew ?_ | with_reducible refine bl_drewN ?_ _))⟩
          · obtain ⟨m, rfl⟩ : ∃ m, q = m + 1 := ⟨q - 1, by omega⟩
            rw [show m + 1 - 1 = m from rfl, gT_eq (show m < T.length by omega)] at hcs
            have d0 := (HV.out m (by omega)).1
            have hg : (0 : Int) < ((m + 1 : Nat) : Int) := by omega
            clear HV hq0
            generalize termErr E T (m + 1) = er0 at *
            generalize T[m + 1] = x at *
            generalize T[m] = z at *
            obtain ⟨xt, xl⟩ := x
            obtain ⟨zt, zl⟩ := z
            simp only at c0 c1 d0 hcs HIW HCP
            rcases hcs with ⟨hh, hE⟩ | ⟨hh, HCS⟩
            · obtain rfl := hf (by omega)
              subst hE
              rw [hh] at HIW
              go_wp2_with (go_at_call 9; refine (HIW.out _).mono ?_; rintro e w' ⟨rfl, hbl⟩; obtain ⟨os3, n3, rfl⟩ := below_plus hbl; clear hbl)
              go_ret
              exact ⟨rfl, (by repeat (first | with_reducible exact Below.refl _ _ | with_reducible refine bl_plus ?_ | with_reducible refine bl_alloc ?_ _ | with_reducible refine bl_drew ?_ | with_reducible refine bl_drewN ?_ _))⟩
            rw [hh] at HIW
            rcases HCS with ⟨hn0, hE⟩ | ⟨hn0, HCS⟩
            · obtain rfl := hf (by omega)
              subst hE
              go_wp2_with (go_at_call 9; refine (HIW.out _).mono ?_; rintro e w' ⟨rfl, hbl⟩; obtain ⟨os3, n3, rfl⟩ := below_plus hbl; clear hbl)
              go_ret
              exact ⟨rfl, (by repeat (first | with_reducible exact Below.refl _ _ | with_reducible refine bl_plus ?_ | with_reducible refine bl_alloc ?_ _ | with_reducible refine bl_drew ?_ | with_reducible refine bl_drewN ?_ _))⟩
            have i0 : ((xl.length : Int) == 0) = false := beq_eq_false_iff_ne.2 (by omega)
            unfold leB at HCS
            rcases HCS with ⟨hlt0, hle, hE⟩ | ⟨hgt, hE⟩
            · obtain rfl := hf (by omega)
              subst hE
              clear hlt0
              go_upto_region 15 with (go_at_call 9; refine (HIW.out _).mono ?_; rintro e w' ⟨rfl, hbl⟩; obtain ⟨os3, n3, rfl⟩ := below_plus hbl; clear hbl)
              go_quiet (fail)
              go_wp2
              go_ret
              exact ⟨rfl, (by repeat (first | with_reducible exact Below.refl _ _ | with_reducible refine bl_plus ?_ | with_reducible refine bl_alloc ?_ _ | with_reducible refine bl_drew ?_ | with_reducible refine bl_drewN ?_ _))⟩
            have hgt := hgt (by omega)
            subst hE
            generalize firstE (postErr E xl) xl.length = er at *
            by_cases hz : er = 0
            · subst hz
              clear hf
              go_upto_region 15 with (go_at_call 9; refine (HIW.out _).mono ?_; rintro e w' ⟨rfl, hbl⟩; obtain ⟨os3, n3, rfl⟩ := below_plus hbl; clear hbl)
              go_quiet (fail)
              go_wp2_with (go_at_call 29; refine (HCP.out _ ?hbw ?hbw2).mono ?_; (case hbw => exact (by repeat (first | with_reducible exact Below.refl _ _ | with_reducible refine bl_plus ?_ | with_reducible refine bl_alloc ?_ _ | with_reducible refine bl_drew ?_ | with_reducible refine bl_drewN ?_ _))); (case hbw2 => exact (by repeat (first | with_reducible exact Below.refl _ _ | with_reducible refine bl_plus ?_ | with_reducible refine bl_alloc ?_ _ | with_reducible refine bl_drew ?_ | with_reducible refine bl_drewN ?_ _))); rintro e w' ⟨rfl, hbl⟩; obtain ⟨os4, n4, rfl⟩ := below_plus hbl; clear hbl)
              go_roundw
              case rel => exact ⟨m + 2, _, _, hlt, by go_num, hide (HNXT.out (by trivial)), plus_end⟩
              case measure => simp [RowKit.intOf]; omega
            · obtain rfl := hf hz
              have q1 := bne_iff_ne.2 hz
              clear hz HNXT
              go_upto_region 15 with (go_at_call 9; refine (HIW.out _).mono ?_; rintro e w' ⟨rfl, hbl⟩; obtain ⟨os3, n3, rfl⟩ := below_plus hbl; clear hbl)
              go_quiet (fail)
              go_wp2_with (go_at_call 29; refine (HCP.out _ ?hbw ?hbw2).mono ?_; (case hbw => exact (by repeat (first | with_reducible exact Below.refl _ _ | with_reducible refine bl_plus ?_ | with_reducible refine bl_alloc ?_ _ | with_reducible refine bl_drew ?_ | with_reducible refine bl_drewN ?_ _))); (case hbw2 => exact (by repeat (first | with_reducible exact Below.refl _ _ | with_reducible refine bl_plus ?_ | with_reducible refine bl_alloc ?_ _ | with_reducible refine bl_drew ?_ | with_reducible refine bl_drewN ?_ _))); rintro e w' ⟨rfl, hbl⟩; obtain ⟨os4, n4, rfl⟩ := below_plus hbl; clear hbl)
              go_ret
              exact ⟨rfl, (by repeat (first | with_reducible exact Below.refl _ _ | with_reducible refine bl_plus ?_ | with_reducible refine bl_alloc ?_ _ | with_reducible refine bl_drew ?_ | with_reducible refine bl_drewN ?_ _))⟩
        · have hR : R = 0 := HN.out (fun j hj => HK.out j (by omega))
          subst hR
          obtain rfl : q = T.length := by omega
          go_wp2
          go_ret
          exact ⟨rfl, (by repeat (first | with_reducible exact Below.refl _ _ | with_reducible refine bl_plus ?_ | with_reducible refine bl_alloc ?_ _ | with_reducible refine bl_drew ?_ | with_reducible refine bl_drewN ?_ _))⟩

end Go.Proofs.Ytfpcfpjnafnjiaa
