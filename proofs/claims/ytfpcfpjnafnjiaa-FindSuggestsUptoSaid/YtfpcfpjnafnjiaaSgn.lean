/-
  WALK: Suggest.
-/
import Derived.Test.YtfpcfpjnafnjiaaSgm
import Derived.Test.YtfpcfpjnafnjiaaSgj
import Derived.Test.YtfpcfpjnafnjiaaOwnB
import Derived.Deep.RegionLaw
set_option linter.all false
namespace Go.Proofs.Ytfpcfpjnafnjiaa
open Go.RowKit Go.Lib

set_option maxHeartbeats 400000 in
theorem checkMost_any (m : Int) (w : World) : Calls Try.prog 10 #[.int .i64 m] w fun e w' => e = .returned (.int .i64 (if m < 0 ∨ 200 < m then 2 else 0)) ∧ w = w' := by
  by_cases h : m < 0 ∨ 200 < m
  · rw [if_pos h]
    have HO := hide (fun W => outside_yes m 0 200 W h)
    clear h
    go_enter Try.func10, Try.ntmps10
    go_wp2_with (go_at_call 31; refine (HO.out _).mono ?_; rintro e w' ⟨rfl, rfl⟩)
    go_ret
    exact ⟨rfl, rfl⟩
  · rw [if_neg h]
    have HO := hide (fun W => outside_no m 0 200 W (by omega) (by omega))
    clear h
    go_enter Try.func10, Try.ntmps10
    go_wp2_with (go_at_call 31; refine (HO.out _).mono ?_; rintro e w' ⟨rfl, rfl⟩)
    go_ret
    exact ⟨rfl, rfl⟩
set_option maxHeartbeats 400000 in
theorem clipSt_any (A : Option Addr) (n c : Nat) (w : World) (h : n ≤ c) :
    Calls Try.prog 19 #[.slice A n c] w fun e w' => e = .returned (.slice A n n) ∧ w = w' := by
  go_enter Try.func19, Try.ntmps19
  go_wp2
  go_ret
  exact ⟨rfl, rfl⟩
theorem info_strG : (Try.prog.info? 9).map (fun i => (i.zero, i.size, i.bytes)) = some (some (.string ByteArray.empty), 1, 16) := by kernel_rfl

/-- What comes out: words, an error. -/
def sEnc (x : ByteArray) : List Value := [.string x]
def SugOut (l : List ByteArray) (E : Int) (w : World) (e : Ending) (w' : World) : Prop := ∃ A c, e = .returned (.tuple #[.slice A l.length c, .int .i64 E]) ∧ EAt sEnc 1 w' A l ∧ Below w.heap.size w w'
def sugErr (E : List En) (T : List Te) (word : ByteArray) (m : Int) : Int := if ixErr E T ≠ 0 then ixErr E T else if isWordS (lowS word) = false then 1 else if m < 0 ∨ 200 < m then 2 else 0
def sugWords (f : ByteArray → List Te → Nat → List ByteArray) (E : List En) (T : List Te) (word : ByteArray) (m : Int) : List ByteArray := if sugErr E T word m = 0 then f (lowS word) T m.toNat else []

set_option maxHeartbeats 25600000 in
set_option maxRecDepth 100000 in
theorem suggest_any (E : List En) (T : List Te) (A B : Option Addr) (cA cB : Nat) (word : ByteArray) (mo : Int) (w : World) (hE : EnsAt w A E) (hT : TesAt w B T) (hs : SizedT T) (hn : T.length ≤ 1048575) (hw : word.size ≤ 1900000) :
    Calls Try.prog 4 #[.agg #[.slice A E.length cA, .slice B T.length cB], .string word, .int .i64 mo] w (SugOut (sugWords sugP E T word mo) (sugErr E T word mo) w) := by
  have HCI := hide (fun W (hb : Below w.heap.size w W) => checkIndex_any E T A B cA cB W (hE.below hb) (hT.below hb) hs)
  have HLO := hide (fun W => lower_any word W (by omega))
  have HIW := hide (fun W => isWord_any (lowS word) W (by rw [lowS_size]; omega))
  have HCM := hide (fun W => checkMost_any mo W)
  have HPO := hide (show ∀ (l : List ByteArray) (er : Int) A' c' w', sugWords sugP E T word mo = l → sugErr E T word mo = er → EAt sEnc 1 w' A' l → Below w.heap.size w w' → SugOut (sugWords sugP E T word mo) (sugErr E T word mo) w (.returned (.tuple #[.slice A' l.length c', .int .i64 er])) w' from by
    intro l er A' c' w' h1 h2 h3 h4
    rw [h1, h2]
    exact ⟨A', c', rfl, h3, h4⟩)
  have HBAD := hide (show ∀ (er : Int) w', er ≠ 0 → sugErr E T word mo = er → Below w.heap.size w w' → SugOut (sugWords sugP E T word mo) (sugErr E T word mo) w (.returned (.tuple #[.slice none 0 0, .int .i64 er])) w' from by
    intro er w' h1 h2 h4
    exact HPO.out [] er none 0 w' (by unfold sugWords; rw [h2, if_neg h1]) h2 EAt.nil h4)
  generalize SugOut (sugWords sugP E T word mo) (sugErr E T word mo) w = PO at *
  have hPs : (lowS word).size ≤ 1900000 := by rw [lowS_size]; exact hw
  have HTE := hide hT
  have HS := hide hs
  clear hE hT hs hw
  by_cases h0 : ixErr E T = 0
  case neg =>
    have HR := hide (show sugErr E T word mo = ixErr E T from if_pos h0)
    have HB2 := hide (fun w' hb => HBAD.out (ixErr E T) w' h0 HR.out hb)
    have q1 := bne_iff_ne.2 h0
    clear HPO HBAD HR HTE HS h0 hPs
    generalize ixErr E T = er at *
    go_enter Try.func4, Try.ntmps4
    go_wp2_with (first | (go_at_call 7; refine (HCI.out _ ?hb).mono ?_; (case hb => exact (by repeat (first | with_reducible exact Below.refl _ _ | with_reducible refine bl_plus ?_ | with_reducible refine bl_alloc ?_ _ | with_reducible refine bl_drew ?_ | with_reducible refine bl_drewN ?_ _))); rintro e w' ⟨rfl, hbl⟩; obtain ⟨os0, n0, rfl⟩ := below_plus hbl; clear hbl) | (go_at_call 8; refine (HLO.out _).mono ?_; rintro e w' ⟨rfl, hbl⟩; obtain ⟨os1, n1, rfl⟩ := below_plus hbl; clear hbl) | (go_at_call 9; refine (HIW.out _).mono ?_; rintro e w' ⟨rfl, hbl⟩; obtain ⟨os2, n2, rfl⟩ := below_plus hbl; clear hbl) | (go_at_call 10; refine (HCM.out _).mono ?_; rintro e w' ⟨rfl, rfl⟩))
    exact HB2.out _ (by repeat (first | with_reducible exact Below.refl _ _ | with_reducible refine bl_plus ?_ | with_reducible refine bl_alloc ?_ _ | with_reducible refine bl_drew ?_ | with_reducible refine bl_drewN ?_ _))
  rw [h0] at HCI
  have HR0 := hide (show sugErr E T word mo = if isWordS (lowS word) = false then 1 else if mo < 0 ∨ 200 < mo then 2 else 0 from if_neg (fun h => h h0))
  cases hiw : isWordS (lowS word) with
  | false =>
    have HB2 := hide (fun w' hb => HBAD.out 1 w' (by decide) (by rw [HR0.out, hiw]; rfl) hb)
    rw [hiw] at HIW
    clear HPO HBAD HR0 HTE HS h0 hiw hPs
    go_enter Try.func4, Try.ntmps4
    go_wp2_with (first | (go_at_call 7; refine (HCI.out _ ?hb).mono ?_; (case hb => exact (by repeat (first | with_reducible exact Below.refl _ _ | with_reducible refine bl_plus ?_ | with_reducible refine bl_alloc ?_ _ | with_reducible refine bl_drew ?_ | with_reducible refine bl_drewN ?_ _))); rintro e w' ⟨rfl, hbl⟩; obtain ⟨os0, n0, rfl⟩ := below_plus hbl; clear hbl) | (go_at_call 8; refine (HLO.out _).mono ?_; rintro e w' ⟨rfl, hbl⟩; obtain ⟨os1, n1, rfl⟩ := below_plus hbl; clear hbl) | (go_at_call 9; refine (HIW.out _).mono ?_; rintro e w' ⟨rfl, hbl⟩; obtain ⟨os2, n2, rfl⟩ := below_plus hbl; clear hbl) | (go_at_call 10; refine (HCM.out _).mono ?_; rintro e w' ⟨rfl, rfl⟩))
    exact HB2.out _ (by repeat (first | with_reducible exact Below.refl _ _ | with_reducible refine bl_plus ?_ | with_reducible refine bl_alloc ?_ _ | with_reducible refine bl_drew ?_ | with_reducible refine bl_drewN ?_ _))
  | true =>
  rw [hiw] at HIW HR0
  by_cases hmo : mo < 0 ∨ 200 < mo
  · have HB2 := hide (fun w' hb => HBAD.out 2 w' (by decide) (by rw [HR0.out, if_neg (by decide), if_pos hmo]) hb)
    rw [if_pos hmo] at HCM
    clear HPO HBAD HR0 HTE HS h0 hiw hmo hPs
    go_enter Try.func4, Try.ntmps4
    go_wp2_with (first | (go_at_call 7; refine (HCI.out _ ?hb).mono ?_; (case hb => exact (by repeat (first | with_reducible exact Below.refl _ _ | with_reducible refine bl_plus ?_ | with_reducible refine bl_alloc ?_ _ | with_reducible refine bl_drew ?_ | with_reducible refine bl_drewN ?_ _))); rintro e w' ⟨rfl, hbl⟩; obtain ⟨os0, n0, rfl⟩ := below_plus hbl; clear hbl) | (go_at_call 8; refine (HLO.out _).mono ?_; rintro e w' ⟨rfl, hbl⟩; obtain ⟨os1, n1, rfl⟩ := below_plus hbl; clear hbl) | (go_at_call 9; refine (HIW.out _).mono ?_; rintro e w' ⟨rfl, hbl⟩; obtain ⟨os2, n2, rfl⟩ := below_plus hbl; clear hbl) | (go_at_call 10; refine (HCM.out _).mono ?_; rintro e w' ⟨rfl, rfl⟩))
    exact HB2.out _ (by repeat (first | with_reducible exact Below.refl _ _ | with_reducible refine bl_plus ?_ | with_reducible refine bl_alloc ?_ _ | with_reducible refine bl_drew ?_ | with_reducible refine bl_drewN ?_ _))
  rw [if_neg hmo] at HCM
  obtain ⟨m, rfl⟩ : ∃ m : Nat, mo = m := ⟨mo.toNat, by omega⟩
  have hm : m ≤ 200 := by omega
  have HPO2 := hide (show ∀ A' c' w', EAt sEnc 1 w' A' (sugP (lowS word) T m) → Below w.heap.size w w' → PO (.returned (.tuple #[.slice A' (sugP (lowS word) T m).length c', .int .i64 0])) w' from fun A' c' w' h1 h2 => by
    have he : sugErr E T word m = 0 := by rw [HR0.out, if_neg (by decide), if_neg hmo]
    exact HPO.out _ 0 A' c' w' (by unfold sugWords; rw [if_pos he, Int.toNat_natCast]) he h1 h2)
  clear HPO HBAD HR0 h0 hiw hmo
  generalize hP : lowS word = P at *
  obtain ⟨i0, hi, hz0, hz1, hz2⟩ := info_parts info_Nr
  have HI := hide (And.intro hi (And.intro hz0 (And.intro hz1 hz2)))
  clear hi hz0 hz1 hz2
  go_enter Try.func4, Try.ntmps4
  go_wp2_with (first | (go_at_call 7; refine (HCI.out _ ?hb).mono ?_; (case hb => exact (by repeat (first | with_reducible exact Below.refl _ _ | with_reducible refine bl_plus ?_ | with_reducible refine bl_alloc ?_ _ | with_reducible refine bl_drew ?_ | with_reducible refine bl_drewN ?_ _))); rintro e w' ⟨rfl, hbl⟩; obtain ⟨os0, n0, rfl⟩ := below_plus hbl; clear hbl) | (go_at_call 8; refine (HLO.out _).mono ?_; rintro e w' ⟨rfl, hbl⟩; obtain ⟨os1, n1, rfl⟩ := below_plus hbl; clear hbl) | (go_at_call 9; refine (HIW.out _).mono ?_; rintro e w' ⟨rfl, hbl⟩; obtain ⟨os2, n2, rfl⟩ := below_plus hbl; clear hbl) | (go_at_call 10; refine (HCM.out _).mono ?_; rintro e w' ⟨rfl, rfl⟩))
  clear HCI HLO HIW HCM hP
  go_loopw [10, 36] (fun v i wr => ∃ (k : Nat) (A1 : Option Addr) (c1 : Nat) (os : Array Obj) (n : Nat), k ≤ T.length ∧ v = .slice A1 (nearL P (T.take k)).length c1 ∧ i = .int .i64 k ∧ Hid (OwnK 3 45 wr (w.heap.size + 1) (.slice A1 (nearL P (T.take k)).length c1) (nearL P (T.take k)).length ((nearL P (T.take k)).flatMap (encP P))) ∧ wr = plus (w.alloc (.cells #[.slice A E.length cA, .slice B T.length cB] 25)) os n) (fun _ i _ => T.length - (RowKit.intOf i).toNat)
  case atStart => exact ⟨0, none, 0, os0 ++ (os1 ++ os2), n2, Nat.zero_le _, rfl, rfl, hide OwnK.empty, by rw [plus_plus, plus_plus]⟩
  case round =>
    obtain ⟨k, A1, c1, os, n, hk, rfl, rfl, HO, rfl⟩ := hrel
    by_cases hlt : k < T.length
    · obtain ⟨b, o, rfl, hb, hv⟩ := HTE.out.2 (by omega)
      obtain ⟨c0, A2, e2, c1x, hL2⟩ := hv k hlt
      have hst := HS.out T[k] (List.getElem_mem hlt)
      have HY := hide (show nearB P T[k].t = true → (nearL P (T.take (k + 1))).length = (nearL P (T.take k)).length + 1 ∧ (nearL P (T.take (k + 1))).flatMap (encP P) = (nearL P (T.take k)).flatMap (encP P) ++ [.string T[k].t, .int .i64 (dst P T[k].t), .int .i64 (timesF T[k].l)] from fun h => by
        rw [List.take_succ_eq_append_getElem hlt, nearL_yes h, ogOf_is hst]
        simp [encP])
      have HNo := hide (show nearB P T[k].t = false → nearL P (T.take (k + 1)) = nearL P (T.take k) from fun h => by
        rw [List.take_succ_eq_append_getElem hlt, nearL_no h])
      have hln : (nearL P (T.take k)).length ≤ 1048575 := by
        have := nearL_len P (T.take k)
        rw [List.length_take] at this
        omega
      have HDI := hide (show ∀ W, Calls Try.prog 11 #[.string P, .string T[k].t, .int .i64 (slackR P.size)] W fun e w' => e = .returned (.tuple #[.int .i64 (dst P T[k].t), .bool (nearB P T[k].t)]) ∧ Below W.heap.size W w' from fun W => distance_any P T[k].t (slackR P.size) W (by omega) (by omega))
      have HSL := hide (fun W => slack_any P W)
      have HTI := hide (fun W (hb : Below w.heap.size w W) => times_any T[k].t T[k].l A2 e2 W (hL2.below hb))
      clear hv hL2 hst HTE HS
      generalize hns : nearL P (T.take (k + 1)) = ns' at *
      have HNS := hide hns
      clear hns
      generalize nearL P (T.take k) = ns at *
      generalize T[k] = x at *
      obtain ⟨xt, xl⟩ := x
      simp only at c0 c1x HY HNo HDI HTI
      generalize timesF xl = tm at *
      generalize dst P xt = d at *
      generalize slackR P.size = sl at *
      have HBIG := hide (show (ns.length + 1) * i0.bytes ≤ 140737488355328 ∧ ns.length + 1 ≤ 140737488355328 by have := HI.out.2.2.2; rw [this]; omega)
      have HK := hide (show ∀ w', Below ((plus (w.alloc (.cells #[.slice A E.length cA, .slice (some ⟨b, o, none⟩) T.length cB] 25)) os n).alloc (.cells #[.string xt, .slice A2 xl.length e2] 39)).heap.size ((plus (w.alloc (.cells #[.slice A E.length cA, .slice (some ⟨b, o, none⟩) T.length cB] 25)) os n).alloc (.cells #[.string xt, .slice A2 xl.length e2] 39)) w' → w'.cell? ⟨w.heap.size + 1 + os.size, 0, none⟩ = some (.string xt) ∧ Below ((plus (w.alloc (.cells #[.slice A E.length cA, .slice (some ⟨b, o, none⟩) T.length cB] 25)) os n).alloc (.cells #[.string xt, .slice A2 xl.length e2] 39)).heap.size ((plus (w.alloc (.cells #[.slice A E.length cA, .slice (some ⟨b, o, none⟩) T.length cB] 25)) os n).alloc (.cells #[.string xt, .slice A2 xl.length e2] 39)) w' from fun w' h => ⟨(h.cell (p := ⟨w.heap.size + 1 + os.size, 0, none⟩) (by simp only [World.size_alloc, plus_size]; omega)).trans (by have := (Blk.new (plus (w.alloc (.cells #[.slice A E.length cA, .slice (some ⟨b, o, none⟩) T.length cB] 25)) os n) 39 #[.string xt, .slice A2 xl.length e2]).cell 0; simp only [plus_size, World.size_alloc] at this; exact this), h⟩)
      go_upto_region 14 with (fail)
      go_region_held3 (fun w' => w'.cell? ⟨w.heap.size + 1 + os.size, 0, none⟩ = some (.string xt) ∧ Below ((plus (w.alloc (.cells #[.slice A E.length cA, .slice (some ⟨b, o, none⟩) T.length cB] 25)) os n).alloc (.cells #[.string xt, .slice A2 xl.length e2] 39)).heap.size ((plus (w.alloc (.cells #[.slice A E.length cA, .slice (some ⟨b, o, none⟩) T.length cB] 25)) os n).alloc (.cells #[.string xt, .slice A2 xl.length e2] 39)) w') (first | assumption | exact HK.out _ (bl_drew (Below.refl _ _)))
        (first | (go_at_call 12; refine (HSL.out _).mono ?_; rintro e w' ⟨rfl, rfl⟩) | (go_at_call 11; refine (HDI.out _).mono ?_; rintro e w' ⟨rfl, hbl⟩; have hS := HK.out _ (bl_trans (bl_drew (Below.refl _ _)) hbl)))
      obtain ⟨os7, n7, rfl⟩ := below_plus hS.2
      clear hS hbl HK
      cases hnb : nearB P xt with
      | false =>
        have hN2 := HNo.out hnb
        subst hN2
        rw [hnb] at *
        clear HY HNo
        go_wp2
        go_roundw
        case rel => exact ⟨k + 1, A1, c1, _, _, hlt, by rw [HNS.out], by go_num, hide (by rw [HNS.out]; exact (by repeat (first | with_reducible exact HO.out | with_reducible refine ownK_alloc ?_ _ | with_reducible refine ownK_plus ?_ _ _ | with_reducible refine ownK_drew ?_ | with_reducible refine ownK_drewN ?_ _))), by rw [plus_alloc, plus_plus]⟩
        case measure => simp [RowKit.intOf]; omega
      | true =>
        obtain ⟨hY1, hY2⟩ := HY.out hnb
        have HY1 := hide hY1
        have HY2 := hide hY2
        clear hY1 hY2 HY HNo
        go_wp2_with (fail)
        go_region_law (first | ((refine step_append_b rfl (.tmp 50) (.tmp 57) rfl rfl Try.underlying36 HI.out.1 HI.out.2.1 HI.out.2.2.1 (by decide) rfl (by have := HI.out.2.2.2; omega) (w.heap.size + 1) ns.length (.slice A1 ns.length c1) (ns.flatMap (encP P)) [.string xt, .int .i64 d, .int .i64 tm] _ rfl (by repeat (first | with_reducible exact HO.out | with_reducible refine ownK_alloc ?_ _ | with_reducible refine ownK_plus ?_ _ _ | with_reducible refine ownK_drew ?_ | with_reducible refine ownK_drewN ?_ _)) rfl (by intro u hu; simp only [List.mem_cons, List.not_mem_nil, or_false] at hu; rcases hu with rfl | rfl | rfl <;> rfl) rfl (newN_cells (cs := [.string xt, .int .i64 d, .int .i64 tm]) (by simp only [World.size_alloc, plus_size, World.drew])) HBIG.out (by simp only [World.size_alloc, plus_size, World.drew]; omega) ?_); (intro v' w1 hown1 hgr1 hfr1); (obtain ⟨A3, c3, rfl, _⟩ := ownK_form hown1); (have HN := hide hown1); (obtain ⟨os9, n9, rfl⟩ := grown_plus (L := (w.alloc (.cells #[.slice A E.length cA, .slice (some ⟨b, o, none⟩) T.length cB] 25))) (by repeat (first | with_reducible exact Below.refl _ _ | with_reducible refine bl_plus ?_ | with_reducible refine bl_alloc ?_ _ | with_reducible refine bl_drew ?_ | with_reducible refine bl_drewN ?_ _)) hgr1 (fun k hk => by have := (HO.out.lt k hk).1; simp only [World.size_alloc]; omega)); (clear hown1 hgr1 hfr1)) | (go_simp; go_at_call 13; refine (HTI.out _ ?hb).mono ?_; (case hb => exact (by repeat (first | with_reducible exact Below.refl _ _ | with_reducible refine bl_plus ?_ | with_reducible refine bl_alloc ?_ _ | with_reducible refine bl_drew ?_ | with_reducible refine bl_drewN ?_ _))); rintro e w' ⟨rfl, hbl⟩; obtain ⟨os8, n8, rfl⟩ := below_plus hbl; clear hbl))
        all_goals
          go_wp2
          go_roundw
          case rel => exact ⟨k + 1, A3, c3, os9, n9, hlt, by rw [HNS.out, HY1.out], by go_num, hide (by rw [HNS.out, HY1.out, HY2.out]; exact HN.out), rfl⟩
          case measure => simp [RowKit.intOf]; omega
    · obtain rfl : k = T.length := by omega
      rw [List.take_length] at HO
      have HNE := hide (show nearL P (T.take T.length) = nearL P T by rw [List.take_length])
      have hln := nearL_len P T
      have HBE := hide (fun A1 c1 W (h : EAt (encP P) 3 W A1 (nearL P T)) => best_any P (nearL P T) A1 c1 m W h (by omega) hm)
      unfold NearOut at HBE
      have hlb : ((sortP P (nearL P T)).take m).length ≤ 200 := by rw [List.length_take]; omega
      have HSW := hide (show (sugP P T m) = ((sortP P (nearL P T)).take m).map Og.t from rfl)
      have HPO3 := hide (show ∀ A' c' w', EAt sEnc 1 w' A' (((sortP P (nearL P T)).take m).map Og.t) → Below w.heap.size w w' → PO (.returned (.tuple #[.slice A' ((sortP P (nearL P T)).take m).length c', .int .i64 0])) w' from fun A' c' w' h1 h2 => by
        have h3 := HPO2.out A' c' w' h1 h2
        rw [HSW.out, List.length_map] at h3
        exact h3)
      rw [List.take_length] at *
      generalize nearL P T = ns at *
      generalize (sortP P ns).take m = bs at *
      clear HPO2 HSW HTE HS hlt
      go_wp2_with (go_at_call 14; refine (HBE.out A1 c1 _ ?hb).mono ?_; (case hb => exact (ownK_eat (encP_len P) HO.out (by decide)).2.2.2); rintro e w' ⟨A4, c4, rfl, heat, hbl⟩; have HEA := hide heat; obtain ⟨os4, n4, rfl⟩ := below_plus hbl; clear hbl heat)
      have HBV := hide (show Below w.heap.size w (plus (plus (w.alloc (.cells #[.slice A E.length cA, .slice B T.length cB] 25)) os n) os4 n4) from (by repeat (first | with_reducible exact Below.refl _ _ | with_reducible refine bl_plus ?_ | with_reducible refine bl_alloc ?_ _ | with_reducible refine bl_drew ?_ | with_reducible refine bl_drewN ?_ _)))
      generalize (plus (plus (w.alloc (.cells #[.slice A E.length cA, .slice B T.length cB] 25)) os n) os4 n4) = V at *
      obtain ⟨j0, ji, jz0, jz1, jz2⟩ := info_parts info_strG
      have HIS := hide (And.intro ji (And.intro jz0 (And.intro jz1 jz2)))
      clear ji jz0 jz1 jz2 HI HBE HO HNE hln
      go_loopw [15, 65] (fun v i wr => ∃ (q : Nat) (A5 : Option Addr) (c5 : Nat) (os5 : Array Obj) (n5 : Nat), q ≤ bs.length ∧ v = .slice A5 q c5 ∧ i = .int .i64 q ∧ Hid (OwnK 1 9 wr V.heap.size (.slice A5 q c5) q (((bs.take q).map Og.t).flatMap sEnc)) ∧ wr = plus V os5 n5) (fun _ i _ => bs.length - (RowKit.intOf i).toNat)
      case atStart => exact ⟨0, none, 0, #[], _, Nat.zero_le _, rfl, rfl, hide OwnK.empty, plus_nil.symm⟩
      case round =>
        obtain ⟨q, A5, c5, os5, n5, hq, rfl, rfl, HO5, rfl⟩ := hrel
        by_cases hlt : q < bs.length
        · obtain ⟨b4, o4, rfl, hb4, hc4⟩ := HEA.out (by omega)
          have e0 := hc4 q hlt 0 (by decide)
          have e1 := hc4 q hlt 1 (by decide)
          have e2 := hc4 q hlt 2 (by decide)
          have HX := hide (show ((bs.take (q + 1)).map Og.t).flatMap sEnc = ((bs.take q).map Og.t).flatMap sEnc ++ [.string bs[q].t] from by
            rw [List.take_succ_eq_append_getElem hlt, List.map_append, List.flatMap_append]
            rfl)
          clear hc4
          generalize bs[q] = x at *
          obtain ⟨xt, xb, xn, hx⟩ := x
          simp only [encP, Nat.add_zero, List.getElem?_cons_zero, List.getElem?_cons_succ] at e0 e1 e2 HX
          generalize dst P xt = d at *
          generalize ((bs.take q).map Og.t).flatMap sEnc = xs5 at *
          have HBIG := hide (show (q + 1) * j0.bytes ≤ 140737488355328 ∧ q + 1 ≤ 140737488355328 by have := HIS.out.2.2.2; rw [this]; omega)
          clear hx
          go_wp2_with (at_builtin; go_loud (refine wpList_append_b rfl (.tmp 69) (.tmp 72) rfl rfl Try.underlying26 HIS.out.1 HIS.out.2.1 HIS.out.2.2.1 (by decide) rfl (by have := HIS.out.2.2.2; omega) (V.heap.size) q (.slice A5 q c5) xs5 [.string xt] _ rfl (by repeat (first | with_reducible exact HO5.out | with_reducible refine ownK_alloc ?_ _ | with_reducible refine ownK_plus ?_ _ _ | with_reducible refine ownK_drew ?_ | with_reducible refine ownK_drewN ?_ _)) rfl (by intro u hu; simp only [List.mem_cons, List.not_mem_nil, or_false] at hu; subst hu; rfl) rfl (newN_cells (cs := [.string xt]) (by simp only [World.size_alloc, plus_size, World.drew])) HBIG.out (by simp only [World.size_alloc, plus_size, World.drew]; omega) ?_; intro v' w1 hown1 hgr1 hfr1; obtain ⟨A6, c6, rfl, _⟩ := ownK_form hown1; have HN := hide hown1; obtain ⟨os9, n9, rfl⟩ := grown_plus (L := V) (by repeat (first | with_reducible exact Below.refl _ _ | with_reducible refine bl_plus ?_ | with_reducible refine bl_alloc ?_ _ | with_reducible refine bl_drew ?_ | with_reducible refine bl_drewN ?_ _)) hgr1 (fun k hk => (HO5.out.lt k hk).1); clear hown1 hgr1 hfr1))
          go_roundw
          case rel => exact ⟨q + 1, A6, c6, os9, n9, hlt, rfl, by go_num, hide (by rw [HX.out]; exact HN.out), rfl⟩
          case measure => simp [RowKit.intOf]; omega
        · obtain rfl : q = bs.length := by omega
          rw [List.take_length] at HO5
          obtain ⟨_, _, hc5, heat⟩ := ownK_eat (fun x => (rfl : (sEnc x).length = 1)) HO5.out (by decide)
          have HEO := hide heat
          clear heat HO5 HEA
          go_wp2_with (go_at_call 19; refine (clipSt_any _ _ _ _ (by omega)).mono ?_; rintro e w' ⟨rfl, rfl⟩)
          exact HPO3.out A5 _ _ (HEO.out) (HBV.out.trans (Below.mono (bl_plus (Below.refl _ _)) HBV.out.size))

end Go.Proofs.Ytfpcfpjnafnjiaa
