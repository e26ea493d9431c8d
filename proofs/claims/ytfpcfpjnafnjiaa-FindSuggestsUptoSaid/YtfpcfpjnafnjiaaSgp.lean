/-
  WALK: SuggestFor.
-/
import Derived.Test.YtfpcfpjnafnjiaaSgn
import Derived.Test.YtfpcfpjnafnjiaaSgf
set_option linter.all false
namespace Go.Proofs.Ytfpcfpjnafnjiaa
open Go.RowKit Go.Lib Go.Shelf Go.Sort
attribute [local go_sem high] run_min_i

theorem info_Og : (Try.prog.info? 59).map (fun i => (i.zero, i.size, i.bytes)) = some (some (.agg #[.string ByteArray.empty, .int .i64 0, .int .i64 0]), 3, 32) := by kernel_rfl

theorem cell_lt {w : World} {b o : Nat} {v : Value} (h : w.cell? ⟨b, o, none⟩ = some v) : b < w.heap.size := by
  rcases Nat.lt_or_ge b w.heap.size with h2 | h2
  · exact h2
  · simp [World.cell?, Array.getElem?_eq_none h2] at h

set_option maxHeartbeats 25600000 in
set_option maxRecDepth 100000 in
theorem suggestFor_any (E : List En) (T : List Te) (A B : Option Addr) (cA cB : Nat) (word : ByteArray) (mo : Int) (w : World) (hE : EnsAt w A E) (hT : TesAt w B T) (hs : SizedT T) (hn : T.length ≤ 1048575) (hw : word.size ≤ 1900000) :
    Calls Try.prog 5 #[.agg #[.slice A E.length cA, .slice B T.length cB], .string word, .int .i64 mo] w (SugOut (sugWords sugR E T word mo) (sugErr E T word mo) w) := by
  have HIF := hide (fun W (hb : Below w.heap.size w W) => indexFault_any E T A B cA cB W (hE.below hb) (hT.below hb) hs)
  have HWO := hide (fun W => wordsOf_any word W hw)
  unfold WdsOut at HWO
  have HPO := hide (show ∀ (l : List ByteArray) (er : Int) A' c' w', sugWords sugR E T word mo = l → sugErr E T word mo = er → EAt sEnc 1 w' A' l → Below w.heap.size w w' → SugOut (sugWords sugR E T word mo) (sugErr E T word mo) w (.returned (.tuple #[.slice A' l.length c', .int .i64 er])) w' from by
    intro l er A' c' w' h1 h2 h3 h4
    rw [h1, h2]
    exact ⟨A', c', rfl, h3, h4⟩)
  have HBAD := hide (show ∀ (er : Int) w', er ≠ 0 → sugErr E T word mo = er → Below w.heap.size w w' → SugOut (sugWords sugR E T word mo) (sugErr E T word mo) w (.returned (.tuple #[.slice none 0 0, .int .i64 er])) w' from by
    intro er w' h1 h2 h4
    exact HPO.out [] er none 0 w' (by unfold sugWords; rw [h2, if_neg h1]) h2 EAt.nil h4)
  generalize SugOut (sugWords sugR E T word mo) (sugErr E T word mo) w = PO at *
  have hPs : (lowS word).size ≤ 1900000 := by rw [lowS_size]; exact hw
  have HTE := hide hT
  have HS := hide hs
  have hws : (word.size : Int) ≤ 1900000 := by omega
  clear hE hT hs hw
  by_cases h0 : ixErr E T = 0
  case neg =>
    have HR := hide (show sugErr E T word mo = ixErr E T from if_pos h0)
    have HB2 := hide (fun w' hb => HBAD.out (ixErr E T) w' h0 HR.out hb)
    have q1 := bne_iff_ne.2 h0
    clear HPO HBAD HR HTE HS h0 hPs HWO
    generalize ixErr E T = er at *
    go_enter Try.func5, Try.ntmps5
    go_wp2_with (first | (go_at_call 20; refine (HIF.out _ ?hb).mono ?_; (case hb => exact (by repeat (first | with_reducible exact Below.refl _ _ | with_reducible refine bl_plus ?_ | with_reducible refine bl_alloc ?_ _ | with_reducible refine bl_drew ?_ | with_reducible refine bl_drewN ?_ _))); rintro e w' ⟨rfl, hbl⟩; obtain ⟨os0, n0, rfl⟩ := below_plus hbl; clear hbl) | (go_at_call 21; refine (HWO.out _).mono ?_; rintro e w' ⟨v1, rfl, hown, hbl⟩; obtain ⟨A1, c1, rfl, hc1, hc2, _⟩ := ownK_form hown; have HW1 := hide (hown.wds).2.2.2; obtain ⟨os1, n1, rfl⟩ := below_plus hbl; clear hbl hown))
    exact HB2.out _ (by repeat (first | with_reducible exact Below.refl _ _ | with_reducible refine bl_plus ?_ | with_reducible refine bl_alloc ?_ _ | with_reducible refine bl_drew ?_ | with_reducible refine bl_drewN ?_ _))
  rw [h0] at HIF
  have HR0 := hide (show sugErr E T word mo = if isWordS (lowS word) = false then 1 else if mo < 0 ∨ 200 < mo then 2 else 0 from if_neg (fun h => h h0))
  have hcw := isWordS_low word
  generalize wordsAt word 0 = ws at *
  rcases hcw with ⟨⟨yt, yf, yu⟩, hy, hiw, hf, hu, ht⟩ | ⟨⟨yt, yf, yu⟩, hy, hiw, hfu⟩ | ⟨hl, hiw⟩
  case inr.inr =>
    have HB2 := hide (fun w' hb => HBAD.out 1 w' (by decide) (by rw [HR0.out, hiw]; rfl) hb)
    have i5 : ((ws.length : Int) != 1) = true := bne_iff_ne.2 (by omega)
    clear HPO HBAD HR0 HTE HS h0 hiw hPs hl
    go_enter Try.func5, Try.ntmps5
    go_wp2_with (first | (go_at_call 20; refine (HIF.out _ ?hb).mono ?_; (case hb => exact (by repeat (first | with_reducible exact Below.refl _ _ | with_reducible refine bl_plus ?_ | with_reducible refine bl_alloc ?_ _ | with_reducible refine bl_drew ?_ | with_reducible refine bl_drewN ?_ _))); rintro e w' ⟨rfl, hbl⟩; obtain ⟨os0, n0, rfl⟩ := below_plus hbl; clear hbl) | (go_at_call 21; refine (HWO.out _).mono ?_; rintro e w' ⟨v1, rfl, hown, hbl⟩; obtain ⟨A1, c1, rfl, hc1, hc2, _⟩ := ownK_form hown; have HW1 := hide (hown.wds).2.2.2; obtain ⟨os1, n1, rfl⟩ := below_plus hbl; clear hbl hown))
    exact HB2.out _ (by repeat (first | with_reducible exact Below.refl _ _ | with_reducible refine bl_plus ?_ | with_reducible refine bl_alloc ?_ _ | with_reducible refine bl_drew ?_ | with_reducible refine bl_drewN ?_ _))
  case inr.inl =>
    have HB2 := hide (fun w' hb => HBAD.out 1 w' (by decide) (by rw [HR0.out, hiw]; rfl) hb)
    have HT0 := hide (show ws.length = 1 ∧ ∀ h : 0 < ws.length, ws[0] = ⟨yt, yf, yu⟩ from by subst hy; exact ⟨rfl, fun _ => rfl⟩)
    rw [HT0.out.1] at HWO
    simp only at hfu
    have hfc : ((yf : Int) != 0) = true ∨ (((yf : Int) != 0) = false ∧ ((yu : Int) != (word.size : Int)) = true) := by
      by_cases h : yf = 0
      · exact .inr ⟨by subst h; rfl, bne_iff_ne.2 (by omega)⟩
      · exact .inl (bne_iff_ne.2 (by omega))
    clear HPO HBAD HR0 HTE HS h0 hiw hPs hy hfu
    rcases hfc with i6 | ⟨i6, i7⟩
    all_goals
      go_enter Try.func5, Try.ntmps5
      go_upto_region 5 with (first | (go_at_call 20; refine (HIF.out _ ?hb).mono ?_; (case hb => exact (by repeat (first | with_reducible exact Below.refl _ _ | with_reducible refine bl_plus ?_ | with_reducible refine bl_alloc ?_ _ | with_reducible refine bl_drew ?_ | with_reducible refine bl_drewN ?_ _))); rintro e w' ⟨rfl, hbl⟩; obtain ⟨os0, n0, rfl⟩ := below_plus hbl; clear hbl) | (go_at_call 21; refine (HWO.out _).mono ?_; rintro e w' ⟨v1, rfl, hown, hbl⟩; obtain ⟨A1, c1, rfl, hc1, hc2, _⟩ := ownK_form hown; have HW1 := hide (hown.wds).2.2.2; obtain ⟨os1, n1, rfl⟩ := below_plus hbl; clear hbl hown))
      have d5w := HW1.out (by have := HT0.out.1; omega)
      obtain ⟨b1, o1, rfl, hb1, hv1⟩ := d5w
      obtain ⟨d5, d6, d7⟩ := hv1 0 (by have := HT0.out.1; omega)
      rw [HT0.out.2] at d5 d6 d7
      simp only [Nat.zero_mul, Nat.add_zero, plus_size, World.size_alloc] at d5 d6 d7 hb1
      clear hv1
      go_wp2
      exact HB2.out _ (by repeat (first | with_reducible exact Below.refl _ _ | with_reducible refine bl_plus ?_ | with_reducible refine bl_alloc ?_ _ | with_reducible refine bl_drew ?_ | with_reducible refine bl_drewN ?_ _))
  case inl =>
  have HT0 := hide (show ws.length = 1 ∧ ∀ h : 0 < ws.length, ws[0] = ⟨yt, yf, yu⟩ from by subst hy; exact ⟨rfl, fun _ => rfl⟩)
  rw [HT0.out.1] at HWO
  simp only at hf hu ht
  subst ht
  have i6 : ((yf : Int) != 0) = false := by subst hf; rfl
  have i7 : ((yu : Int) != (word.size : Int)) = false := by subst hu; simp
  clear hy hf hu
  rw [hiw] at HR0
  by_cases hmo : mo < 0 ∨ 200 < mo
  · have HB2 := hide (fun w' hb => HBAD.out 2 w' (by decide) (by rw [HR0.out, if_neg (by decide), if_pos hmo]) hb)
    have hmc : mo < 0 ∨ (¬ mo < 0 ∧ 200 < mo) := by omega
    clear HPO HBAD HR0 HTE HS h0 hiw hmo hPs
    rcases hmc with i8 | ⟨i8, i9⟩
    all_goals
      go_enter Try.func5, Try.ntmps5
      go_upto_region 5 with (first | (go_at_call 20; refine (HIF.out _ ?hb).mono ?_; (case hb => exact (by repeat (first | with_reducible exact Below.refl _ _ | with_reducible refine bl_plus ?_ | with_reducible refine bl_alloc ?_ _ | with_reducible refine bl_drew ?_ | with_reducible refine bl_drewN ?_ _))); rintro e w' ⟨rfl, hbl⟩; obtain ⟨os0, n0, rfl⟩ := below_plus hbl; clear hbl) | (go_at_call 21; refine (HWO.out _).mono ?_; rintro e w' ⟨v1, rfl, hown, hbl⟩; obtain ⟨A1, c1, rfl, hc1, hc2, _⟩ := ownK_form hown; have HW1 := hide (hown.wds).2.2.2; obtain ⟨os1, n1, rfl⟩ := below_plus hbl; clear hbl hown))
      have d5w := HW1.out (by have := HT0.out.1; omega)
      obtain ⟨b1, o1, rfl, hb1, hv1⟩ := d5w
      obtain ⟨d5, d6, d7⟩ := hv1 0 (by have := HT0.out.1; omega)
      rw [HT0.out.2] at d5 d6 d7
      simp only [Nat.zero_mul, Nat.add_zero, plus_size, World.size_alloc] at d5 d6 d7 hb1
      clear hv1
      go_wp2
      exact HB2.out _ (by repeat (first | with_reducible exact Below.refl _ _ | with_reducible refine bl_plus ?_ | with_reducible refine bl_alloc ?_ _ | with_reducible refine bl_drew ?_ | with_reducible refine bl_drewN ?_ _))
  obtain ⟨m, rfl⟩ : ∃ m : Nat, mo = m := ⟨mo.toNat, by omega⟩
  have hm : m ≤ 200 := by omega
  have HPO2 := hide (show ∀ A' c' w', EAt sEnc 1 w' A' (sugR (lowS word) T m) → Below w.heap.size w w' → PO (.returned (.tuple #[.slice A' (sugR (lowS word) T m).length c', .int .i64 0])) w' from fun A' c' w' h1 h2 => by
    have he : sugErr E T word m = 0 := by rw [HR0.out, if_neg (by decide), if_neg hmo]
    exact HPO.out _ 0 A' c' w' (by unfold sugWords; rw [if_pos he, Int.toNat_natCast]) he h1 h2)
  clear HPO HBAD HR0 h0 hiw hmo
  generalize hP : lowS word = P at *
  obtain ⟨i0, hi, hz0, hz1, hz2⟩ := info_parts info_Og
  have HI := hide (And.intro hi (And.intro hz0 (And.intro hz1 hz2)))
  have hmm : ¬ (m : Int) < 0 := by omega
  have hmm2 : ¬ (200 : Int) < (m : Int) := by omega
  clear hi hz0 hz1 hz2
  go_enter Try.func5, Try.ntmps5
  go_upto_region 5 with (first | (go_at_call 20; refine (HIF.out _ ?hb).mono ?_; (case hb => exact (by repeat (first | with_reducible exact Below.refl _ _ | with_reducible refine bl_plus ?_ | with_reducible refine bl_alloc ?_ _ | with_reducible refine bl_drew ?_ | with_reducible refine bl_drewN ?_ _))); rintro e w' ⟨rfl, hbl⟩; obtain ⟨os0, n0, rfl⟩ := below_plus hbl; clear hbl) | (go_at_call 21; refine (HWO.out _).mono ?_; rintro e w' ⟨v1, rfl, hown, hbl⟩; obtain ⟨A1, c1, rfl, hc1, hc2, _⟩ := ownK_form hown; have HW1 := hide (hown.wds).2.2.2; obtain ⟨os1, n1, rfl⟩ := below_plus hbl; clear hbl hown))
  have d5w := HW1.out (by have := HT0.out.1; omega)
  obtain ⟨b1, o1, rfl, hb1, hv1⟩ := d5w
  obtain ⟨d5, d6, d7⟩ := hv1 0 (by have := HT0.out.1; omega)
  rw [HT0.out.2] at d5 d6 d7
  simp only [Nat.zero_mul, Nat.add_zero, plus_size, World.size_alloc] at d5 d6 d7 hb1
  clear hv1
  go_wp2
  clear HIF HWO hP HT0 d5 d6 d7 hb1 i6 i7 hmm hmm2
  go_loopw [11, 56] (fun v i wr => ∃ (k : Nat) (A3 : Option Addr) (c3 : Nat) (os : Array Obj) (n : Nat), k ≤ T.length ∧ v = .slice A3 (nearL P (T.take k)).length c3 ∧ i = .int .i64 k ∧ Hid (OwnK 3 59 wr (w.heap.size + 1 + os0.size + os1.size + 1) (.slice A3 (nearL P (T.take k)).length c3) (nearL P (T.take k)).length ((nearL P (T.take k)).flatMap encR)) ∧ wr = plus ((plus (plus (w.alloc (.cells #[.slice A E.length cA, .slice B T.length cB] 25)) os0 n0) os1 n1).alloc (.cells #[.string P] 9)) os n) (fun _ i _ => T.length - (RowKit.intOf i).toNat)
  case atStart => exact ⟨0, none, 0, #[], _, Nat.zero_le _, rfl, rfl, hide OwnK.empty, plus_nil.symm⟩
  case round =>
    obtain ⟨k, A3, c3, os, n, hk, rfl, rfl, HO, rfl⟩ := hrel
    by_cases hlt : k < T.length
    · obtain ⟨b, o, rfl, hb, hv⟩ := HTE.out.2 (by omega)
      obtain ⟨c0, A2, e2, c1x, hL2⟩ := hv k hlt
      have hst := HS.out T[k] (List.getElem_mem hlt)
      have HY := hide (show nearB P T[k].t = true → (nearL P (T.take (k + 1))).length = (nearL P (T.take k)).length + 1 ∧ (nearL P (T.take (k + 1))).flatMap encR = (nearL P (T.take k)).flatMap encR ++ [.string T[k].t, .int .i64 T[k].l.length, .int .i64 (timesF T[k].l)] from fun h => by
        rw [List.take_succ_eq_append_getElem hlt, nearL_yes h, ogOf_is hst]
        simp [encR])
      have HNo := hide (show nearB P T[k].t = false → nearL P (T.take (k + 1)) = nearL P (T.take k) from fun h => by
        rw [List.take_succ_eq_append_getElem hlt, nearL_no h])
      have hln : (nearL P (T.take k)).length ≤ 1048575 := by
        have := nearL_len P (T.take k)
        rw [List.length_take] at this
        omega
      have HNO := hide (show ∀ W, Calls Try.prog 22 #[.string P, .string T[k].t] W fun e w' => e = .returned (.bool (nearB P T[k].t)) ∧ Below W.heap.size W w' from fun W => nearOf_any P T[k].t W (by omega) (by omega))
      have HOF := hide (fun W (hb : Below w.heap.size w W) => often_any T[k].t T[k].l A2 e2 W (hL2.below hb))
      clear hv hL2 hst HTE HS
      generalize hns : nearL P (T.take (k + 1)) = ns' at *
      have HNS := hide hns
      clear hns
      generalize nearL P (T.take k) = ns at *
      generalize T[k] = x at *
      obtain ⟨xt, xl⟩ := x
      simp only at c0 c1x HY HNo HNO HOF
      generalize timesF xl = tm at *
      have HBIG := hide (show (ns.length + 1) * i0.bytes ≤ 140737488355328 ∧ ns.length + 1 ≤ 140737488355328 by have := HI.out.2.2.2; rw [this]; omega)
      cases hnb : nearB P xt with
      | false =>
        have hN2 := HNo.out hnb
        subst hN2
        rw [hnb] at HNO
        clear HY HNo HOF
        go_wp2_with (go_at_call 22; refine (HNO.out _).mono ?_; rintro e w' ⟨rfl, hbl⟩; obtain ⟨os7, n7, rfl⟩ := below_plus hbl; clear hbl)
        go_roundw
        case rel => exact ⟨k + 1, A3, c3, _, _, hlt, by rw [HNS.out], by go_num, hide (by rw [HNS.out]; exact (by repeat (first | with_reducible exact HO.out | with_reducible refine ownK_alloc ?_ _ | with_reducible refine ownK_plus ?_ _ _ | with_reducible refine ownK_drew ?_ | with_reducible refine ownK_drewN ?_ _))), by first | rfl | (rw [plus_alloc, plus_plus]) | (simp only [plus_alloc, plus_plus, plus_drewN, plus_drew]) | (rw [plus_plus])⟩
        case measure => simp [RowKit.intOf]; omega
      | true =>
        obtain ⟨hY1, hY2⟩ := HY.out hnb
        have HY1 := hide hY1
        have HY2 := hide hY2
        rw [hnb] at HNO
        clear hY1 hY2 HY HNo
        go_wp2_with (first | (go_at_call 22; refine (HNO.out _).mono ?_; rintro e w' ⟨rfl, hbl⟩; obtain ⟨os7, n7, rfl⟩ := below_plus hbl; clear hbl) | (go_at_call 23; refine (HOF.out _ ?hb).mono ?_; (case hb => exact (by repeat (first | with_reducible exact Below.refl _ _ | with_reducible refine bl_plus ?_ | with_reducible refine bl_alloc ?_ _ | with_reducible refine bl_drew ?_ | with_reducible refine bl_drewN ?_ _))); rintro e w' ⟨rfl, hbl⟩; obtain ⟨os8, n8, rfl⟩ := below_plus hbl; clear hbl) | (at_builtin; go_loud (refine wpList_append_b rfl (.tmp 64) (.tmp 67) rfl rfl Try.underlying56 HI.out.1 HI.out.2.1 HI.out.2.2.1 (by decide) rfl (by have := HI.out.2.2.2; omega) (w.heap.size + 1 + os0.size + os1.size + 1) ns.length (.slice A3 ns.length c3) (ns.flatMap encR) [.string xt, .int .i64 xl.length, .int .i64 tm] _ rfl (by repeat (first | with_reducible exact HO.out | with_reducible refine ownK_alloc ?_ _ | with_reducible refine ownK_plus ?_ _ _ | with_reducible refine ownK_drew ?_ | with_reducible refine ownK_drewN ?_ _)) rfl (by intro u hu; simp only [List.mem_cons, List.not_mem_nil, or_false] at hu; rcases hu with rfl | rfl | rfl <;> rfl) rfl (newN_cells (cs := [.string xt, .int .i64 xl.length, .int .i64 tm]) (by simp only [World.size_alloc, plus_size, World.drew])) HBIG.out (by simp only [World.size_alloc, plus_size, World.drew]; omega) ?_; intro v' w1 hown1 hgr1 hfr1; obtain ⟨A4, c4, rfl, _⟩ := ownK_form hown1; have HN := hide hown1; obtain ⟨os9, n9, rfl⟩ := grown_plus (L := ((plus (plus (w.alloc (.cells #[.slice A E.length cA, .slice (some ⟨b, o, none⟩) T.length cB] 25)) os0 n0) os1 n1).alloc (.cells #[.string P] 9))) (by repeat (first | with_reducible exact Below.refl _ _ | with_reducible refine bl_plus ?_ | with_reducible refine bl_alloc ?_ _ | with_reducible refine bl_drew ?_ | with_reducible refine bl_drewN ?_ _)) hgr1 (fun k hk => by have := (HO.out.lt k hk).1; simp only [World.size_alloc, plus_size]; omega); clear hown1 hgr1 hfr1)))
        go_roundw
        case rel => exact ⟨k + 1, A4, c4, os9, n9, hlt, by rw [HNS.out, HY1.out], by go_num, hide (by rw [HNS.out, HY1.out, HY2.out]; exact HN.out), rfl⟩
        case measure => simp [RowKit.intOf]; omega
    · obtain rfl : k = T.length := by omega
      rw [List.take_length] at HO
      have hln := nearL_len P T
      have HSO := hide (fun A3 c3 W (h : OwnK 3 59 W (w.heap.size + 1 + os0.size + os1.size + 1) (.slice A3 (nearL P T).length c3) (nearL P T).length ((nearL P T).flatMap encR)) (hp : W.cell? ⟨w.heap.size + 1 + os0.size + os1.size, 0, none⟩ = some (.string P)) => sortOg_any encR_len encR_one 25 #[.pointer (some ⟨w.heap.size + 1 + os0.size + os1.size, 0, none⟩)] (cfR P) (swo_cfR P) (fun args w => Go.Proofs.enters_of Try.func25 (by kernel_rfl) rfl args w) A3 c3 (w.heap.size + 1 + os0.size + os1.size + 1) (nearL P T) W h (by omega)
        (fun x y W' hk hsz => oftenCmp_any P hPs (w.heap.size + 1 + os0.size + os1.size) x y W' ((World.cell?_of_block (hk _ (Nat.lt_succ_self _) (cell_lt hp))).trans hp) (Nat.lt_of_lt_of_le (cell_lt hp) hsz)))
      have HCELL := hide (show (plus ((plus (plus (w.alloc (.cells #[.slice A E.length cA, .slice B T.length cB] 25)) os0 n0) os1 n1).alloc (.cells #[.string P] 9)) os n).cell? ⟨w.heap.size + 1 + os0.size + os1.size, 0, none⟩ = some (.string P) from by
        have h1 := (Blk.new (plus (plus (w.alloc (.cells #[.slice A E.length cA, .slice B T.length cB] 25)) os0 n0) os1 n1) 9 #[.string P]).cell 0
        simp only [plus_size, World.size_alloc] at h1
        exact (plus_cell (by simp only [plus_size, World.size_alloc]; omega)).trans h1)
      have hlb : ((sortR P (nearL P T)).take m).length = min m (nearL P T).length := by rw [List.length_take, sortR_len]
      have HPO3 := hide (show ∀ A' c' w', EAt sEnc 1 w' A' (((sortR P (nearL P T)).take m).map Og.t) → Below w.heap.size w w' → PO (.returned (.tuple #[.slice A' ((sortR P (nearL P T)).take m).length c', .int .i64 0])) w' from fun A' c' w' h1 h2 => by
        have h3 := HPO2.out A' c' w' h1 h2
        unfold sugR at h3
        rw [List.length_map] at h3
        exact h3)
      have HEAT := hide (show ∀ W A3 c3, OwnK 3 59 W (w.heap.size + 1 + os0.size + os1.size + 1) (.slice A3 (nearL P T).length c3) (nearL P T).length ((pdq (ltOf (cfR P)) (nearL P T).toArray 0 (nearL P T).length (Lib.bitLen (nearL P T).length) true true).toList.flatMap encR) → (nearL P T).length ≤ c3 ∧ EAt encR 3 W A3 ((sortR P (nearL P T)).take m) from fun W A3 c3 h => by
        have h2 := ownK_eat encR_len h (by decide)
        exact ⟨h2.2.2.1, h2.2.2.2.take m⟩)
      rw [List.take_length] at *
      generalize nearL P T = ns at *
      generalize (sortR P ns).take m = bs at *
      have hmn : min (ns.length : Int) (m : Int) = (bs.length : Int) := by omega
      have hbl : bs.length ≤ ns.length := by omega
      have hb200 : bs.length ≤ 200 := by omega
      have HLB := hide hlb
      clear HPO2 HTE HS hlt hlb
      go_upto_region 18 with (go_at_call 24; refine (HSO.out A3 c3 _ HO.out HCELL.out).mono ?_; rintro e w' ⟨rfl, hgr, hown⟩; have hb2 : Below w.heap.size w w' := Below.grown (by repeat (first | with_reducible exact Below.refl _ _ | with_reducible refine bl_plus ?_ | with_reducible refine bl_alloc ?_ _ | with_reducible refine bl_drew ?_ | with_reducible refine bl_drewN ?_ _)) hgr (by simp only [World.size_alloc, plus_size]; omega) (fun k hk => by have := (HO.out.lt k hk).1; omega); have HBV := hide hb2; have HS3 := hide hown; clear hgr hown hb2)
      obtain ⟨hc3, heat⟩ := HEAT.out _ _ _ HS3.out
      have HEA := hide heat
      clear heat HS3 HEAT HSO HCELL HO
      obtain ⟨j0, ji, jz0, jz1, jz2⟩ := info_parts info_strG
      have HIS := hide (And.intro ji (And.intro jz0 (And.intro jz1 jz2)))
      clear ji jz0 jz1 jz2 HI hln
      go_wp2
      go_loopw [14, 80] (fun v i wr => ∃ (q : Nat) (A5 : Option Addr) (c5 : Nat) (os5 : Array Obj) (n5 : Nat), q ≤ bs.length ∧ v = .slice A5 q c5 ∧ i = .int .i64 q ∧ Hid (OwnK 1 9 wr w'.heap.size (.slice A5 q c5) q (((bs.take q).map Og.t).flatMap sEnc)) ∧ wr = plus w' os5 n5) (fun _ i _ => bs.length - (RowKit.intOf i).toNat)
      case atStart => exact ⟨0, none, 0, #[], _, Nat.zero_le _, rfl, rfl, hide OwnK.empty, plus_nil.symm⟩
      case round =>
        obtain ⟨q, A5, c5, os5, n5, hq, rfl, rfl, HO5, rfl⟩ := hrel
        by_cases hlt : q < bs.length
        · obtain ⟨b4, o4, rfl, hb4, hc4⟩ := HEA.out (by omega)
          have e0 := hc4 q hlt 0 (by decide)
          have e1 := hc4 q hlt 1 (by decide)
          have e2 := hc4 q hlt 2 (by decide)
          have HX := hide (show ((bs.take (q + 1)).map Og.t).flatMap sEnc = ((bs.take q).map Og.t).flatMap sEnc ++ [.string bs[q].t] from by
            rw [List.take_succ_eq_append_getElem hlt, List.map_append, List.flatMap_append]
            rfl)
          clear hc4
          generalize bs[q] = x at *
          obtain ⟨xt, xb, xn, hx⟩ := x
          simp only [encR, Nat.add_zero, List.getElem?_cons_zero, List.getElem?_cons_succ] at e0 e1 e2 HX
          generalize ((bs.take q).map Og.t).flatMap sEnc = xs5 at *
          have HBIG := hide (show (q + 1) * j0.bytes ≤ 140737488355328 ∧ q + 1 ≤ 140737488355328 by have := HIS.out.2.2.2; rw [this]; omega)
          clear hx
          go_wp2_with (at_builtin; go_loud (refine wpList_append_b rfl (.tmp 84) (.tmp 87) rfl rfl Try.underlying26 HIS.out.1 HIS.out.2.1 HIS.out.2.2.1 (by decide) rfl (by have := HIS.out.2.2.2; omega) (w'.heap.size) q (.slice A5 q c5) xs5 [.string xt] _ rfl (by repeat (first | with_reducible exact HO5.out | with_reducible refine ownK_alloc ?_ _ | with_reducible refine ownK_plus ?_ _ _ | with_reducible refine ownK_drew ?_ | with_reducible refine ownK_drewN ?_ _)) rfl (by intro u hu; simp only [List.mem_cons, List.not_mem_nil, or_false] at hu; subst hu; rfl) rfl (newN_cells (cs := [.string xt]) (by simp only [World.size_alloc, plus_size, World.drew])) HBIG.out (by simp only [World.size_alloc, plus_size, World.drew]; omega) ?_; intro v' w1 hown1 hgr1 hfr1; obtain ⟨A6, c6, rfl, _⟩ := ownK_form hown1; have HN := hide hown1; obtain ⟨os9, n9, rfl⟩ := grown_plus (L := w') (by repeat (first | with_reducible exact Below.refl _ _ | with_reducible refine bl_plus ?_ | with_reducible refine bl_alloc ?_ _ | with_reducible refine bl_drew ?_ | with_reducible refine bl_drewN ?_ _)) hgr1 (fun k hk => (HO5.out.lt k hk).1); clear hown1 hgr1 hfr1))
          go_roundw
          case rel => exact ⟨q + 1, A6, c6, os9, n9, hlt, rfl, by go_num, hide (by rw [HX.out]; exact HN.out), rfl⟩
          case measure => simp [RowKit.intOf]; omega
        · obtain rfl : q = bs.length := by omega
          rw [List.take_length] at HO5
          obtain ⟨_, _, hc5, heat⟩ := ownK_eat (fun x => (rfl : (sEnc x).length = 1)) HO5.out (by decide)
          have HEO := hide heat
          clear heat HO5 HEA
          go_wp2
          exact HPO3.out A5 _ _ (HEO.out) (HBV.out.trans (Below.mono (bl_plus (Below.refl _ _)) HBV.out.size))

end Go.Proofs.Ytfpcfpjnafnjiaa
