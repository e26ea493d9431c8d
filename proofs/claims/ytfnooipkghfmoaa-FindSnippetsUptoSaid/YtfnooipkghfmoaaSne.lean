/-
  WALK: the reference's QueryString.
-/
import Derived.Test.YtfnooipkghfmoaaSnd
set_option linter.all false
namespace Go.Proofs.Ytfnooipkghfmoaa
open Go.RowKit Go.Lib

theorem isWordS_cases (x : ByteArray) : (∃ y, wordsAt x 0 = [y] ∧ isWordS x = (y.t.toList == x.toList)) ∨ ((wordsAt x 0).length ≠ 1 ∧ isWordS x = false) := by
  unfold isWordS
  cases h : wordsAt x 0 with
  | nil => exact .inr ⟨by simp, rfl⟩
  | cons y l =>
    cases l with
    | nil => exact .inl ⟨y, rfl, rfl⟩
    | cons z l => exact .inr ⟨by simp, rfl⟩

set_option maxHeartbeats 25600000 in
set_option maxRecDepth 100000 in
theorem queryString_any (cs : List Cq) (A : Option Addr) (c : Nat) (w : World) (hA : CqsAt w A cs) (hN : nParts cs ≤ 1048576) (hL : cs.length ≤ 1048576) (hB : ∀ x ∈ cs, ∀ p ∈ x.ps, p.ws.length ≤ 1048576 ∧ ∀ y ∈ p.ws, y.size ≤ 1900000) :
    Calls Try.prog 20 #[.agg #[.slice A cs.length c]] w (QOut cs w) := by
  have HBAD := hide (fun E w' (h : qErr cs = E) (hne : E ≠ 0) hb => QOut.bad (w := w) (w' := w') h hne hb)
  have HGOOD := hide (fun w' (h : qErr cs = 0) hb => QOut.good (w := w) (w' := w') h hb)
  generalize QOut cs w = PO at *
  have HMA := hide (fun h => qErr_many (cs := cs) h)
  have HFI0 := hide (fun h20 k (hk : k < cs.length) h0 hne => qErr_first (cs := cs) h20 hk h0 hne)
  have HLA0 := hide (fun h20 h0 => qErr_last (cs := cs) h20 h0)
  have HTL0 := hide (fun (h20 : ¬ 20 < nParts cs) h0 => qTxt_le (cs := cs) (by omega) h0 (fun x hx p hp => (hB x hx p hp).1))
  have HA := hide hA
  have HB := hide hB
  have HNP0 := hide (fun (h20 : ¬ 20 < nParts cs) k (hk : k < cs.length) => Nat.le_trans (nParts_at hk) (by omega : nParts cs ≤ 20))
  have hm := hA.1
  unfold maxLen at hm
  obtain ⟨iP, hiP, hzP0, hzP1, hzP2⟩ := info_parts info_strQ
  have HIS := hide (And.intro hiP (And.intro hzP0 (And.intro hzP1 hzP2)))
  clear hiP hzP0 hzP1 hzP2 hA hB
  go_enter Try.func20, Try.ntmps20
  go_wp2
  go_loopw [4, 22] (fun s i wr => ∃ (k : Nat) (os : Array Obj) (n : Nat), k ≤ cs.length ∧ s = .int .i64 (nParts (cs.take k)) ∧ i = .int .i64 k ∧ wr = plus (w.alloc (.cells #[.slice A cs.length c] 24)) os n) (fun _ i _ => cs.length - (RowKit.intOf i).toNat)
  case atStart => exact ⟨0, #[], _, Nat.zero_le _, rfl, rfl, plus_nil.symm⟩
  case round =>
    obtain ⟨k, os, n, hk, rfl, rfl, rfl⟩ := hrel
    by_cases hlt : k < cs.length
    · obtain ⟨b, o, rfl, hb, hv⟩ := HA.out.2 (by omega)
      obtain ⟨c0, A2, cap, c1, hP⟩ := hv k hlt
      have h1 := nParts_snoc (cs.take k) cs[k]
      rw [← List.take_succ_eq_append_getElem hlt] at h1
      have h2 := nParts_take cs k
      have h3 := nParts_at hlt
      clear hv hP
      generalize nParts (cs.take k) = N at *
      generalize cs[k] = x at *
      obtain ⟨neg, ps⟩ := x
      simp only at c0 c1 h1 h3
      go_wp2
      go_roundw
      case rel => exact ⟨k + 1, _, _, hlt, by rw [h1]; go_num, by go_num, by first | rfl | (simp only [plus_alloc, plus_plus, pl_drewN, plus_drew]; rfl)⟩
      case measure => simp [RowKit.intOf]; omega
    obtain rfl : k = cs.length := by omega
    rw [List.take_length]
    clear hlt hk
    by_cases h20 : 20 < nParts cs
    · have HR := hide (HMA.out h20)
      have i1 : (20 : Int) < (nParts cs : Int) := by omega
      clear HFI0 HLA0 HTL0 HNP0 HA HB h20 hN
      generalize nParts cs = N at *
      go_wp2
      exact HBAD.out 4 _ HR.out (by decide) (by repeat (first | with_reducible exact Below.refl _ _ | with_reducible refine bl_plus ?_ | with_reducible refine bl_alloc ?_ _ | with_reducible refine bl_drew ?_ | with_reducible refine bl_drewN ?_ _))
    have HFI := hide (HFI0.out h20)
    have HLA := hide (HLA0.out h20)
    have HTL := hide (HTL0.out h20)
    have HNP := hide (HNP0.out h20)
    have i1 : ¬ (20 : Int) < (nParts cs : Int) := by omega
    clear HMA HFI0 HLA0 HTL0 HNP0 h20 hN
    generalize nParts cs = N at *
    go_wp2
    clear i1
    go_loopw [7, 37] (fun v i wr => ∃ (k : Nat) (A' : Option Addr) (c' : Nat) (os : Array Obj) (n : Nat), k ≤ cs.length ∧ v = .slice A' k c' ∧ i = .int .i64 k ∧ Hid (∀ j, j < k → cerrAt cs j = 0) ∧
      Hid (OwnK 1 9 wr (w.heap.size + 1) (.slice A' k c') k ((((cs.take k).map Cq.txt).map bsOf).map Value.string)) ∧ wr = plus (w.alloc (.cells #[.slice A cs.length c] 24)) os n) (fun _ i _ => cs.length - (RowKit.intOf i).toNat)
    case atStart => exact ⟨0, none, 0, _, _, Nat.zero_le _, rfl, rfl, hide (fun j hj => by omega), hide OwnK.empty, rfl⟩
    case round =>
      clear os n
      obtain ⟨k, A', c', os, n, hk, rfl, rfl, HK, HS, rfl⟩ := hrel
      by_cases hlt : k < cs.length
      · clear HLA HTL
        obtain ⟨b, o, rfl, hb, hv⟩ := HA.out.2 (by omega)
        obtain ⟨c0, A2, cap, c1', hP⟩ := hv k hlt
        have HE := hide (HFI.out k hlt HK.out)
        have HX := hide (fun (h : cerrAt cs k = 0) j (hj : j < k + 1) => (by
          rcases Nat.lt_or_ge j k with g | g
          · exact HK.out j g
          · obtain rfl : j = k := by omega
            exact h : cerrAt cs j = 0))
        have hbx := HB.out cs[k] (List.getElem_mem hlt)
        have hnp := HNP.out k hlt
        have htk : ∀ {y : Cq}, cs[k] = y → (((cs.take (k + 1)).map Cq.txt).map bsOf).map Value.string = (((cs.take k).map Cq.txt).map bsOf).map Value.string ++ [.string (bsOf y.txt)] := by
          rintro y rfl
          rw [List.take_succ_eq_append_getElem hlt, map_snoc, map_snoc, map_snoc]
        have hez := cerrAt_at hlt
        rw [hez] at HE HX
        clear hv HFI HK hez HB HA HNP
        generalize cs[k] = x at *
        obtain ⟨neg, ps⟩ := x
        simp only at c0 c1' hP hbx hnp
        by_cases h0 : ps.length = 0
        · have HR := hide ((HE.out (by rw [cErr_none h0]; decide)).trans (cErr_none h0))
          have i0 : ((ps.length : Int) == 0) = true := by rw [beq_iff_eq]; omega
          clear HE HX HS htk hP hbx h0
          go_wp2
          exact HBAD.out 1 _ HR.out (by decide) (by repeat (first | with_reducible exact Below.refl _ _ | with_reducible refine bl_plus ?_ | with_reducible refine bl_alloc ?_ _ | with_reducible refine bl_drew ?_ | with_reducible refine bl_drewN ?_ _))
        · have i0 : ((ps.length : Int) == 0) = false := beq_eq_false_iff_ne.2 (by omega)
          have hp0 : 0 < ps.length := by omega
          obtain ⟨b2, o2, rfl, hb2, hv2⟩ := hP.2 hp0
          have HV2 := hide hv2
          have HCF := hide (fun q (hq : q < ps.length) h0 hne => cErr_first (c := ⟨neg, ps⟩) hq h0 hne)
          have HCO := hide (fun h0 => cErr_ok (c := ⟨neg, ps⟩) (by simp only; omega) h0)
          have HBX := hide hbx
          clear hv2 hP hbx h0
          go_wp2
          clear i0
          go_loopw [10, 48] (fun v i wr => ∃ (q : Nat) (A3 : Option Addr) (c3 : Nat) (os2 : Array Obj) (n2 : Nat), q ≤ ps.length ∧ v = .slice A3 q c3 ∧ i = .int .i64 q ∧ Hid (∀ j, j < q → perrAt ps j = 0) ∧
            Hid (OwnK 1 9 wr (w.heap.size + 1 + os.size + 1) (.slice A3 q c3) q ((((ps.take q).map Pq.txt).map bsOf).map Value.string)) ∧ wr = plus ((plus (w.alloc (.cells #[.slice (some ⟨b, o, none⟩) cs.length c] 24)) os n).alloc (.cells #[.bool neg, .slice (some ⟨b2, o2, none⟩) ps.length cap] 61)) os2 n2) (fun _ i _ => ps.length - (RowKit.intOf i).toNat)
          case atStart => exact ⟨0, none, 0, #[], _, Nat.zero_le _, rfl, rfl, hide (fun j hj => by omega), hide OwnK.empty, plus_nil.symm⟩
          case round =>
            obtain ⟨q, A3, c3, os2, n2, hq, rfl, rfl, HK2, HS2, rfl⟩ := hrel
            by_cases hlt2 : q < ps.length
            · obtain ⟨d0, A4, c4, d1, hwc, hW⟩ := HV2.out q hlt2
              have HBP := hide (HBX.out ps[q] (List.getElem_mem hlt2))
              have HE2 := hide (HCF.out q hlt2 HK2.out)
              have HXP := hide (fun (h : perrAt ps q = 0) j (hj : j < q + 1) => (by
                rcases Nat.lt_or_ge j q with g | g
                · exact HK2.out j g
                · obtain rfl : j = q := by omega
                  exact h : perrAt ps j = 0))
              have htk2 : (((ps.take (q + 1)).map Pq.txt).map bsOf).map Value.string = (((ps.take q).map Pq.txt).map bsOf).map Value.string ++ [.string (bsOf ps[q].txt)] := by
                rw [List.take_succ_eq_append_getElem hlt2, map_snoc, map_snoc, map_snoc]
              have hcs := ps[q].err_cases
              rw [perrAt_at hlt2] at HE2 HXP
              clear HCF HCO HK2 HV2 HBX
              have HTK2 := hide htk2
              clear htk2
              generalize ps[q] = p at *
              have HR0 := hide (fun (h : p.err ≠ 0) => (HE.out (by rw [HE2.out h]; exact h)).trans (HE2.out h))
              rcases hcs with ⟨hk, he⟩ | ⟨⟨k0, k3⟩, ⟨h0, he⟩ | ⟨h0, hk3, h1, he⟩ | ⟨h0, hk1, hE⟩⟩
              · rw [he] at HR0
                have HR := hide (HR0.out (by decide))
                clear HE HX HE2 HXP HS HS2 htk HTK2 HBP he HR0 hW
                obtain ⟨pk, pw⟩ := p
                simp only at d0 d1 hk
                rcases Int.lt_or_le pk 0 with hk0 | hk0
                · clear hk
                  go_wp2
                  exact HBAD.out 10 _ HR.out (by decide) (by repeat (first | with_reducible exact Below.refl _ _ | with_reducible refine bl_plus ?_ | with_reducible refine bl_alloc ?_ _ | with_reducible refine bl_drew ?_ | with_reducible refine bl_drewN ?_ _))
                · have hk3 : 3 < pk := by omega
                  have hk00 : ¬ pk < 0 := by omega
                  clear hk
                  go_wp2
                  exact HBAD.out 10 _ HR.out (by decide) (by repeat (first | with_reducible exact Below.refl _ _ | with_reducible refine bl_plus ?_ | with_reducible refine bl_alloc ?_ _ | with_reducible refine bl_drew ?_ | with_reducible refine bl_drewN ?_ _))
              · rw [he] at HR0
                have HR := hide (HR0.out (by decide))
                clear HE HX HE2 HXP HS HS2 htk HTK2 HBP he HR0 hW
                obtain ⟨pk, pw⟩ := p
                simp only at d0 d1 k0 k3 h0
                have i0 : ((pw.length : Int) == 0) = true := by rw [beq_iff_eq]; omega
                have j1 : ¬ pk < 0 := by omega
                have j2 : ¬ 3 < pk := by omega
                clear h0
                go_wp2
                exact HBAD.out 1 _ HR.out (by decide) (by repeat (first | with_reducible exact Below.refl _ _ | with_reducible refine bl_plus ?_ | with_reducible refine bl_alloc ?_ _ | with_reducible refine bl_drew ?_ | with_reducible refine bl_drewN ?_ _))
              · rw [he] at HR0
                have HR := hide (HR0.out (by decide))
                clear HE HX HE2 HXP HS HS2 htk HTK2 HBP he HR0 hW
                obtain ⟨pk, pw⟩ := p
                simp only at d0 d1 k0 k3 h0 hk3 h1
                have i0 : ((pw.length : Int) == 0) = false := beq_eq_false_iff_ne.2 (by omega)
                have i2 : (pk != 3) = true := by simpa using hk3
                have i3 : ((pw.length : Int) != 1) = true := bne_iff_ne.2 (by omega)
                have j1 : ¬ pk < 0 := by omega
                have j2 : ¬ 3 < pk := by omega
                clear h0 h1
                go_wp2
                exact HBAD.out 1 _ HR.out (by decide) (by repeat (first | with_reducible exact Below.refl _ _ | with_reducible refine bl_plus ?_ | with_reducible refine bl_alloc ?_ _ | with_reducible refine bl_drew ?_ | with_reducible refine bl_drewN ?_ _))
              · have hp1 : ¬ p.ws.any (fun x => !isWordS x) = true → p.err = 0 := fun h => by rw [hE, if_neg h]
                have hp2 : p.ws.any (fun x => !isWordS x) = true → p.err = 1 := fun h => by rw [hE, if_pos h]
                have htl := fun hok => Pq.txt_le (p := p) hok HBP.out.1
                clear hE
                obtain ⟨b4, o4, rfl, hb4, hv4⟩ := hW.2 (by omega)
                have HV4 := hide hv4
                have HW4 := hide hW
                clear hv4 hW
                obtain ⟨pk, pw⟩ := p
                simp only at d0 d1 k0 k3 h0 hk1 hp1 hp2 HV4 HW4 HBP hwc
                have HPB := hide hp2
                have HPG := hide hp1
                have HTLE := hide htl
                have i0 : ((pw.length : Int) == 0) = false := beq_eq_false_iff_ne.2 (by omega)
                have j1 : ¬ pk < 0 := by omega
                have j2 : ¬ 3 < pk := by omega
                have hpw : 0 < pw.length := by omega
                have hwl : pw.length ≤ 1048576 := HBP.out.1
                clear hp1 hp2 htl h0
                have hcut : ((pk != 3) = false) ∨ ((pk != 3) = true ∧ ((pw.length : Int) != 1) = false) := by
                  rcases hk1 with rfl | ⟨h3, h1⟩
                  · exact .inl rfl
                  · exact .inr ⟨by simpa using h3, by rw [bne_eq_false_iff_eq]; omega⟩
                clear hk1
                have HCUT := hide hcut
                clear hcut
                rcases HCUT.out with hc1 | ⟨hc1, hc2⟩
                · clear HCUT
                  go_wp2
                  go_loopw [78] (fun i wr => ∃ (r : Nat) (os4 : Array Obj) (n4 : Nat), r ≤ pw.length ∧ i = .int .i64 r ∧ wr = plus ((plus ((plus (w.alloc (.cells #[.slice (some ⟨b, o, none⟩) cs.length c] 24)) os n).alloc (.cells #[.bool neg, .slice (some ⟨b2, o2, none⟩) ps.length cap] 61)) os2 n2).alloc (.cells #[.int .i64 pk, .slice (some ⟨b4, o4, none⟩) pw.length c4] 63)) os4 n4 ∧ Hid (∀ j (h : j < pw.length), j < r → isWordS pw[j] = true)) (fun i _ => pw.length - (RowKit.intOf i).toNat)
                  case atStart => exact ⟨0, #[], _, Nat.zero_le _, rfl, plus_nil.symm, hide (fun j h hj => by omega)⟩
                  case round =>
                    obtain ⟨r, os4, n4, hr, rfl, rfl, HK4⟩ := hrel
                    by_cases hlt4 : r < pw.length
                    · have e4 := HV4.out r hlt4
                      have hsx := HBP.out.2 pw[r] (List.getElem_mem hlt4)
                      have HWO := hide (fun W => wordsOf_reads pw[r] W hsx)
                      have hcw := isWordS_cases pw[r]
                      have HNX := hide (fun (h : isWordS pw[r] = true) j (hj : j < pw.length) (hjr : j < r + 1) => (by
                        rcases Nat.lt_or_ge j r with g | g
                        · exact HK4.out j hj g
                        · obtain rfl : j = r := by omega
                          exact h : isWordS pw[j] = true))
                      have HNO := hide (fun (h : isWordS pw[r] = false) => HPB.out (List.any_eq_true.2 ⟨pw[r], List.getElem_mem hlt4, by rw [h]; rfl⟩))
                      unfold WordsOut at HWO
                      clear HK4 hsx HPG HTLE HV4 HW4 HPB HBP
                      generalize pw[r] = x at *
                      generalize isWordS x = R at *
                      generalize wordsAt x 0 = l at *
                      rcases hcw with ⟨y, rfl, hR⟩ | ⟨hl1, rfl⟩
                      · obtain ⟨yt, yf, yu⟩ := y
                        cases R with
                        | true =>
                          have hq1 : (yt.toList == x.toList) = true := hR.symm
                          have hq2 : (yt.toList != x.toList) = false := by simp only [bne, hq1]; rfl
                          have HR4 := hide (HNX.out rfl)
                          clear HNX HNO hR
                          go_wp2_with (go_at_call 21; refine (HWO.out _).mono ?_; rintro e w' ⟨A5, c5, rfl, hr, hbl⟩; obtain ⟨b5, off5, rfl, hlt5, hc5⟩ := hr (by simp); have e5 := (hc5 0 (by simp)).1; simp only [List.getElem_cons_zero, Nat.zero_mul, Nat.add_zero, List.length_cons, List.length_nil] at e5 ⊢; clear hc5; obtain ⟨os5, n5, rfl⟩ := below_plus hbl; clear hbl hr)
                          go_roundw
                          case rel => exact ⟨r + 1, os4 ++ os5, _, hlt4, by go_num, plus_plus, HR4⟩
                          case measure => simp [RowKit.intOf]; omega
                        | false =>
                          have hq1 : (yt.toList == x.toList) = false := hR.symm
                          have hq2 : (yt.toList != x.toList) = true := by simp only [bne, hq1]; rfl
                          have he := HNO.out rfl
                          rw [he] at HR0
                          have HR := hide (HR0.out (by decide))
                          clear HNX HNO hR HR0 he HE HX HE2 HXP HS HS2 htk HTK2
                          go_wp2_with (go_at_call 21; refine (HWO.out _).mono ?_; rintro e w' ⟨A5, c5, rfl, hr, hbl⟩; obtain ⟨b5, off5, rfl, hlt5, hc5⟩ := hr (by simp); have e5 := (hc5 0 (by simp)).1; simp only [List.getElem_cons_zero, Nat.zero_mul, Nat.add_zero, List.length_cons, List.length_nil] at e5 ⊢; clear hc5; obtain ⟨os5, n5, rfl⟩ := below_plus hbl; clear hbl hr)
                          exact HBAD.out 1 _ HR.out (by decide) (by repeat (first | with_reducible exact Below.refl _ _ | with_reducible refine bl_plus ?_ | with_reducible refine bl_alloc ?_ _ | with_reducible refine bl_drew ?_ | with_reducible refine bl_drewN ?_ _))
                      · have i1 : ((l.length : Int) != 1) = true := bne_iff_ne.2 (by omega)
                        have he := HNO.out rfl
                        rw [he] at HR0
                        have HR := hide (HR0.out (by decide))
                        clear HNX HNO HR0 he HE HX HE2 HXP HS HS2 htk HTK2
                        go_wp2_with (go_at_call 21; refine (HWO.out _).mono ?_; rintro e w' ⟨A5, c5, rfl, hr, hbl⟩;  obtain ⟨os5, n5, rfl⟩ := below_plus hbl; clear hbl hr)
                        exact HBAD.out 1 _ HR.out (by decide) (by repeat (first | with_reducible exact Below.refl _ _ | with_reducible refine bl_plus ?_ | with_reducible refine bl_alloc ?_ _ | with_reducible refine bl_drew ?_ | with_reducible refine bl_drewN ?_ _))
                    · obtain rfl : r = pw.length := by omega
                      have hok : (Pq.mk pk pw).err = 0 := HPG.out (fun h => by
                        obtain ⟨x, hx, hxx⟩ := List.any_eq_true.1 h
                        obtain ⟨j, hj, rfl⟩ := List.mem_iff_getElem.1 hx
                        rw [HK4.out j hj hj] at hxx
                        cases hxx)
                      have htl := HTLE.out hok
                      have HX3 := hide (HXP.out hok)
                      have HBIG := hide (show (q + 1) * iP.bytes ≤ 140737488355328 ∧ q + 1 ≤ 140737488355328 by rw [HIS.out.2.2.2]; omega)
                      have hlj : (join (pw.map (fun y : ByteArray => y.data.toList)) [32]).length ≤ 40000000 := by
                        unfold Pq.txt at htl
                        split at htl
                        · simp only [List.length_cons, List.length_append] at htl; omega
                        · rw [List.length_append] at htl; simp only at htl; omega
                      have HJ := hide (fun W (hbw : Below w.heap.size w W) => Try.join_any b4 o4 c4 pw ⟨#[32]⟩ W (fun j x hx => by
                        obtain ⟨hj, rfl⟩ := List.getElem?_eq_some_iff.1 hx
                        exact (hbw.cell (p := ⟨b4, o4 + j, none⟩) hb4).trans (HV4.out j hj)) (Nat.lt_of_lt_of_le hb4 hbw.size) (by have := HBP.out.1; omega) hwc (by
                          show (join (pw.map (fun y : ByteArray => y.data.toList)) [32]).length ≤ _
                          omega))
                      have hjd : (⟨#[32]⟩ : ByteArray).data.toList = [32] := rfl
                      rw [hjd] at HJ
                      change Hid (∀ W, Below w.heap.size w W → Calls _ _ _ W fun e w' => e = .returned (.string (bsOf (join (pw.map (fun y : ByteArray => y.data.toList)) [32]))) ∧ _) at HJ
                      have hsz : (bsOf (join (pw.map (fun y : ByteArray => y.data.toList)) [32])).size ≤ 40000000 := by
                        show (List.toArray _).size ≤ _
                        rw [List.size_toArray]
                        exact hlj
                      clear HPB HPG HTLE HV4 HW4 HBP HR0 HE HX HE2 HXP HK4 hlj htl hok hjd
                      have hk4 : pk = 0 ∨ pk = 1 ∨ pk = 2 ∨ pk = 3 := by omega
                      clear k0 k3 j1 j2
                      rcases hk4 with rfl | rfl | rfl | rfl
                      · have hres : bsOf (join (pw.map (fun y : ByteArray => y.data.toList)) [32]) = bsOf (Pq.txt ⟨0, pw⟩) := by
                          unfold bsOf Pq.txt
                          simp
                        have HRES := hide hres
                        clear hres
                        generalize bsOf (join (pw.map (fun y : ByteArray => y.data.toList)) [32]) = S at *
                        have i1 : (S.size : Int) ≤ 40000000 := by omega
                        go_wp2_with (first
                          | (go_at_call 69; refine (HJ.out _ ?hbw).mono ?_; (case hbw => exact (by repeat (first | with_reducible exact Below.refl _ _ | with_reducible refine bl_plus ?_ | with_reducible refine bl_alloc ?_ _ | with_reducible refine bl_drew ?_ | with_reducible refine bl_drewN ?_ _))); rintro e w' ⟨rfl, hbl⟩; obtain ⟨os5, n5, rfl⟩ := below_plus hbl; clear hbl)
                          | (at_builtin; refine wpList_append_b rfl (.tmp 112) (.tmp 114) rfl rfl Try.underlying37 HIS.out.1 HIS.out.2.1 HIS.out.2.2.1 (by decide) rfl (by have := HIS.out.2.2.2; omega) (w.heap.size + 1 + os.size + 1) q (.slice A3 q c3) ((((ps.take q).map Pq.txt).map bsOf).map Value.string) [.string S] _ rfl (by repeat (first | with_reducible exact HS2.out | with_reducible refine ownK_alloc ?_ _ | with_reducible refine ownK_plus ?_ _ _ | with_reducible refine ownK_drew ?_ | with_reducible refine ownK_drewN ?_ _)) rfl (by intro u hu; simp only [List.mem_cons, List.not_mem_nil, or_false] at hu; subst hu; rfl) rfl (newN_cells (cs := [.string S]) (by simp only [World.size_alloc, plus_size, World.drew])) HBIG.out (by simp only [World.size_alloc, plus_size, World.drew]; omega) ?_; intro v' w1 hown1 hgr1 hfr1; have HGR := hide hgr1; obtain ⟨A1, c1, rfl, _⟩ := ownK_form hown1; have HN := hide hown1; clear hown1 hgr1 hfr1))
                        obtain ⟨os9, n9, hw1⟩ := grown_plus (L := ((plus (w.alloc (.cells #[.slice (some ⟨b, o, none⟩) cs.length c] 24)) os n).alloc (.cells #[.bool neg, .slice (some ⟨b2, o2, none⟩) ps.length cap] 61))) (by repeat (first | with_reducible exact Below.refl _ _ | with_reducible refine bl_plus ?_ | with_reducible refine bl_alloc ?_ _ | with_reducible refine bl_drew ?_ | with_reducible refine bl_drewN ?_ _)) HGR.out (fun g hg => by
                          have := (HS2.out.lt g hg).1
                          simp only [World.size_alloc, plus_size]
                          exact this)
                        go_roundw
                        case rel => exact ⟨q + 1, A1, c1, os9, n9, hlt2, rfl, by go_num, HX3, hide (by rw [HTK2.out, ← HRES.out]; exact HN.out), hw1⟩
                        case measure => simp [RowKit.intOf]; omega
                      · have hres : bsOf (join (pw.map (fun y : ByteArray => y.data.toList)) [32]) ++ (⟨#[42]⟩ : ByteArray) = bsOf (Pq.txt ⟨1, pw⟩) := by
                          unfold bsOf
                          rw [show (⟨#[42]⟩ : ByteArray) = ⟨[42].toArray⟩ from rfl, bb_app]
                          rfl
                        have HRES := hide hres
                        clear hres
                        generalize bsOf (join (pw.map (fun y : ByteArray => y.data.toList)) [32]) = S at *
                        have i1 : (S.size : Int) ≤ 40000000 := by omega
                        go_wp2_with (first
                          | (go_at_call 69; refine (HJ.out _ ?hbw).mono ?_; (case hbw => exact (by repeat (first | with_reducible exact Below.refl _ _ | with_reducible refine bl_plus ?_ | with_reducible refine bl_alloc ?_ _ | with_reducible refine bl_drew ?_ | with_reducible refine bl_drewN ?_ _))); rintro e w' ⟨rfl, hbl⟩; obtain ⟨os5, n5, rfl⟩ := below_plus hbl; clear hbl)
                          | (at_builtin; refine wpList_append_b rfl (.tmp 112) (.tmp 114) rfl rfl Try.underlying37 HIS.out.1 HIS.out.2.1 HIS.out.2.2.1 (by decide) rfl (by have := HIS.out.2.2.2; omega) (w.heap.size + 1 + os.size + 1) q (.slice A3 q c3) ((((ps.take q).map Pq.txt).map bsOf).map Value.string) [.string (S ++ (⟨#[42]⟩ : ByteArray))] _ rfl (by repeat (first | with_reducible exact HS2.out | with_reducible refine ownK_alloc ?_ _ | with_reducible refine ownK_plus ?_ _ _ | with_reducible refine ownK_drew ?_ | with_reducible refine ownK_drewN ?_ _)) rfl (by intro u hu; simp only [List.mem_cons, List.not_mem_nil, or_false] at hu; subst hu; rfl) rfl (newN_cells (cs := [.string (S ++ (⟨#[42]⟩ : ByteArray))]) (by simp only [World.size_alloc, plus_size, World.drew])) HBIG.out (by simp only [World.size_alloc, plus_size, World.drew]; omega) ?_; intro v' w1 hown1 hgr1 hfr1; have HGR := hide hgr1; obtain ⟨A1, c1, rfl, _⟩ := ownK_form hown1; have HN := hide hown1; clear hown1 hgr1 hfr1))
                        obtain ⟨os9, n9, hw1⟩ := grown_plus (L := ((plus (w.alloc (.cells #[.slice (some ⟨b, o, none⟩) cs.length c] 24)) os n).alloc (.cells #[.bool neg, .slice (some ⟨b2, o2, none⟩) ps.length cap] 61))) (by repeat (first | with_reducible exact Below.refl _ _ | with_reducible refine bl_plus ?_ | with_reducible refine bl_alloc ?_ _ | with_reducible refine bl_drew ?_ | with_reducible refine bl_drewN ?_ _)) HGR.out (fun g hg => by
                          have := (HS2.out.lt g hg).1
                          simp only [World.size_alloc, plus_size]
                          exact this)
                        go_roundw
                        case rel => exact ⟨q + 1, A1, c1, os9, n9, hlt2, rfl, by go_num, HX3, hide (by rw [HTK2.out, ← HRES.out]; exact HN.out), hw1⟩
                        case measure => simp [RowKit.intOf]; omega
                      · have hres : bsOf (join (pw.map (fun y : ByteArray => y.data.toList)) [32]) ++ (⟨#[126]⟩ : ByteArray) = bsOf (Pq.txt ⟨2, pw⟩) := by
                          unfold bsOf
                          rw [show (⟨#[126]⟩ : ByteArray) = ⟨[126].toArray⟩ from rfl, bb_app]
                          rfl
                        have HRES := hide hres
                        clear hres
                        generalize bsOf (join (pw.map (fun y : ByteArray => y.data.toList)) [32]) = S at *
                        have i1 : (S.size : Int) ≤ 40000000 := by omega
                        go_wp2_with (first
                          | (go_at_call 69; refine (HJ.out _ ?hbw).mono ?_; (case hbw => exact (by repeat (first | with_reducible exact Below.refl _ _ | with_reducible refine bl_plus ?_ | with_reducible refine bl_alloc ?_ _ | with_reducible refine bl_drew ?_ | with_reducible refine bl_drewN ?_ _))); rintro e w' ⟨rfl, hbl⟩; obtain ⟨os5, n5, rfl⟩ := below_plus hbl; clear hbl)
                          | (at_builtin; refine wpList_append_b rfl (.tmp 112) (.tmp 114) rfl rfl Try.underlying37 HIS.out.1 HIS.out.2.1 HIS.out.2.2.1 (by decide) rfl (by have := HIS.out.2.2.2; omega) (w.heap.size + 1 + os.size + 1) q (.slice A3 q c3) ((((ps.take q).map Pq.txt).map bsOf).map Value.string) [.string (S ++ (⟨#[126]⟩ : ByteArray))] _ rfl (by repeat (first | with_reducible exact HS2.out | with_reducible refine ownK_alloc ?_ _ | with_reducible refine ownK_plus ?_ _ _ | with_reducible refine ownK_drew ?_ | with_reducible refine ownK_drewN ?_ _)) rfl (by intro u hu; simp only [List.mem_cons, List.not_mem_nil, or_false] at hu; subst hu; rfl) rfl (newN_cells (cs := [.string (S ++ (⟨#[126]⟩ : ByteArray))]) (by simp only [World.size_alloc, plus_size, World.drew])) HBIG.out (by simp only [World.size_alloc, plus_size, World.drew]; omega) ?_; intro v' w1 hown1 hgr1 hfr1; have HGR := hide hgr1; obtain ⟨A1, c1, rfl, _⟩ := ownK_form hown1; have HN := hide hown1; clear hown1 hgr1 hfr1))
                        obtain ⟨os9, n9, hw1⟩ := grown_plus (L := ((plus (w.alloc (.cells #[.slice (some ⟨b, o, none⟩) cs.length c] 24)) os n).alloc (.cells #[.bool neg, .slice (some ⟨b2, o2, none⟩) ps.length cap] 61))) (by repeat (first | with_reducible exact Below.refl _ _ | with_reducible refine bl_plus ?_ | with_reducible refine bl_alloc ?_ _ | with_reducible refine bl_drew ?_ | with_reducible refine bl_drewN ?_ _)) HGR.out (fun g hg => by
                          have := (HS2.out.lt g hg).1
                          simp only [World.size_alloc, plus_size]
                          exact this)
                        go_roundw
                        case rel => exact ⟨q + 1, A1, c1, os9, n9, hlt2, rfl, by go_num, HX3, hide (by rw [HTK2.out, ← HRES.out]; exact HN.out), hw1⟩
                        case measure => simp [RowKit.intOf]; omega
                      · have hres : (⟨#[34]⟩ : ByteArray) ++ bsOf (join (pw.map (fun y : ByteArray => y.data.toList)) [32]) ++ (⟨#[34]⟩ : ByteArray) = bsOf (Pq.txt ⟨3, pw⟩) := by
                          unfold bsOf
                          rw [show (⟨#[34]⟩ : ByteArray) = ⟨[34].toArray⟩ from rfl, bb_app, bb_app]
                          rfl
                        have HRES := hide hres
                        clear hres
                        generalize bsOf (join (pw.map (fun y : ByteArray => y.data.toList)) [32]) = S at *
                        have i1 : (S.size : Int) ≤ 40000000 := by omega
                        go_wp2_with (first
                          | (go_at_call 69; refine (HJ.out _ ?hbw).mono ?_; (case hbw => exact (by repeat (first | with_reducible exact Below.refl _ _ | with_reducible refine bl_plus ?_ | with_reducible refine bl_alloc ?_ _ | with_reducible refine bl_drew ?_ | with_reducible refine bl_drewN ?_ _))); rintro e w' ⟨rfl, hbl⟩; obtain ⟨os5, n5, rfl⟩ := below_plus hbl; clear hbl)
                          | (at_builtin; refine wpList_append_b rfl (.tmp 112) (.tmp 114) rfl rfl Try.underlying37 HIS.out.1 HIS.out.2.1 HIS.out.2.2.1 (by decide) rfl (by have := HIS.out.2.2.2; omega) (w.heap.size + 1 + os.size + 1) q (.slice A3 q c3) ((((ps.take q).map Pq.txt).map bsOf).map Value.string) [.string ((⟨#[34]⟩ : ByteArray) ++ S ++ (⟨#[34]⟩ : ByteArray))] _ rfl (by repeat (first | with_reducible exact HS2.out | with_reducible refine ownK_alloc ?_ _ | with_reducible refine ownK_plus ?_ _ _ | with_reducible refine ownK_drew ?_ | with_reducible refine ownK_drewN ?_ _)) rfl (by intro u hu; simp only [List.mem_cons, List.not_mem_nil, or_false] at hu; subst hu; rfl) rfl (newN_cells (cs := [.string ((⟨#[34]⟩ : ByteArray) ++ S ++ (⟨#[34]⟩ : ByteArray))]) (by simp only [World.size_alloc, plus_size, World.drew])) HBIG.out (by simp only [World.size_alloc, plus_size, World.drew]; omega) ?_; intro v' w1 hown1 hgr1 hfr1; have HGR := hide hgr1; obtain ⟨A1, c1, rfl, _⟩ := ownK_form hown1; have HN := hide hown1; clear hown1 hgr1 hfr1))
                        obtain ⟨os9, n9, hw1⟩ := grown_plus (L := ((plus (w.alloc (.cells #[.slice (some ⟨b, o, none⟩) cs.length c] 24)) os n).alloc (.cells #[.bool neg, .slice (some ⟨b2, o2, none⟩) ps.length cap] 61))) (by repeat (first | with_reducible exact Below.refl _ _ | with_reducible refine bl_plus ?_ | with_reducible refine bl_alloc ?_ _ | with_reducible refine bl_drew ?_ | with_reducible refine bl_drewN ?_ _)) HGR.out (fun g hg => by
                          have := (HS2.out.lt g hg).1
                          simp only [World.size_alloc, plus_size]
                          exact this)
                        go_roundw
                        case rel => exact ⟨q + 1, A1, c1, os9, n9, hlt2, rfl, by go_num, HX3, hide (by rw [HTK2.out, ← HRES.out]; exact HN.out), hw1⟩
                        case measure => simp [RowKit.intOf]; omega
                · clear HCUT
                  go_wp2
                  go_loopw [78] (fun i wr => ∃ (r : Nat) (os4 : Array Obj) (n4 : Nat), r ≤ pw.length ∧ i = .int .i64 r ∧ wr = plus ((plus ((plus (w.alloc (.cells #[.slice (some ⟨b, o, none⟩) cs.length c] 24)) os n).alloc (.cells #[.bool neg, .slice (some ⟨b2, o2, none⟩) ps.length cap] 61)) os2 n2).alloc (.cells #[.int .i64 pk, .slice (some ⟨b4, o4, none⟩) pw.length c4] 63)) os4 n4 ∧ Hid (∀ j (h : j < pw.length), j < r → isWordS pw[j] = true)) (fun i _ => pw.length - (RowKit.intOf i).toNat)
                  case atStart => exact ⟨0, #[], _, Nat.zero_le _, rfl, plus_nil.symm, hide (fun j h hj => by omega)⟩
                  case round =>
                    obtain ⟨r, os4, n4, hr, rfl, rfl, HK4⟩ := hrel
                    by_cases hlt4 : r < pw.length
                    · have e4 := HV4.out r hlt4
                      have hsx := HBP.out.2 pw[r] (List.getElem_mem hlt4)
                      have HWO := hide (fun W => wordsOf_reads pw[r] W hsx)
                      have hcw := isWordS_cases pw[r]
                      have HNX := hide (fun (h : isWordS pw[r] = true) j (hj : j < pw.length) (hjr : j < r + 1) => (by
                        rcases Nat.lt_or_ge j r with g | g
                        · exact HK4.out j hj g
                        · obtain rfl : j = r := by omega
                          exact h : isWordS pw[j] = true))
                      have HNO := hide (fun (h : isWordS pw[r] = false) => HPB.out (List.any_eq_true.2 ⟨pw[r], List.getElem_mem hlt4, by rw [h]; rfl⟩))
                      unfold WordsOut at HWO
                      clear HK4 hsx HPG HTLE HV4 HW4 HPB HBP
                      generalize pw[r] = x at *
                      generalize isWordS x = R at *
                      generalize wordsAt x 0 = l at *
                      rcases hcw with ⟨y, rfl, hR⟩ | ⟨hl1, rfl⟩
                      · obtain ⟨yt, yf, yu⟩ := y
                        cases R with
                        | true =>
                          have hq1 : (yt.toList == x.toList) = true := hR.symm
                          have hq2 : (yt.toList != x.toList) = false := by simp only [bne, hq1]; rfl
                          have HR4 := hide (HNX.out rfl)
                          clear HNX HNO hR
                          go_wp2_with (go_at_call 21; refine (HWO.out _).mono ?_; rintro e w' ⟨A5, c5, rfl, hr, hbl⟩; obtain ⟨b5, off5, rfl, hlt5, hc5⟩ := hr (by simp); have e5 := (hc5 0 (by simp)).1; simp only [List.getElem_cons_zero, Nat.zero_mul, Nat.add_zero, List.length_cons, List.length_nil] at e5 ⊢; clear hc5; obtain ⟨os5, n5, rfl⟩ := below_plus hbl; clear hbl hr)
                          go_roundw
                          case rel => exact ⟨r + 1, os4 ++ os5, _, hlt4, by go_num, plus_plus, HR4⟩
                          case measure => simp [RowKit.intOf]; omega
                        | false =>
                          have hq1 : (yt.toList == x.toList) = false := hR.symm
                          have hq2 : (yt.toList != x.toList) = true := by simp only [bne, hq1]; rfl
                          have he := HNO.out rfl
                          rw [he] at HR0
                          have HR := hide (HR0.out (by decide))
                          clear HNX HNO hR HR0 he HE HX HE2 HXP HS HS2 htk HTK2
                          go_wp2_with (go_at_call 21; refine (HWO.out _).mono ?_; rintro e w' ⟨A5, c5, rfl, hr, hbl⟩; obtain ⟨b5, off5, rfl, hlt5, hc5⟩ := hr (by simp); have e5 := (hc5 0 (by simp)).1; simp only [List.getElem_cons_zero, Nat.zero_mul, Nat.add_zero, List.length_cons, List.length_nil] at e5 ⊢; clear hc5; obtain ⟨os5, n5, rfl⟩ := below_plus hbl; clear hbl hr)
                          exact HBAD.out 1 _ HR.out (by decide) (by repeat (first | with_reducible exact Below.refl _ _ | with_reducible refine bl_plus ?_ | with_reducible refine bl_alloc ?_ _ | with_reducible refine bl_drew ?_ | with_reducible refine bl_drewN ?_ _))
                      · have i1 : ((l.length : Int) != 1) = true := bne_iff_ne.2 (by omega)
                        have he := HNO.out rfl
                        rw [he] at HR0
                        have HR := hide (HR0.out (by decide))
                        clear HNX HNO HR0 he HE HX HE2 HXP HS HS2 htk HTK2
                        go_wp2_with (go_at_call 21; refine (HWO.out _).mono ?_; rintro e w' ⟨A5, c5, rfl, hr, hbl⟩;  obtain ⟨os5, n5, rfl⟩ := below_plus hbl; clear hbl hr)
                        exact HBAD.out 1 _ HR.out (by decide) (by repeat (first | with_reducible exact Below.refl _ _ | with_reducible refine bl_plus ?_ | with_reducible refine bl_alloc ?_ _ | with_reducible refine bl_drew ?_ | with_reducible refine bl_drewN ?_ _))
                    · obtain rfl : r = pw.length := by omega
                      have hok : (Pq.mk pk pw).err = 0 := HPG.out (fun h => by
                        obtain ⟨x, hx, hxx⟩ := List.any_eq_true.1 h
                        obtain ⟨j, hj, rfl⟩ := List.mem_iff_getElem.1 hx
                        rw [HK4.out j hj hj] at hxx
                        cases hxx)
                      have htl := HTLE.out hok
                      have HX3 := hide (HXP.out hok)
                      have HBIG := hide (show (q + 1) * iP.bytes ≤ 140737488355328 ∧ q + 1 ≤ 140737488355328 by rw [HIS.out.2.2.2]; omega)
                      have hlj : (join (pw.map (fun y : ByteArray => y.data.toList)) [32]).length ≤ 40000000 := by
                        unfold Pq.txt at htl
                        split at htl
                        · simp only [List.length_cons, List.length_append] at htl; omega
                        · rw [List.length_append] at htl; simp only at htl; omega
                      have HJ := hide (fun W (hbw : Below w.heap.size w W) => Try.join_any b4 o4 c4 pw ⟨#[32]⟩ W (fun j x hx => by
                        obtain ⟨hj, rfl⟩ := List.getElem?_eq_some_iff.1 hx
                        exact (hbw.cell (p := ⟨b4, o4 + j, none⟩) hb4).trans (HV4.out j hj)) (Nat.lt_of_lt_of_le hb4 hbw.size) (by have := HBP.out.1; omega) hwc (by
                          show (join (pw.map (fun y : ByteArray => y.data.toList)) [32]).length ≤ _
                          omega))
                      have hjd : (⟨#[32]⟩ : ByteArray).data.toList = [32] := rfl
                      rw [hjd] at HJ
                      change Hid (∀ W, Below w.heap.size w W → Calls _ _ _ W fun e w' => e = .returned (.string (bsOf (join (pw.map (fun y : ByteArray => y.data.toList)) [32]))) ∧ _) at HJ
                      have hsz : (bsOf (join (pw.map (fun y : ByteArray => y.data.toList)) [32])).size ≤ 40000000 := by
                        show (List.toArray _).size ≤ _
                        rw [List.size_toArray]
                        exact hlj
                      clear HPB HPG HTLE HV4 HW4 HBP HR0 HE HX HE2 HXP HK4 hlj htl hok hjd
                      have hk4 : pk = 0 ∨ pk = 1 ∨ pk = 2 ∨ pk = 3 := by omega
                      clear k0 k3 j1 j2
                      rcases hk4 with rfl | rfl | rfl | rfl
                      · have hres : bsOf (join (pw.map (fun y : ByteArray => y.data.toList)) [32]) = bsOf (Pq.txt ⟨0, pw⟩) := by
                          unfold bsOf Pq.txt
                          simp
                        have HRES := hide hres
                        clear hres
                        generalize bsOf (join (pw.map (fun y : ByteArray => y.data.toList)) [32]) = S at *
                        have i1 : (S.size : Int) ≤ 40000000 := by omega
                        go_wp2_with (first
                          | (go_at_call 69; refine (HJ.out _ ?hbw).mono ?_; (case hbw => exact (by repeat (first | with_reducible exact Below.refl _ _ | with_reducible refine bl_plus ?_ | with_reducible refine bl_alloc ?_ _ | with_reducible refine bl_drew ?_ | with_reducible refine bl_drewN ?_ _))); rintro e w' ⟨rfl, hbl⟩; obtain ⟨os5, n5, rfl⟩ := below_plus hbl; clear hbl)
                          | (at_builtin; refine wpList_append_b rfl (.tmp 112) (.tmp 114) rfl rfl Try.underlying37 HIS.out.1 HIS.out.2.1 HIS.out.2.2.1 (by decide) rfl (by have := HIS.out.2.2.2; omega) (w.heap.size + 1 + os.size + 1) q (.slice A3 q c3) ((((ps.take q).map Pq.txt).map bsOf).map Value.string) [.string S] _ rfl (by repeat (first | with_reducible exact HS2.out | with_reducible refine ownK_alloc ?_ _ | with_reducible refine ownK_plus ?_ _ _ | with_reducible refine ownK_drew ?_ | with_reducible refine ownK_drewN ?_ _)) rfl (by intro u hu; simp only [List.mem_cons, List.not_mem_nil, or_false] at hu; subst hu; rfl) rfl (newN_cells (cs := [.string S]) (by simp only [World.size_alloc, plus_size, World.drew])) HBIG.out (by simp only [World.size_alloc, plus_size, World.drew]; omega) ?_; intro v' w1 hown1 hgr1 hfr1; have HGR := hide hgr1; obtain ⟨A1, c1, rfl, _⟩ := ownK_form hown1; have HN := hide hown1; clear hown1 hgr1 hfr1))
                        obtain ⟨os9, n9, hw1⟩ := grown_plus (L := ((plus (w.alloc (.cells #[.slice (some ⟨b, o, none⟩) cs.length c] 24)) os n).alloc (.cells #[.bool neg, .slice (some ⟨b2, o2, none⟩) ps.length cap] 61))) (by repeat (first | with_reducible exact Below.refl _ _ | with_reducible refine bl_plus ?_ | with_reducible refine bl_alloc ?_ _ | with_reducible refine bl_drew ?_ | with_reducible refine bl_drewN ?_ _)) HGR.out (fun g hg => by
                          have := (HS2.out.lt g hg).1
                          simp only [World.size_alloc, plus_size]
                          exact this)
                        go_roundw
                        case rel => exact ⟨q + 1, A1, c1, os9, n9, hlt2, rfl, by go_num, HX3, hide (by rw [HTK2.out, ← HRES.out]; exact HN.out), hw1⟩
                        case measure => simp [RowKit.intOf]; omega
                      · have hres : bsOf (join (pw.map (fun y : ByteArray => y.data.toList)) [32]) ++ (⟨#[42]⟩ : ByteArray) = bsOf (Pq.txt ⟨1, pw⟩) := by
                          unfold bsOf
                          rw [show (⟨#[42]⟩ : ByteArray) = ⟨[42].toArray⟩ from rfl, bb_app]
                          rfl
                        have HRES := hide hres
                        clear hres
                        generalize bsOf (join (pw.map (fun y : ByteArray => y.data.toList)) [32]) = S at *
                        have i1 : (S.size : Int) ≤ 40000000 := by omega
                        go_wp2_with (first
                          | (go_at_call 69; refine (HJ.out _ ?hbw).mono ?_; (case hbw => exact (by repeat (first | with_reducible exact Below.refl _ _ | with_reducible refine bl_plus ?_ | with_reducible refine bl_alloc ?_ _ | with_reducible refine bl_drew ?_ | with_reducible refine bl_drewN ?_ _))); rintro e w' ⟨rfl, hbl⟩; obtain ⟨os5, n5, rfl⟩ := below_plus hbl; clear hbl)
                          | (at_builtin; refine wpList_append_b rfl (.tmp 112) (.tmp 114) rfl rfl Try.underlying37 HIS.out.1 HIS.out.2.1 HIS.out.2.2.1 (by decide) rfl (by have := HIS.out.2.2.2; omega) (w.heap.size + 1 + os.size + 1) q (.slice A3 q c3) ((((ps.take q).map Pq.txt).map bsOf).map Value.string) [.string (S ++ (⟨#[42]⟩ : ByteArray))] _ rfl (by repeat (first | with_reducible exact HS2.out | with_reducible refine ownK_alloc ?_ _ | with_reducible refine ownK_plus ?_ _ _ | with_reducible refine ownK_drew ?_ | with_reducible refine ownK_drewN ?_ _)) rfl (by intro u hu; simp only [List.mem_cons, List.not_mem_nil, or_false] at hu; subst hu; rfl) rfl (newN_cells (cs := [.string (S ++ (⟨#[42]⟩ : ByteArray))]) (by simp only [World.size_alloc, plus_size, World.drew])) HBIG.out (by simp only [World.size_alloc, plus_size, World.drew]; omega) ?_; intro v' w1 hown1 hgr1 hfr1; have HGR := hide hgr1; obtain ⟨A1, c1, rfl, _⟩ := ownK_form hown1; have HN := hide hown1; clear hown1 hgr1 hfr1))
                        obtain ⟨os9, n9, hw1⟩ := grown_plus (L := ((plus (w.alloc (.cells #[.slice (some ⟨b, o, none⟩) cs.length c] 24)) os n).alloc (.cells #[.bool neg, .slice (some ⟨b2, o2, none⟩) ps.length cap] 61))) (by repeat (first | with_reducible exact Below.refl _ _ | with_reducible refine bl_plus ?_ | with_reducible refine bl_alloc ?_ _ | with_reducible refine bl_drew ?_ | with_reducible refine bl_drewN ?_ _)) HGR.out (fun g hg => by
                          have := (HS2.out.lt g hg).1
                          simp only [World.size_alloc, plus_size]
                          exact this)
                        go_roundw
                        case rel => exact ⟨q + 1, A1, c1, os9, n9, hlt2, rfl, by go_num, HX3, hide (by rw [HTK2.out, ← HRES.out]; exact HN.out), hw1⟩
                        case measure => simp [RowKit.intOf]; omega
                      · have hres : bsOf (join (pw.map (fun y : ByteArray => y.data.toList)) [32]) ++ (⟨#[126]⟩ : ByteArray) = bsOf (Pq.txt ⟨2, pw⟩) := by
                          unfold bsOf
                          rw [show (⟨#[126]⟩ : ByteArray) = ⟨[126].toArray⟩ from rfl, bb_app]
                          rfl
                        have HRES := hide hres
                        clear hres
                        generalize bsOf (join (pw.map (fun y : ByteArray => y.data.toList)) [32]) = S at *
                        have i1 : (S.size : Int) ≤ 40000000 := by omega
                        go_wp2_with (first
                          | (go_at_call 69; refine (HJ.out _ ?hbw).mono ?_; (case hbw => exact (by repeat (first | with_reducible exact Below.refl _ _ | with_reducible refine bl_plus ?_ | with_reducible refine bl_alloc ?_ _ | with_reducible refine bl_drew ?_ | with_reducible refine bl_drewN ?_ _))); rintro e w' ⟨rfl, hbl⟩; obtain ⟨os5, n5, rfl⟩ := below_plus hbl; clear hbl)
                          | (at_builtin; refine wpList_append_b rfl (.tmp 112) (.tmp 114) rfl rfl Try.underlying37 HIS.out.1 HIS.out.2.1 HIS.out.2.2.1 (by decide) rfl (by have := HIS.out.2.2.2; omega) (w.heap.size + 1 + os.size + 1) q (.slice A3 q c3) ((((ps.take q).map Pq.txt).map bsOf).map Value.string) [.string (S ++ (⟨#[126]⟩ : ByteArray))] _ rfl (by repeat (first | with_reducible exact HS2.out | with_reducible refine ownK_alloc ?_ _ | with_reducible refine ownK_plus ?_ _ _ | with_reducible refine ownK_drew ?_ | with_reducible refine ownK_drewN ?_ _)) rfl (by intro u hu; simp only [List.mem_cons, List.not_mem_nil, or_false] at hu; subst hu; rfl) rfl (newN_cells (cs := [.string (S ++ (⟨#[126]⟩ : ByteArray))]) (by simp only [World.size_alloc, plus_size, World.drew])) HBIG.out (by simp only [World.size_alloc, plus_size, World.drew]; omega) ?_; intro v' w1 hown1 hgr1 hfr1; have HGR := hide hgr1; obtain ⟨A1, c1, rfl, _⟩ := ownK_form hown1; have HN := hide hown1; clear hown1 hgr1 hfr1))
                        obtain ⟨os9, n9, hw1⟩ := grown_plus (L := ((plus (w.alloc (.cells #[.slice (some ⟨b, o, none⟩) cs.length c] 24)) os n).alloc (.cells #[.bool neg, .slice (some ⟨b2, o2, none⟩) ps.length cap] 61))) (by repeat (first | with_reducible exact Below.refl _ _ | with_reducible refine bl_plus ?_ | with_reducible refine bl_alloc ?_ _ | with_reducible refine bl_drew ?_ | with_reducible refine bl_drewN ?_ _)) HGR.out (fun g hg => by
                          have := (HS2.out.lt g hg).1
                          simp only [World.size_alloc, plus_size]
                          exact this)
                        go_roundw
                        case rel => exact ⟨q + 1, A1, c1, os9, n9, hlt2, rfl, by go_num, HX3, hide (by rw [HTK2.out, ← HRES.out]; exact HN.out), hw1⟩
                        case measure => simp [RowKit.intOf]; omega
                      · have hres : (⟨#[34]⟩ : ByteArray) ++ bsOf (join (pw.map (fun y : ByteArray => y.data.toList)) [32]) ++ (⟨#[34]⟩ : ByteArray) = bsOf (Pq.txt ⟨3, pw⟩) := by
                          unfold bsOf
                          rw [show (⟨#[34]⟩ : ByteArray) = ⟨[34].toArray⟩ from rfl, bb_app, bb_app]
                          rfl
                        have HRES := hide hres
                        clear hres
                        generalize bsOf (join (pw.map (fun y : ByteArray => y.data.toList)) [32]) = S at *
                        have i1 : (S.size : Int) ≤ 40000000 := by omega
                        go_wp2_with (first
                          | (go_at_call 69; refine (HJ.out _ ?hbw).mono ?_; (case hbw => exact (by repeat (first | with_reducible exact Below.refl _ _ | with_reducible refine bl_plus ?_ | with_reducible refine bl_alloc ?_ _ | with_reducible refine bl_drew ?_ | with_reducible refine bl_drewN ?_ _))); rintro e w' ⟨rfl, hbl⟩; obtain ⟨os5, n5, rfl⟩ := below_plus hbl; clear hbl)
                          | (at_builtin; refine wpList_append_b rfl (.tmp 112) (.tmp 114) rfl rfl Try.underlying37 HIS.out.1 HIS.out.2.1 HIS.out.2.2.1 (by decide) rfl (by have := HIS.out.2.2.2; omega) (w.heap.size + 1 + os.size + 1) q (.slice A3 q c3) ((((ps.take q).map Pq.txt).map bsOf).map Value.string) [.string ((⟨#[34]⟩ : ByteArray) ++ S ++ (⟨#[34]⟩ : ByteArray))] _ rfl (by repeat (first | with_reducible exact HS2.out | with_reducible refine ownK_alloc ?_ _ | with_reducible refine ownK_plus ?_ _ _ | with_reducible refine ownK_drew ?_ | with_reducible refine ownK_drewN ?_ _)) rfl (by intro u hu; simp only [List.mem_cons, List.not_mem_nil, or_false] at hu; subst hu; rfl) rfl (newN_cells (cs := [.string ((⟨#[34]⟩ : ByteArray) ++ S ++ (⟨#[34]⟩ : ByteArray))]) (by simp only [World.size_alloc, plus_size, World.drew])) HBIG.out (by simp only [World.size_alloc, plus_size, World.drew]; omega) ?_; intro v' w1 hown1 hgr1 hfr1; have HGR := hide hgr1; obtain ⟨A1, c1, rfl, _⟩ := ownK_form hown1; have HN := hide hown1; clear hown1 hgr1 hfr1))
                        obtain ⟨os9, n9, hw1⟩ := grown_plus (L := ((plus (w.alloc (.cells #[.slice (some ⟨b, o, none⟩) cs.length c] 24)) os n).alloc (.cells #[.bool neg, .slice (some ⟨b2, o2, none⟩) ps.length cap] 61))) (by repeat (first | with_reducible exact Below.refl _ _ | with_reducible refine bl_plus ?_ | with_reducible refine bl_alloc ?_ _ | with_reducible refine bl_drew ?_ | with_reducible refine bl_drewN ?_ _)) HGR.out (fun g hg => by
                          have := (HS2.out.lt g hg).1
                          simp only [World.size_alloc, plus_size]
                          exact this)
                        go_roundw
                        case rel => exact ⟨q + 1, A1, c1, os9, n9, hlt2, rfl, by go_num, HX3, hide (by rw [HTK2.out, ← HRES.out]; exact HN.out), hw1⟩
                        case measure => simp [RowKit.intOf]; omega
            · obtain rfl : q = ps.length := by omega
              rw [List.take_length] at HS2
              have hok := HCO.out HK2.out
              have HX2 := hide (HX.out hok)
              have hlj : (join (ps.map Pq.txt) [124]).length ≤ 800000020 := (cTxt_le hok hnp (fun p hp => (HBX.out p hp).1)).1
              have HJ := hide (fun W hb => joinRow_any ⟨#[124]⟩ HS2.out (by rw [List.length_map]; exact hp0) (by rw [List.length_map]; omega) (by
                show (join (ps.map Pq.txt) [124]).length ≤ _
                omega) W hb)
              have hjd : (⟨#[124]⟩ : ByteArray).data.toList = [124] := rfl
              rw [hjd] at HJ
              have hsz : (bsOf (join (ps.map Pq.txt) [124])).size ≤ 900000000 := by
                show (List.toArray _).size ≤ _
                rw [List.size_toArray]
                omega
              have HBIG2 := hide (show (k + 1) * iP.bytes ≤ 140737488355328 ∧ k + 1 ≤ 140737488355328 by rw [HIS.out.2.2.2]; omega)
              clear HE HX HCF HCO HK2 HV2 hjd hok hlj HBX hlt2 hq
              cases neg with
              | true =>
              have hres : (⟨#[45]⟩ : ByteArray) ++ bsOf (join (ps.map Pq.txt) [124]) = bsOf (Cq.txt ⟨true, ps⟩) := by
                unfold bsOf
                rw [show (⟨#[45]⟩ : ByteArray) = ⟨[45].toArray⟩ from rfl, bb_app]
                rfl
              have HRES := hide hres
              have HTK := hide (htk (y := ⟨true, ps⟩) rfl)
              clear hres htk
              generalize bsOf (join (ps.map Pq.txt) [124]) = S at *
              have i1 : (S.size : Int) ≤ 900000000 := by omega
              go_wp2_with (first
                | (go_at_call 69; refine (HJ.out _ ?hbw).mono ?_; (case hbw => exact (by repeat (first | with_reducible exact Below.refl _ _ | with_reducible refine bl_plus ?_ | with_reducible refine bl_alloc ?_ _ | with_reducible refine bl_drew ?_ | with_reducible refine bl_drewN ?_ _))); rintro e w' ⟨rfl, hbl⟩; obtain ⟨os5, n5, rfl⟩ := below_plus hbl; clear hbl)
                | (at_builtin; refine wpList_append_b rfl (.tmp 123) (.tmp 125) rfl rfl Try.underlying37 HIS.out.1 HIS.out.2.1 HIS.out.2.2.1 (by decide) rfl (by have := HIS.out.2.2.2; omega) (w.heap.size + 1) k (.slice A' k c') ((((cs.take k).map Cq.txt).map bsOf).map Value.string) [.string ((⟨#[45]⟩ : ByteArray) ++ S)] _ rfl (by repeat (first | with_reducible exact HS.out | with_reducible refine ownK_alloc ?_ _ | with_reducible refine ownK_plus ?_ _ _ | with_reducible refine ownK_drew ?_ | with_reducible refine ownK_drewN ?_ _)) rfl (by intro u hu; simp only [List.mem_cons, List.not_mem_nil, or_false] at hu; subst hu; rfl) rfl (newN_cells (cs := [.string ((⟨#[45]⟩ : ByteArray) ++ S)]) (by simp only [World.size_alloc, plus_size, World.drew])) HBIG2.out (by simp only [World.size_alloc, plus_size, World.drew]; omega) ?_; intro v' w1 hown1 hgr1 hfr1; have HGR := hide hgr1; obtain ⟨A1, c1, rfl, _⟩ := ownK_form hown1; have HN := hide hown1; clear hown1 hgr1 hfr1))
              obtain ⟨os9, n9, hw1⟩ := grown_plus (L := (w.alloc (.cells #[.slice (some ⟨b, o, none⟩) cs.length c] 24))) (by repeat (first | with_reducible exact Below.refl _ _ | with_reducible refine bl_plus ?_ | with_reducible refine bl_alloc ?_ _ | with_reducible refine bl_drew ?_ | with_reducible refine bl_drewN ?_ _)) HGR.out (fun g hg => by
                have := (HS.out.lt g hg).1
                simp only [World.size_alloc]
                exact this)
              go_roundw
              case rel => exact ⟨k + 1, A1, c1, os9, n9, hlt, rfl, by go_num, HX2, hide (by rw [HTK.out, ← HRES.out]; exact HN.out), hw1⟩
              case measure => simp [RowKit.intOf]; omega
              | false =>
              have hres : bsOf (join (ps.map Pq.txt) [124]) = bsOf (Cq.txt ⟨false, ps⟩) := by
                rfl
              have HRES := hide hres
              have HTK := hide (htk (y := ⟨false, ps⟩) rfl)
              clear hres htk
              generalize bsOf (join (ps.map Pq.txt) [124]) = S at *
              have i1 : (S.size : Int) ≤ 900000000 := by omega
              go_wp2_with (first
                | (go_at_call 69; refine (HJ.out _ ?hbw).mono ?_; (case hbw => exact (by repeat (first | with_reducible exact Below.refl _ _ | with_reducible refine bl_plus ?_ | with_reducible refine bl_alloc ?_ _ | with_reducible refine bl_drew ?_ | with_reducible refine bl_drewN ?_ _))); rintro e w' ⟨rfl, hbl⟩; obtain ⟨os5, n5, rfl⟩ := below_plus hbl; clear hbl)
                | (at_builtin; refine wpList_append_b rfl (.tmp 123) (.tmp 125) rfl rfl Try.underlying37 HIS.out.1 HIS.out.2.1 HIS.out.2.2.1 (by decide) rfl (by have := HIS.out.2.2.2; omega) (w.heap.size + 1) k (.slice A' k c') ((((cs.take k).map Cq.txt).map bsOf).map Value.string) [.string S] _ rfl (by repeat (first | with_reducible exact HS.out | with_reducible refine ownK_alloc ?_ _ | with_reducible refine ownK_plus ?_ _ _ | with_reducible refine ownK_drew ?_ | with_reducible refine ownK_drewN ?_ _)) rfl (by intro u hu; simp only [List.mem_cons, List.not_mem_nil, or_false] at hu; subst hu; rfl) rfl (newN_cells (cs := [.string S]) (by simp only [World.size_alloc, plus_size, World.drew])) HBIG2.out (by simp only [World.size_alloc, plus_size, World.drew]; omega) ?_; intro v' w1 hown1 hgr1 hfr1; have HGR := hide hgr1; obtain ⟨A1, c1, rfl, _⟩ := ownK_form hown1; have HN := hide hown1; clear hown1 hgr1 hfr1))
              obtain ⟨os9, n9, hw1⟩ := grown_plus (L := (w.alloc (.cells #[.slice (some ⟨b, o, none⟩) cs.length c] 24))) (by repeat (first | with_reducible exact Below.refl _ _ | with_reducible refine bl_plus ?_ | with_reducible refine bl_alloc ?_ _ | with_reducible refine bl_drew ?_ | with_reducible refine bl_drewN ?_ _)) HGR.out (fun g hg => by
                have := (HS.out.lt g hg).1
                simp only [World.size_alloc]
                exact this)
              go_roundw
              case rel => exact ⟨k + 1, A1, c1, os9, n9, hlt, rfl, by go_num, HX2, hide (by rw [HTK.out, ← HRES.out]; exact HN.out), hw1⟩
              case measure => simp [RowKit.intOf]; omega
      · obtain rfl : k = cs.length := by omega
        rw [List.take_length] at HS
        have HJ := hide (fun W (hb : Below (plus (w.alloc (.cells #[.slice A cs.length c] 24)) os n).heap.size (plus (w.alloc (.cells #[.slice A cs.length c] 24)) os n) W) => (by
          by_cases hz : cs.length = 0
          · have hcs : cs = [] := List.length_eq_zero_iff.1 hz
            rw [hz]
            refine (joinNone_any A' c' ⟨#[32]⟩ W).mono ?_
            rintro e w' ⟨rfl, rfl⟩
            rw [hcs]
            exact ⟨rfl, Below.refl _ _⟩
          · exact joinRow_any (ts := cs.map Cq.txt) ⟨#[32]⟩ HS.out (by rw [List.length_map]; omega) (by rw [List.length_map]; exact hL) (Nat.le_trans (HTL.out HK.out) (by decide)) W hb :
            Calls Try.prog 69 #[.slice A' cs.length c', .string ⟨#[32]⟩] W fun e w' => e = .returned (.string (bsOf (qTxt cs))) ∧ Below W.heap.size W w'))
        have hlast := HLA.out HK.out
        have hsz : (bsOf (qTxt cs)).size = (qTxt cs).length := by
          show (List.toArray _).size = _
          rw [List.size_toArray]
        have htl := HTL.out HK.out
        clear HLA HTL HFI HA HB HNP HK HS HIS hlt
        generalize bsOf (qTxt cs) = S at *
        generalize (qTxt cs).length = q at *
        by_cases h4 : 400 < q
        · have HR := hide (hlast.trans (if_pos h4))
          have i1 : (400 : Int) < (S.size : Int) := by omega
          have i2 : (S.size : Int) ≤ 20000000000 := by omega
          clear hlast hsz htl h4
          go_wp2_with (go_at_call 69; refine (HJ.out _ ?hbw).mono ?_; (case hbw => exact (by repeat (first | with_reducible exact Below.refl _ _ | with_reducible refine bl_plus ?_ | with_reducible refine bl_alloc ?_ _ | with_reducible refine bl_drew ?_ | with_reducible refine bl_drewN ?_ _))); rintro e w' ⟨rfl, hbl⟩; obtain ⟨os5, n5, rfl⟩ := below_plus hbl; clear hbl)
          exact HBAD.out 4 _ HR.out (by decide) (by repeat (first | with_reducible exact Below.refl _ _ | with_reducible refine bl_plus ?_ | with_reducible refine bl_alloc ?_ _ | with_reducible refine bl_drew ?_ | with_reducible refine bl_drewN ?_ _))
        · have HR := hide (hlast.trans (if_neg h4))
          have i1 : ¬ (400 : Int) < (S.size : Int) := by omega
          clear hlast hsz htl h4
          go_wp2_with (go_at_call 69; refine (HJ.out _ ?hbw).mono ?_; (case hbw => exact (by repeat (first | with_reducible exact Below.refl _ _ | with_reducible refine bl_plus ?_ | with_reducible refine bl_alloc ?_ _ | with_reducible refine bl_drew ?_ | with_reducible refine bl_drewN ?_ _))); rintro e w' ⟨rfl, hbl⟩; obtain ⟨os5, n5, rfl⟩ := below_plus hbl; clear hbl)
          exact HGOOD.out _ HR.out (by repeat (first | with_reducible exact Below.refl _ _ | with_reducible refine bl_plus ?_ | with_reducible refine bl_alloc ?_ _ | with_reducible refine bl_drew ?_ | with_reducible refine bl_drewN ?_ _))

end Go.Proofs.Ytfnooipkghfmoaa
