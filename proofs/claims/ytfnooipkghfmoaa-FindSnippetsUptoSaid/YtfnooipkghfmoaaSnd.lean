/-
  WALK: the program's QueryText.
-/
import Derived.Test.YtfnooipkghfmoaaSnc
import Derived.Test.YtfnooipkghfmoaaOwnG
import Derived.Test.YtfnooipkghfmoaaOwnB
set_option linter.all false
namespace Go.Proofs.Ytfnooipkghfmoaa
open Go.RowKit Go.Lib

theorem info_strQ : (Try.prog.info? 9).map (fun i => (i.zero, i.size, i.bytes)) = some (some (.string ByteArray.empty), 1, 16) := by kernel_rfl
/-- A row of strings that the call owns, as Join reads it. -/
theorem ownK_strs {e : TypeId} {w : World} {base n : Nat} {A : Option Addr} {c m : Nat} {ss : List ByteArray} (h : OwnK 1 e w base (.slice A m c) n (ss.map Value.string)) (hn : 0 < ss.length) :
    ∃ g, A = some ⟨g, 0, none⟩ ∧ g < w.heap.size ∧ m = ss.length ∧ n = ss.length ∧ ss.length ≤ c ∧ ∀ (j : Nat) x, ss[j]? = some x → w.cell? ⟨g, 0 + j, none⟩ = some (.string x) := by
  obtain ⟨hl, A', c', hv, h1, h2, h3⟩ := h
  injection hv with e1 e2 e3
  subst e1 e2 e3
  have hm : ss.length = m := by simpa using hl
  rcases h3 with ⟨_, h0, _⟩ | ⟨g, cur, rfl, hg, hb, h4, h5⟩
  · omega
  · refine ⟨g, rfl, (Array.getElem?_eq_some_iff.1 hb).1, hm.symm, hm.symm, by omega, fun j x hx => ?_⟩
    obtain ⟨hj, rfl⟩ := List.getElem?_eq_some_iff.1 hx
    rw [Nat.zero_add, cell_of_row w g j cur e (0, 0) hb]
    have h6 : (cur.toList.take (m * 1))[j]? = (ss.map Value.string)[j]? := by rw [h5]
    rw [List.getElem?_take_of_lt (by omega), List.getElem?_map, List.getElem?_eq_getElem hj] at h6
    simpa using h6
def bsOf (l : List UInt8) : ByteArray := ⟨l.toArray⟩
theorem bsOf_data (l : List (List UInt8)) : (l.map bsOf).map (fun y : ByteArray => y.data.toList) = l := by
  rw [List.map_map]
  conv => rhs; rw [← List.map_id l]
  rfl
/-- Join over a row of texts that the call owns. -/
theorem joinRow_any {e : TypeId} {w : World} {base n : Nat} {A : Option Addr} {c m : Nat} {ts : List (List UInt8)} (sep : ByteArray) (h : OwnK 1 e w base (.slice A m c) n ((ts.map bsOf).map Value.string)) (hn : 0 < ts.length) (hs : ts.length ≤ 1048576)
    (hlen : (join ts sep.data.toList).length ≤ 140737488355328) (W : World) (hb : Below w.heap.size w W) :
    Calls Try.prog 69 #[.slice A m c, .string sep] W fun e w' => e = .returned (.string (bsOf (join ts sep.data.toList))) ∧ Below W.heap.size W w' := by
  obtain ⟨g, rfl, hg, rfl, rfl, hc, hcell⟩ := ownK_strs h (by simpa using hn)
  have := Try.join_any g 0 c (ts.map bsOf) sep W (fun j x hx => (hb.cell (p := ⟨g, 0 + j, none⟩) hg).trans (hcell j x hx)) (Nat.lt_of_lt_of_le hg hb.size) (by rw [List.length_map]; omega) hc (by rw [bsOf_data]; exact hlen)
  rw [bsOf_data] at this
  exact this
set_option maxHeartbeats 400000 in
theorem joinNone_any (A : Option Addr) (c : Nat) (sep : ByteArray) (w : World) : Calls Try.prog 69 #[.slice A 0 c, .string sep] w fun e w' => e = .returned (.string ⟨#[]⟩) ∧ w = w' := by
  go_enter Try.func69, Try.ntmps69
  go_wp2
  go_ret
  exact ⟨rfl, rfl⟩

theorem cTxt_le {x : Cq} (h : x.err = 0) (hn : x.ps.length ≤ 20) (hB : ∀ p ∈ x.ps, p.ws.length ≤ 1048576) : (join (x.ps.map Pq.txt) [124]).length ≤ 800000020 ∧ x.txt.length ≤ 800000021 := by
  have h0 : x.ps.length ≠ 0 := fun e => by rw [cErr_none e] at h; cases h
  have hp : ∀ p ∈ x.ps, p.err = 0 := fun p hp => by
    obtain ⟨i, hi, rfl⟩ := List.mem_iff_getElem.1 hp
    unfold Cq.err at h
    rw [if_neg h0] at h
    have := firstE_zero h i hi
    rwa [perrAt_at hi] at this
  have hj : (join (x.ps.map Pq.txt) [124]).length ≤ (x.ps.map Pq.txt).length * (40000000 + 1) := join_le (M := 40000000) (sep := [124]) (fun y hy => by
    obtain ⟨p, hp2, rfl⟩ := List.mem_map.1 hy
    exact Pq.txt_le (hp p hp2) (hB p hp2))
  rw [List.length_map] at hj
  have hj2 : (join (x.ps.map Pq.txt) [124]).length ≤ 800000020 := by
    have : x.ps.length * (40000000 + 1) ≤ 20 * (40000000 + 1) := Nat.mul_le_mul_right _ hn
    omega
  refine ⟨hj2, ?_⟩
  unfold Cq.txt
  rw [List.length_append]
  split <;> simp only [List.length_cons, List.length_nil] <;> omega
theorem cs_few : ∀ {cs : List Cq}, (∀ j, j < cs.length → cerrAt cs j = 0) → cs.length ≤ nParts cs
  | [], _ => Nat.zero_le _
  | x :: cs, h => by
    have ih := cs_few (cs := cs) (fun j hj => by
      have := h (j + 1) (by simpa using hj)
      unfold cerrAt at this ⊢
      simpa using this)
    have h0 := h 0 (by simp)
    have hx : x.ps.length ≠ 0 := fun e => by
      unfold cerrAt at h0
      simp only [List.getElem?_cons_zero] at h0
      rw [cErr_none e] at h0
      cases h0
    have e : nParts (x :: cs) = x.ps.length + nParts cs := by simp [nParts]
    rw [e, List.length_cons]
    omega
theorem qTxt_le {cs : List Cq} (hn : nParts cs ≤ 20) (h : ∀ j, j < cs.length → cerrAt cs j = 0) (hB : ∀ x ∈ cs, ∀ p ∈ x.ps, p.ws.length ≤ 1048576) : (qTxt cs).length ≤ 20000000000 := by
  have hf := cs_few h
  have hj : (join (cs.map Cq.txt) [32]).length ≤ (cs.map Cq.txt).length * (800000021 + 1) := join_le (M := 800000021) (sep := [32]) (fun y hy => by
    obtain ⟨x, hx, rfl⟩ := List.mem_map.1 hy
    obtain ⟨j, hj, rfl⟩ := List.mem_iff_getElem.1 hx
    have h1 := h j hj
    rw [cerrAt_at hj] at h1
    exact (cTxt_le h1 (Nat.le_trans (nParts_at hj) hn) (hB _ hx)).2)
  rw [List.length_map] at hj
  unfold qTxt
  have : cs.length * (800000021 + 1) ≤ 20 * (800000021 + 1) := Nat.mul_le_mul_right _ (by omega)
  omega
/-- What writing a query says. -/
def QOut (cs : List Cq) (w : World) (e : Ending) (w' : World) : Prop := e = .returned (.tuple #[.string (if qErr cs = 0 then bsOf (qTxt cs) else ⟨#[]⟩), .int .i64 (qErr cs)]) ∧ Below w.heap.size w w'
theorem QOut.bad {cs : List Cq} {w w' : World} {E : Int} (h : qErr cs = E) (hne : E ≠ 0) (hb : Below w.heap.size w w') : QOut cs w (.returned (.tuple #[.string ⟨#[]⟩, .int .i64 E])) w' := by
  subst h
  exact ⟨by rw [if_neg hne], hb⟩
theorem QOut.good {cs : List Cq} {w w' : World} (h : qErr cs = 0) (hb : Below w.heap.size w w') : QOut cs w (.returned (.tuple #[.string (bsOf (qTxt cs)), .int .i64 0])) w' := ⟨by rw [h, if_pos rfl], hb⟩
theorem map_snoc {α β : Type} (f : α → β) (l : List α) (x : α) : (l ++ [x]).map f = l.map f ++ [f x] := by simp

set_option maxHeartbeats 12800000 in
set_option maxRecDepth 100000 in
theorem queryText_any (cs : List Cq) (A : Option Addr) (c : Nat) (w : World) (hA : CqsAt w A cs) (hN : nParts cs ≤ 1048576) (hL : cs.length ≤ 1048576) (hB : ∀ x ∈ cs, ∀ p ∈ x.ps, p.ws.length ≤ 1048576 ∧ ∀ y ∈ p.ws, y.size ≤ 1900000) :
    Calls Try.prog 61 #[.agg #[.slice A cs.length c]] w (QOut cs w) := by
  have HP := hide (fun W (hb : Below w.heap.size w W) => parts_any cs A c W (hA.below hb) hN)
  have HBAD := hide (fun E w' (h : qErr cs = E) (hne : E ≠ 0) hb => QOut.bad (w := w) (w' := w') h hne hb)
  have HGOOD := hide (fun w' (h : qErr cs = 0) hb => QOut.good (w := w) (w' := w') h hb)
  generalize QOut cs w = PO at *
  by_cases h20 : 20 < nParts cs
  · have HR := hide (qErr_many h20)
    have i1 : (20 : Int) < (nParts cs : Int) := by omega
    clear hA hB hN
    generalize nParts cs = N at *
    go_enter Try.func61, Try.ntmps61
    go_wp2_with (go_at_call 93; refine (HP.out _ ?hbw).mono ?_; (case hbw => exact (by repeat (first | with_reducible exact Below.refl _ _ | with_reducible refine bl_plus ?_ | with_reducible refine bl_alloc ?_ _ | with_reducible refine bl_drew ?_ | with_reducible refine bl_drewN ?_ _))); rintro e w' ⟨rfl, hbl⟩; obtain ⟨os1, n1, rfl⟩ := below_plus hbl; clear hbl)
    exact HBAD.out 4 _ HR.out (by decide) (by repeat (first | with_reducible exact Below.refl _ _ | with_reducible refine bl_plus ?_ | with_reducible refine bl_alloc ?_ _ | with_reducible refine bl_drew ?_ | with_reducible refine bl_drewN ?_ _))
  have HFI := hide (fun k (hk : k < cs.length) h0 hne => qErr_first h20 hk h0 hne)
  have HLA := hide (fun h0 => qErr_last (cs := cs) h20 h0)
  have HTL := hide (fun h0 => qTxt_le (cs := cs) (by omega) h0 (fun x hx p hp => (hB x hx p hp).1))
  have HA := hide hA
  have HB := hide hB
  have HNP := hide (fun k (hk : k < cs.length) => Nat.le_trans (nParts_at hk) (by omega : nParts cs ≤ 20))
  have i1 : ¬ (20 : Int) < (nParts cs : Int) := by omega
  obtain ⟨iP, hiP, hzP0, hzP1, hzP2⟩ := info_parts info_strQ
  have HIS := hide (And.intro hiP (And.intro hzP0 (And.intro hzP1 hzP2)))
  clear hiP hzP0 hzP1 hzP2 hA hB h20 hN
  generalize nParts cs = N at *
  go_enter Try.func61, Try.ntmps61
  go_wp2_with (go_at_call 93; refine (HP.out _ ?hbw).mono ?_; (case hbw => exact (by repeat (first | with_reducible exact Below.refl _ _ | with_reducible refine bl_plus ?_ | with_reducible refine bl_alloc ?_ _ | with_reducible refine bl_drew ?_ | with_reducible refine bl_drewN ?_ _))); rintro e w' ⟨rfl, hbl⟩; obtain ⟨os1, n1, rfl⟩ := below_plus hbl; clear hbl)
  clear HP i1
  go_loopw [4, 19] (fun v i wr => ∃ (k : Nat) (A' : Option Addr) (c' : Nat) (os : Array Obj) (n : Nat), k ≤ cs.length ∧ v = .slice A' k c' ∧ i = .int .i64 k ∧ Hid (∀ j, j < k → cerrAt cs j = 0) ∧
    Hid (OwnK 1 9 wr (w.heap.size + 1) (.slice A' k c') k ((((cs.take k).map Cq.txt).map bsOf).map Value.string)) ∧ wr = plus (w.alloc (.cells #[.slice A cs.length c] 24)) os n) (fun _ i _ => cs.length - (RowKit.intOf i).toNat)
  case atStart => exact ⟨0, none, 0, _, _, Nat.zero_le _, rfl, rfl, hide (fun j hj => by omega), hide OwnK.empty, rfl⟩
  case round =>
    obtain ⟨k, A', c', os, n, hk, rfl, rfl, HK, HS, rfl⟩ := hrel
    by_cases hlt : k < cs.length
    · clear HLA HTL
      obtain ⟨b, o, rfl, hb, hv⟩ := HA.out.2 (by omega)
      obtain ⟨c0, A2, cap, c1', hP⟩ := hv k hlt
      have HE := hide (HFI.out k hlt HK.out)
      have HX := hide (fun (h : cerrAt cs k = 0) j (hj : j < k + 1) => (by
        rcases Nat.lt_or_ge j k with g | g
        · exact HK.out j g
        · obtain rfl : j = k := by omega
          exact h : cerrAt cs j = 0))
      have hbx := HB.out cs[k] (List.getElem_mem hlt)
      have hnp := HNP.out k hlt
      have htk : ∀ {y : Cq}, cs[k] = y → (((cs.take (k + 1)).map Cq.txt).map bsOf).map Value.string = (((cs.take k).map Cq.txt).map bsOf).map Value.string ++ [.string (bsOf y.txt)] := by
        rintro y rfl
        rw [List.take_succ_eq_append_getElem hlt, map_snoc, map_snoc, map_snoc]
      have hez := cerrAt_at hlt
      rw [hez] at HE HX
      clear hv HFI HK hez HB HA HNP
      generalize cs[k] = x at *
      obtain ⟨neg, ps⟩ := x
      simp only at c0 c1' hP hbx hnp
      by_cases h0 : ps.length = 0
      · have HR := hide ((HE.out (by rw [cErr_none h0]; decide)).trans (cErr_none h0))
        have i0 : ((ps.length : Int) == 0) = true := by rw [beq_iff_eq]; omega
        clear HE HX HS htk hP hbx h0
        go_wp2
        exact HBAD.out 1 _ HR.out (by decide) (by repeat (first | with_reducible exact Below.refl _ _ | with_reducible refine bl_plus ?_ | with_reducible refine bl_alloc ?_ _ | with_reducible refine bl_drew ?_ | with_reducible refine bl_drewN ?_ _))
      · have i0 : ((ps.length : Int) == 0) = false := beq_eq_false_iff_ne.2 (by omega)
        have hp0 : 0 < ps.length := by omega
        obtain ⟨b2, o2, rfl, hb2, hv2⟩ := hP.2 hp0
        have HV2 := hide hv2
        have HCF := hide (fun q (hq : q < ps.length) h0 hne => cErr_first (c := ⟨neg, ps⟩) hq h0 hne)
        have HCO := hide (fun h0 => cErr_ok (c := ⟨neg, ps⟩) (by simp only; omega) h0)
        have HBX := hide hbx
        clear hv2 hP hbx h0
        go_wp2
        clear i0
        go_loopw [7, 30] (fun v i wr => ∃ (q : Nat) (A3 : Option Addr) (c3 : Nat) (os2 : Array Obj) (n2 : Nat), q ≤ ps.length ∧ v = .slice A3 q c3 ∧ i = .int .i64 q ∧ Hid (∀ j, j < q → perrAt ps j = 0) ∧
          Hid (OwnK 1 9 wr (w.heap.size + 1 + os.size + 1) (.slice A3 q c3) q ((((ps.take q).map Pq.txt).map bsOf).map Value.string)) ∧ wr = plus ((plus (w.alloc (.cells #[.slice (some ⟨b, o, none⟩) cs.length c] 24)) os n).alloc (.cells #[.bool neg, .slice (some ⟨b2, o2, none⟩) ps.length cap] 61)) os2 n2) (fun _ i _ => ps.length - (RowKit.intOf i).toNat)
        case atStart => exact ⟨0, none, 0, #[], _, Nat.zero_le _, rfl, rfl, hide (fun j hj => by omega), hide OwnK.empty, plus_nil.symm⟩
        case round =>
          obtain ⟨q, A3, c3, os2, n2, hq, rfl, rfl, HK2, HS2, rfl⟩ := hrel
          by_cases hlt2 : q < ps.length
          · obtain ⟨d0, A4, c4, d1, hwc, hW⟩ := HV2.out q hlt2
            have HBP := HBX.out ps[q] (List.getElem_mem hlt2)
            have HCK := hide (fun W (hb : Below w.heap.size w W) => checkPart_any ps[q] A4 c4 W (hW.below hb) HBP.2)
            have HPT0 := hide (fun (hok : ps[q].err = 0) W (hb : Below w.heap.size w W) => partText_any ps[q] A4 c4 W (hW.below hb) hwc HBP.1 hok)
            have HE2 := hide (HCF.out q hlt2 HK2.out)
            have HXP := hide (fun (h : perrAt ps q = 0) j (hj : j < q + 1) => (by
              rcases Nat.lt_or_ge j q with g | g
              · exact HK2.out j g
              · obtain rfl : j = q := by omega
                exact h : perrAt ps j = 0))
            have htk2 : (((ps.take (q + 1)).map Pq.txt).map bsOf).map Value.string = (((ps.take q).map Pq.txt).map bsOf).map Value.string ++ [.string (bsOf ps[q].txt)] := by
              rw [List.take_succ_eq_append_getElem hlt2, map_snoc, map_snoc, map_snoc]
            have htl := fun (hok : ps[q].err = 0) => Pq.txt_le (p := ps[q]) hok HBP.1
            rw [perrAt_at hlt2] at HE2 HXP
            clear HBP hW hwc HCF HCO HK2 HV2
            have HTK2 := hide htk2
            clear htk2
            generalize ps[q] = p at *
            generalize p.txt = T at *
            generalize p.err = E at *
            by_cases hE : E = 0
            · subst hE
              have HX3 := hide (HXP.out rfl)
              have HPT := hide (HPT0.out rfl)
              have hT : (bsOf T).size ≤ 40000000 := htl rfl
              change Hid (∀ W, Below w.heap.size w W → Calls _ _ _ W fun e w' => e = .returned (.string (bsOf T)) ∧ _) at HPT
              clear HE2 HXP HPT0 htl
              generalize bsOf T = S at *
              have HBIG := hide (show (q + 1) * iP.bytes ≤ 140737488355328 ∧ q + 1 ≤ 140737488355328 by rw [HIS.out.2.2.2]; omega)
              obtain ⟨pk, pw⟩ := p
              simp only at d0 d1 HCK HPT
              go_wp2_with (first
                | (go_at_call 94; refine (HCK.out _ ?hbw).mono ?_; (case hbw => exact (by repeat (first | with_reducible exact Below.refl _ _ | with_reducible refine bl_plus ?_ | with_reducible refine bl_alloc ?_ _ | with_reducible refine bl_drew ?_ | with_reducible refine bl_drewN ?_ _))); rintro e w' ⟨rfl, hbl⟩; obtain ⟨os3, n3, rfl⟩ := below_plus hbl; clear hbl)
                | (go_at_call 95; refine (HPT.out _ ?hbw).mono ?_; (case hbw => exact (by repeat (first | with_reducible exact Below.refl _ _ | with_reducible refine bl_plus ?_ | with_reducible refine bl_alloc ?_ _ | with_reducible refine bl_drew ?_ | with_reducible refine bl_drewN ?_ _))); rintro e w' ⟨rfl, hbl⟩; obtain ⟨os4, n4, rfl⟩ := below_plus hbl; clear hbl)
                | (at_builtin; refine wpList_append_b rfl (.tmp 39) (.tmp 42) rfl rfl Try.underlying37 HIS.out.1 HIS.out.2.1 HIS.out.2.2.1 (by decide) rfl (by have := HIS.out.2.2.2; omega) (w.heap.size + 1 + os.size + 1) q (.slice A3 q c3) ((((ps.take q).map Pq.txt).map bsOf).map Value.string) [.string S] _ rfl (by repeat (first | with_reducible exact HS2.out | with_reducible refine ownK_alloc ?_ _ | with_reducible refine ownK_plus ?_ _ _ | with_reducible refine ownK_drew ?_ | with_reducible refine ownK_drewN ?_ _)) rfl (by intro u hu; simp only [List.mem_cons, List.not_mem_nil, or_false] at hu; subst hu; rfl) rfl (newN_cells (cs := [.string S]) (by simp only [World.size_alloc, plus_size, World.drew])) HBIG.out (by simp only [World.size_alloc, plus_size, World.drew]; omega) ?_; intro v' w1 hown1 hgr1 hfr1; have HGR := hide hgr1; obtain ⟨A1, c1, rfl, _⟩ := ownK_form hown1; have HN := hide hown1; clear hown1 hgr1 hfr1))
              obtain ⟨os9, n9, hw1⟩ := grown_plus (L := ((plus (w.alloc (.cells #[.slice (some ⟨b, o, none⟩) cs.length c] 24)) os n).alloc (.cells #[.bool neg, .slice (some ⟨b2, o2, none⟩) ps.length cap] 61))) (by repeat (first | with_reducible exact Below.refl _ _ | with_reducible refine bl_plus ?_ | with_reducible refine bl_alloc ?_ _ | with_reducible refine bl_drew ?_ | with_reducible refine bl_drewN ?_ _)) HGR.out (fun g hg => by
                have := (HS2.out.lt g hg).1
                simp only [World.size_alloc, plus_size]
                exact this)
              go_roundw
              case rel => exact ⟨q + 1, A1, c1, os9, n9, hlt2, rfl, by go_num, HX3, hide (by rw [HTK2.out]; exact HN.out), hw1⟩
              case measure => simp [RowKit.intOf]; omega
            · have HR := hide ((HE.out (by rw [HE2.out hE]; exact hE)).trans (HE2.out hE))
              have j0 : (E != 0) = true := by simpa using hE
              clear HE HX HE2 HXP HPT0 htl HS HS2 htk HTK2
              obtain ⟨pk, pw⟩ := p
              simp only at d0 d1 HCK
              go_wp2_with (go_at_call 94; refine (HCK.out _ ?hbw).mono ?_; (case hbw => exact (by repeat (first | with_reducible exact Below.refl _ _ | with_reducible refine bl_plus ?_ | with_reducible refine bl_alloc ?_ _ | with_reducible refine bl_drew ?_ | with_reducible refine bl_drewN ?_ _))); rintro e w' ⟨rfl, hbl⟩; obtain ⟨os3, n3, rfl⟩ := below_plus hbl; clear hbl)
              exact HBAD.out E _ HR.out hE (by repeat (first | with_reducible exact Below.refl _ _ | with_reducible refine bl_plus ?_ | with_reducible refine bl_alloc ?_ _ | with_reducible refine bl_drew ?_ | with_reducible refine bl_drewN ?_ _))
          · obtain rfl : q = ps.length := by omega
            rw [List.take_length] at HS2
            have hok := HCO.out HK2.out
            have HX2 := hide (HX.out hok)
            have hlj : (join (ps.map Pq.txt) [124]).length ≤ 800000020 := (cTxt_le hok hnp (fun p hp => (HBX.out p hp).1)).1
            have HJ := hide (fun W hb => joinRow_any ⟨#[124]⟩ HS2.out (by rw [List.length_map]; exact hp0) (by rw [List.length_map]; omega) (by
              show (join (ps.map Pq.txt) [124]).length ≤ _
              omega) W hb)
            have hjd : (⟨#[124]⟩ : ByteArray).data.toList = [124] := rfl
            rw [hjd] at HJ
            have hsz : (bsOf (join (ps.map Pq.txt) [124])).size ≤ 900000000 := by
              show (List.toArray _).size ≤ _
              rw [List.size_toArray]
              omega
            have HBIG2 := hide (show (k + 1) * iP.bytes ≤ 140737488355328 ∧ k + 1 ≤ 140737488355328 by rw [HIS.out.2.2.2]; omega)
            clear HE HX HCF HCO HK2 HV2 hjd hok hlj HBX hlt2 hq
            cases neg with
            | true =>
              have hres : (⟨#[45]⟩ : ByteArray) ++ bsOf (join (ps.map Pq.txt) [124]) = bsOf (Cq.txt ⟨true, ps⟩) := by
                unfold bsOf
                rw [show (⟨#[45]⟩ : ByteArray) = ⟨[45].toArray⟩ from rfl, bb_app]
                rfl
              have HRES := hide hres
              have HTK := hide (htk (y := ⟨true, ps⟩) rfl)
              clear hres htk
              generalize bsOf (join (ps.map Pq.txt) [124]) = S at *
              have i1 : (S.size : Int) ≤ 900000000 := by omega
              go_wp2_with (first
                | (go_at_call 69; refine (HJ.out _ ?hbw).mono ?_; (case hbw => exact (by repeat (first | with_reducible exact Below.refl _ _ | with_reducible refine bl_plus ?_ | with_reducible refine bl_alloc ?_ _ | with_reducible refine bl_drew ?_ | with_reducible refine bl_drewN ?_ _))); rintro e w' ⟨rfl, hbl⟩; obtain ⟨os5, n5, rfl⟩ := below_plus hbl; clear hbl)
                | (at_builtin; refine wpList_append_b rfl (.tmp 47) (.tmp 52) rfl rfl Try.underlying37 HIS.out.1 HIS.out.2.1 HIS.out.2.2.1 (by decide) rfl (by have := HIS.out.2.2.2; omega) (w.heap.size + 1) k (.slice A' k c') ((((cs.take k).map Cq.txt).map bsOf).map Value.string) [.string ((⟨#[45]⟩ : ByteArray) ++ S)] _ rfl (by repeat (first | with_reducible exact HS.out | with_reducible refine ownK_alloc ?_ _ | with_reducible refine ownK_plus ?_ _ _ | with_reducible refine ownK_drew ?_ | with_reducible refine ownK_drewN ?_ _)) rfl (by intro u hu; simp only [List.mem_cons, List.not_mem_nil, or_false] at hu; subst hu; rfl) rfl (newN_cells (cs := [.string ((⟨#[45]⟩ : ByteArray) ++ S)]) (by simp only [World.size_alloc, plus_size, World.drew])) HBIG2.out (by simp only [World.size_alloc, plus_size, World.drew]; omega) ?_; intro v' w1 hown1 hgr1 hfr1; have HGR := hide hgr1; obtain ⟨A1, c1, rfl, _⟩ := ownK_form hown1; have HN := hide hown1; clear hown1 hgr1 hfr1))
              obtain ⟨os9, n9, hw1⟩ := grown_plus (L := (w.alloc (.cells #[.slice (some ⟨b, o, none⟩) cs.length c] 24))) (by repeat (first | with_reducible exact Below.refl _ _ | with_reducible refine bl_plus ?_ | with_reducible refine bl_alloc ?_ _ | with_reducible refine bl_drew ?_ | with_reducible refine bl_drewN ?_ _)) HGR.out (fun g hg => by
                have := (HS.out.lt g hg).1
                simp only [World.size_alloc]
                exact this)
              go_roundw
              case rel => exact ⟨k + 1, A1, c1, os9, n9, hlt, rfl, by go_num, HX2, hide (by rw [HTK.out, ← HRES.out]; exact HN.out), hw1⟩
              case measure => simp [RowKit.intOf]; omega
            | false =>
              have hres : (⟨#[]⟩ : ByteArray) ++ bsOf (join (ps.map Pq.txt) [124]) = bsOf (Cq.txt ⟨false, ps⟩) := by
                unfold bsOf
                rw [show (⟨#[]⟩ : ByteArray) = ⟨[].toArray⟩ from rfl, bb_app]
                rfl
              have HRES := hide hres
              have HTK := hide (htk (y := ⟨false, ps⟩) rfl)
              clear hres htk
              generalize bsOf (join (ps.map Pq.txt) [124]) = S at *
              have i1 : (S.size : Int) ≤ 900000000 := by omega
              go_wp2_with (first
                | (go_at_call 69; refine (HJ.out _ ?hbw).mono ?_; (case hbw => exact (by repeat (first | with_reducible exact Below.refl _ _ | with_reducible refine bl_plus ?_ | with_reducible refine bl_alloc ?_ _ | with_reducible refine bl_drew ?_ | with_reducible refine bl_drewN ?_ _))); rintro e w' ⟨rfl, hbl⟩; obtain ⟨os5, n5, rfl⟩ := below_plus hbl; clear hbl)
                | (at_builtin; refine wpList_append_b rfl (.tmp 47) (.tmp 52) rfl rfl Try.underlying37 HIS.out.1 HIS.out.2.1 HIS.out.2.2.1 (by decide) rfl (by have := HIS.out.2.2.2; omega) (w.heap.size + 1) k (.slice A' k c') ((((cs.take k).map Cq.txt).map bsOf).map Value.string) [.string ((⟨#[]⟩ : ByteArray) ++ S)] _ rfl (by repeat (first | with_reducible exact HS.out | with_reducible refine ownK_alloc ?_ _ | with_reducible refine ownK_plus ?_ _ _ | with_reducible refine ownK_drew ?_ | with_reducible refine ownK_drewN ?_ _)) rfl (by intro u hu; simp only [List.mem_cons, List.not_mem_nil, or_false] at hu; subst hu; rfl) rfl (newN_cells (cs := [.string ((⟨#[]⟩ : ByteArray) ++ S)]) (by simp only [World.size_alloc, plus_size, World.drew])) HBIG2.out (by simp only [World.size_alloc, plus_size, World.drew]; omega) ?_; intro v' w1 hown1 hgr1 hfr1; have HGR := hide hgr1; obtain ⟨A1, c1, rfl, _⟩ := ownK_form hown1; have HN := hide hown1; clear hown1 hgr1 hfr1))
              obtain ⟨os9, n9, hw1⟩ := grown_plus (L := (w.alloc (.cells #[.slice (some ⟨b, o, none⟩) cs.length c] 24))) (by repeat (first | with_reducible exact Below.refl _ _ | with_reducible refine bl_plus ?_ | with_reducible refine bl_alloc ?_ _ | with_reducible refine bl_drew ?_ | with_reducible refine bl_drewN ?_ _)) HGR.out (fun g hg => by
                have := (HS.out.lt g hg).1
                simp only [World.size_alloc]
                exact this)
              go_roundw
              case rel => exact ⟨k + 1, A1, c1, os9, n9, hlt, rfl, by go_num, HX2, hide (by rw [HTK.out, ← HRES.out]; exact HN.out), hw1⟩
              case measure => simp [RowKit.intOf]; omega
    · obtain rfl : k = cs.length := by omega
      rw [List.take_length] at HS
      have HJ := hide (fun W (hb : Below (plus (w.alloc (.cells #[.slice A cs.length c] 24)) os n).heap.size (plus (w.alloc (.cells #[.slice A cs.length c] 24)) os n) W) => (by
        by_cases hz : cs.length = 0
        · have hcs : cs = [] := List.length_eq_zero_iff.1 hz
          rw [hz]
          refine (joinNone_any A' c' ⟨#[32]⟩ W).mono ?_
          rintro e w' ⟨rfl, rfl⟩
          rw [hcs]
          exact ⟨rfl, Below.refl _ _⟩
        · exact joinRow_any (ts := cs.map Cq.txt) ⟨#[32]⟩ HS.out (by rw [List.length_map]; omega) (by rw [List.length_map]; exact hL) (Nat.le_trans (HTL.out HK.out) (by decide)) W hb :
          Calls Try.prog 69 #[.slice A' cs.length c', .string ⟨#[32]⟩] W fun e w' => e = .returned (.string (bsOf (qTxt cs))) ∧ Below W.heap.size W w'))
      have hlast := HLA.out HK.out
      have hsz : (bsOf (qTxt cs)).size = (qTxt cs).length := by
        show (List.toArray _).size = _
        rw [List.size_toArray]
      have htl := HTL.out HK.out
      clear HLA HTL HFI HA HB HNP HK HS HIS hlt
      generalize bsOf (qTxt cs) = S at *
      generalize (qTxt cs).length = q at *
      by_cases h4 : 400 < q
      · have HR := hide (hlast.trans (if_pos h4))
        have i1 : (400 : Int) < (S.size : Int) := by omega
        have i2 : (S.size : Int) ≤ 20000000000 := by omega
        clear hlast hsz htl h4
        go_wp2_with (go_at_call 69; refine (HJ.out _ ?hbw).mono ?_; (case hbw => exact (by repeat (first | with_reducible exact Below.refl _ _ | with_reducible refine bl_plus ?_ | with_reducible refine bl_alloc ?_ _ | with_reducible refine bl_drew ?_ | with_reducible refine bl_drewN ?_ _))); rintro e w' ⟨rfl, hbl⟩; obtain ⟨os5, n5, rfl⟩ := below_plus hbl; clear hbl)
        exact HBAD.out 4 _ HR.out (by decide) (by repeat (first | with_reducible exact Below.refl _ _ | with_reducible refine bl_plus ?_ | with_reducible refine bl_alloc ?_ _ | with_reducible refine bl_drew ?_ | with_reducible refine bl_drewN ?_ _))
      · have HR := hide (hlast.trans (if_neg h4))
        have i1 : ¬ (400 : Int) < (S.size : Int) := by omega
        clear hlast hsz htl h4
        go_wp2_with (go_at_call 69; refine (HJ.out _ ?hbw).mono ?_; (case hbw => exact (by repeat (first | with_reducible exact Below.refl _ _ | with_reducible refine bl_plus ?_ | with_reducible refine bl_alloc ?_ _ | with_reducible refine bl_drew ?_ | with_reducible refine bl_drewN ?_ _))); rintro e w' ⟨rfl, hbl⟩; obtain ⟨os5, n5, rfl⟩ := below_plus hbl; clear hbl)
        exact HGOOD.out _ HR.out (by repeat (first | with_reducible exact Below.refl _ _ | with_reducible refine bl_plus ?_ | with_reducible refine bl_alloc ?_ _ | with_reducible refine bl_drew ?_ | with_reducible refine bl_drewN ?_ _))

set_option maxHeartbeats 800000 in
theorem checkQuery_any (cs : List Cq) (A : Option Addr) (c : Nat) (w : World) (hA : CqsAt w A cs) (hN : nParts cs ≤ 1048576) (hL : cs.length ≤ 1048576) (hB : ∀ x ∈ cs, ∀ p ∈ x.ps, p.ws.length ≤ 1048576 ∧ ∀ y ∈ p.ws, y.size ≤ 1900000) :
    Calls Try.prog 11 #[.agg #[.slice A cs.length c]] w fun e w' => e = .returned (.int .i64 (qErr cs)) ∧ Below w.heap.size w w' := by
  have HQ := hide (fun W (hb : Below w.heap.size w W) => queryText_any cs A c W (hA.below hb) hN hL hB)
  unfold QOut at HQ
  clear hA hN hL hB
  generalize (if qErr cs = 0 then bsOf (qTxt cs) else (⟨#[]⟩ : ByteArray)) = S at *
  generalize qErr cs = E at *
  go_enter Try.func11, Try.ntmps11
  go_wp2_with (go_at_call 61; refine (HQ.out _ ?hbw).mono ?_; (case hbw => exact (by repeat (first | with_reducible exact Below.refl _ _ | with_reducible refine bl_plus ?_ | with_reducible refine bl_alloc ?_ _ | with_reducible refine bl_drew ?_ | with_reducible refine bl_drewN ?_ _))); rintro e w' ⟨rfl, hbl⟩; obtain ⟨os1, n1, rfl⟩ := below_plus hbl; clear hbl)
  go_ret
  exact ⟨rfl, (by repeat (first | with_reducible exact Below.refl _ _ | with_reducible refine bl_plus ?_ | with_reducible refine bl_alloc ?_ _ | with_reducible refine bl_drew ?_ | with_reducible refine bl_drewN ?_ _))⟩

end Go.Proofs.Ytfnooipkghfmoaa
