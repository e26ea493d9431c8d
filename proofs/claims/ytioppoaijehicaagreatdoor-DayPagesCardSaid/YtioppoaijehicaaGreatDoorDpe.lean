/-
  WALKS: all days that have a page, the reference's way.
-/
import Derived.Test.YtioppoaijehicaaGreatDoorDpd
set_option linter.all false
namespace Go.Proofs.YtioppoaijehicaaGreatDoor
open Go.RowKit Go.Lib Go.Maps Go.WideElems Go.WideMaps Go.Shelf Cal

theorem dsL_step {l : List BK} {j : Nat} (hj : j < (l.drop 1).length) : dsL l (j + 1) = dsL l j ++ if (l.drop 1)[j].par = 0 ∧ (dyR (l.drop 1)[j]).2 = 0 then [(dyR (l.drop 1)[j]).1] else [] := by
  rw [List.getElem_drop]
  exact dsL_succ l (by rw [List.length_drop] at hj; omega)

/-- A row of ints that the call owns. -/
def DsOut (zs : List Int) (w : World) (e : Ending) (w' : World) : Prop := ∃ A c, e = .returned (.slice A zs.length c) ∧ w'.ownsRow w.heap.size 3 1 (.slice A zs.length c) zs.length (zs.map (Value.int .i64)) ∧ Below w.heap.size w w'

theorem ownI_form {w : World} {base : Nat} {v : Value} {n : Nat} {xs : List Value} {t : TypeId} (h : w.ownsRow base t 1 v n xs) : ∃ A c, v = .slice A n c := by
  rcases h.2 with ⟨hv, h0⟩ | ⟨g, cap, cur, hv, hg, hb, h1, h2, h3, h4⟩
  · exact ⟨none, 0, by rw [hv, h0]⟩
  · exact ⟨_, _, hv⟩

theorem ownI_below {w w' : World} {base : Nat} {v : Value} {n : Nat} {xs : List Value} {t : TypeId} (h : w.ownsRow base t 1 v n xs) (hb : Below w.heap.size w w') : w'.ownsRow base t 1 v n xs := by
  obtain ⟨os, k, rfl⟩ := below_plus hb
  exact own_plus h

theorem ownI_low {w : World} {base : Nat} {v : Value} {n : Nat} {xs : List Value} {t : TypeId} (h : w.ownsRow base t 1 v n xs) : ∀ k, v.ownBlock = some k → base ≤ k := own_block h

set_option maxHeartbeats 3200000 in
set_option maxRecDepth 100000 in
theorem dailiesOf_any (l : List BK) (A : Option Addr) (c : Nat) (w : World) (R : Right l) (hA : BsAt w A l) (hc : l.length ≤ c) (hmt : MaxTold w) :
    Calls Tryz.prog 31 #[.slice A l.length c] w (DsOut (tidy (dsL l (l.drop 1).length)) w) := by
  have HPO : Hid (∀ A c n w', n = (tidy (dsL l (l.drop 1).length)).length → w'.ownsRow w.heap.size 3 1 (.slice A n c) n ((tidy (dsL l (l.drop 1).length)).map (Value.int .i64)) → Below w.heap.size w w' → DsOut (tidy (dsL l (l.drop 1).length)) w (.returned (.slice A n c)) w') := hide fun A c n w' h0 h1 h2 => by subst h0; exact ⟨A, c, rfl, h1, h2⟩
  generalize DsOut (tidy (dsL l (l.drop 1).length)) w = PO at *
  have HMT := hide (fun W (hb : Below w.heap.size w W) => maxTold_below hmt hb)
  have hln := R.len
  have hpos := R.pos
  have HR := hide R
  have hlen : (l.drop 1).length = l.length - 1 := List.length_drop
  obtain ⟨b, o, rfl, hb, -⟩ := hA.2 hpos
  have HT := hide (show ∀ A', (1 < l.length → A' = some ⟨b, o + 5, none⟩) → BsAt w A' (l.drop 1) from fun A' h => by
    by_cases h1 : 1 < l.length
    · rw [h h1]; exact hA.tail
    · exact bsAt_nil w A' (by omega))

  have HST := hide (fun j (hj : j < (l.drop 1).length) => dsL_step hj)
  have HLN := hide (fun j => dsL_len l j)
  have HTX := hide (fun j (hj : j < (l.drop 1).length) => R.txt _ (List.mem_of_mem_drop (List.getElem_mem hj)))
  clear hA hb R hmt
  go_enter Tryz.func31, Tryz.ntmps31
  go_upto_region 2 with (fail)
  go_cut [9, 10, 11] from 8 to 11 (fun s9 s10 s11 wx => ∃ (A9 : Option Addr) (c9 : Nat), s9 = .slice A9 (l.length - 1) c9 ∧ s10 = .int .i64 ((l.length - 1 : Nat) : Int) ∧ s11 = .int .i64 0 ∧ Hid (BsAt w A9 (l.drop 1)) ∧ w = wx)
  case first =>
    by_cases hc1 : c = 1
    · have HZ9 := hide (HT.out (some ⟨b, o, none⟩) (fun h => by omega))
      go_wp2
      go_meet
      exact ⟨_, _, rfl, rfl, rfl, HZ9, rfl⟩
    · have HZ9 := hide (HT.out (some ⟨b, o + 5, none⟩) (fun _ => rfl))
      go_wp2
      go_meet
      exact ⟨_, _, rfl, rfl, rfl, HZ9, rfl⟩
  case rest =>
  obtain ⟨A9, c9, rfl, rfl, rfl, HT9, rfl⟩ := hcut
  have hL2 : (l.drop 1).length ≤ 2000 := by omega
  rw [← hlen]
  clear HT hlen
  generalize l.drop 1 = L at *

  have HDF := hide (show ∀ x : List Int, Lib.compact (x.mergeSort fun a b => decide (a ≤ b)) = tidy x from fun _ => rfl)
  have HDZ := hide (show dsL l 0 = [] from rfl)
  go_wp2
  go_loopw [3, 11] (fun s3 i9 wr => ∃ (j : Nat) (A3 : Option Addr) (c3 : Nat), j ≤ L.length ∧ s3 = .slice A3 (dsL l j).length c3 ∧ i9 = .int .i64 j ∧ Hid (wr.ownsRow w.heap.size 3 1 (.slice A3 (dsL l j).length c3) (dsL l j).length ((dsL l j).map (Value.int .i64))) ∧ Hid (Below w.heap.size w wr)) (fun _ i9 _ => L.length - (intOf i9).toNat)
  case atStart => exact ⟨0, none, 0, Nat.zero_le _, by rw [HDZ.out]; rfl, rfl, hide (by rw [HDZ.out]; exact World.ownsRow_nil _ _ _ _), hide (Below.refl _ _)⟩
  case round =>
    obtain ⟨j, A3, c3, hj, rfl, rfl, HOW, HB⟩ := hrel
    by_cases hlt : j < L.length
    · obtain ⟨b', o', A1, c1, A2, c2, rfl, hlb, q0, q1, q2, q3, q4, -, -⟩ := HT9.out.getB HB.out hlt
      have i1 : (j : Int) < (L.length : Int) := by omega
      have hst := HST.out j hlt
      have hlj := HLN.out j
      go_upto_region 5 with (fail)
      have HX := hide (Blk.new wr 82 #[.int .i64 L[j].id, .int .i64 L[j].par, .slice A1 L[j].kids.length c1, .string L[j].txt, .slice A2 L[j].ps.length c2])
      have HBX := hide (bl_alloc HB.out (.cells #[.int .i64 L[j].id, .int .i64 L[j].par, .slice A1 L[j].kids.length c1, .string L[j].txt, .slice A2 L[j].ps.length c2] 82))
      have HOX := hide (HOW.out.alloc (.cells #[.int .i64 L[j].id, .int .i64 L[j].par, .slice A1 L[j].kids.length c1, .string L[j].txt, .slice A2 L[j].ps.length c2] 82))
      have HRD := hide (fun W hm => dateRead_any L[j].txt W (by have := HTX.out j hlt; omega) hm)
      generalize wr.alloc (.cells #[.int .i64 L[j].id, .int .i64 L[j].par, .slice A1 L[j].kids.length c1, .string L[j].txt, .slice A2 L[j].ps.length c2] 82) = W2 at *
      have z1 := HX.out.cell 1
      have z3 := HX.out.cell 3
      have zl := HX.out.lt
      simp only [List.getElem?_toArray, List.getElem?_cons_zero, List.getElem?_cons_succ] at z1 z3
      have HXB := hide (fun W (hb : Below W2.heap.size W2 W) => (⟨(HX.out.below hb zl).cell 1, Nat.lt_of_lt_of_le zl hb.size⟩ : W.cell? ⟨wr.heap.size, 1, none⟩ = some (.int .i64 L[j].par) ∧ wr.heap.size < W.heap.size))
      clear q0 q1 q2 q3 q4 HX HOW HB
      have HRD := hide (show ∀ W, MaxTold W → Calls Tryz.prog 69 #[.string L[j].txt] W fun e w' => e = .returned (.tuple #[.int .i64 (dyR L[j]).1, .int .i64 (dyR L[j]).2]) ∧ Below W.heap.size W w' from HRD.out)
      generalize hdl : dsL l (j + 1) = nx at *
      generalize dsL l j = cu at *
      generalize hdy : dyR L[j] = dy at *
      generalize L[j] = x at *
      obtain ⟨xi, xp, xk, xt, xs⟩ := x
      obtain ⟨dd, er⟩ := dy
      (try simp only at *)
      obtain ⟨b1, e1⟩ : ∃ b1, (xp == 0) = b1 := ⟨_, rfl⟩
      obtain ⟨b2, e2⟩ : ∃ b2, (er == 0) = b2 := ⟨_, rfl⟩
      have hnx : nx = cu ++ if (b1 && b2) = true then [dd] else [] := by
        have e1' : b1 = true ↔ xp = 0 := by rw [← e1, beq_iff_eq]
        have e2' : b2 = true ↔ er = 0 := by rw [← e2, beq_iff_eq]
        rw [hst]
        simp only [Bool.and_eq_true, e1', e2']
      have HNX := hide hnx
      clear hst hnx
      go_upto_region 6 with (go_at_call 69; refine (HRD.out _ (HMT.out _ HBX.out)).mono ?_; rintro e w3 ⟨rfl, hb3⟩; obtain ⟨y1, yl⟩ := HXB.out w3 hb3; have HB3 := hide (below_chainT HBX.out hb3); have HO3 := hide (ownI_below HOX.out hb3); clear hb3)
      clear HXB HBX HRD z1 z3 HOX
      cases hbb : (b1 && b2) with
      | true =>
        simp only [Bool.and_eq_true] at hbb
        obtain ⟨rfl, rfl⟩ := hbb
        have hn2 := HNX.out
        simp only [Bool.and_true, if_true] at hn2
        have HSZ := hide HB3.out.size
        go_wp2_with (at_builtin; refine wpList_append_int rfl (.tmp 28) (.tmp 30) rfl w.heap.size cu.length _ cu dd _ rfl HO3.out rfl rfl (by omega) HSZ.out ?_; intro v' w5 hown5 hb5; have HO5 := hide hown5; have HB5 := hide hb5; clear hown5 hb5)
        obtain ⟨A7, c7, rfl⟩ := ownI_form HO5.out
        have hl1 : cu.length + 1 = (cu ++ [dd]).length := by simp
        rw [hl1] at HO5
        rw [hl1]
        go_wp2
        go_roundw
        case rel => exact ⟨j + 1, A7, c7, by omega, by rw [hdl, hn2], by go_num, hide (by rw [hdl, hn2]; exact HO5.out), hide (HB3.out.trans HB5.out)⟩
        case measure => simp [intOf]; omega
      | false =>
        have hn2 := HNX.out
        rw [hbb, if_neg (by decide), List.append_nil] at hn2
        cases b1 with
        | false =>
          go_wp2
          go_roundw
          case rel => exact ⟨j + 1, A3, c3, by omega, by rw [hdl, hn2], by go_num, hide (by rw [hdl, hn2]; exact HO3.out), HB3⟩
          case measure => simp [intOf]; omega
        | true =>
          cases b2 with
          | true => exact absurd hbb (by decide)
          | false =>
            go_wp2
            go_roundw
            case rel => exact ⟨j + 1, A3, c3, by omega, by rw [hdl, hn2], by go_num, hide (by rw [hdl, hn2]; exact HO3.out), HB3⟩
            case measure => simp [intOf]; omega
    · obtain rfl : j = L.length := by omega
      have hl9 := HLN.out L.length
      have HSO := hide (sortI_any wr w.heap.size c3 A3 (dsL l L.length) HOW.out (by omega))
      have HSB := hide (fun w2 (hg : wr.grownBy w2 (Value.slice A3 (dsL l L.length).length c3).ownBlock) => (HB.out.grown hg HB.out.size (ownI_low HOW.out) : Below w.heap.size w w2))
      have HSL := hide (show ((dsL l L.length).mergeSort fun a b => decide (a ≤ b)).length = (dsL l L.length).length from List.length_mergeSort _)
      have HCO := hide (fun w2 (h : w2.ownsRow w.heap.size 3 1 (.slice A3 (dsL l L.length).length c3) (dsL l L.length).length (((dsL l L.length).mergeSort fun a b => decide (a ≤ b)).map (Value.int .i64))) => compactI_n w2 w.heap.size c3 (dsL l L.length).length A3 ((dsL l L.length).mergeSort fun a b => decide (a ≤ b)) HSL.out h (by rw [HSL.out]; omega))
      rw [HDF.out] at HCO
      have HCB := hide (fun w2 w3 (hb : Below w.heap.size w w2) (ho : w2.ownsRow w.heap.size 3 1 (.slice A3 (dsL l L.length).length c3) (dsL l L.length).length (((dsL l L.length).mergeSort fun a b => decide (a ≤ b)).map (Value.int .i64))) (hg : w2.grownBy w3 (Value.slice A3 (dsL l L.length).length c3).ownBlock) => (hb.grown hg hb.size (ownI_low ho) : Below w.heap.size w w3))
      clear HSL HOW HLN HST HDF HDZ
      go_wp2_with (first
        | (go_at_call 53; refine HSO.out.mono ?_; rintro e w2 ⟨rfl, ho2, hg2⟩; have HO2 := hide ho2; have HB2 := hide (HSB.out w2 hg2); clear ho2 hg2)
        | (go_at_call 54; refine (HCO.out _ HO2.out).mono ?_; rintro e w3 ⟨rfl, ho3, hg3⟩; have HO3 := hide ho3; have HB3 := hide (HCB.out w2 w3 HB2.out HO2.out hg3); clear ho3 hg3))
      exact HPO.out _ _ _ _ rfl HO3.out HB3.out

end Go.Proofs.YtioppoaijehicaaGreatDoor
