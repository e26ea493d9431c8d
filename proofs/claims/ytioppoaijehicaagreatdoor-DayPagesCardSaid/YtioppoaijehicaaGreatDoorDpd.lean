/-
  WALKS: the pages of days, the reference's way.
-/
import Derived.Test.YtioppoaijehicaaGreatDoorDpc
import Derived.Test.YtioppoaijehicaaGreatDoorDayT
import Derived.Test.YtioppoaijehicaaGreatDoorTdy
set_option linter.all false
namespace Go.Proofs.YtioppoaijehicaaGreatDoor
open Go.RowKit Go.Lib Go.Maps Go.WideElems Go.WideMaps Go.Shelf Cal

/-- The tail of a base. -/
theorem BsAt.tail {w : World} {b o : Nat} {l : List BK} (h : BsAt w (some ⟨b, o, none⟩) l) : BsAt w (some ⟨b, o + 5, none⟩) (l.drop 1) := by
  refine ⟨by rw [List.length_drop]; have := h.1; omega, fun h0 => ?_⟩
  rw [List.length_drop] at h0
  obtain ⟨b', o', e, hb, hj⟩ := h.2 (by omega)
  injection e with e
  injection e with e1 e2
  subst e1 e2
  refine ⟨b, o + 5, rfl, hb, fun j hj' => ?_⟩
  rw [List.length_drop] at hj'
  rw [List.getElem_drop]
  have := hj (1 + j) (by omega)
  rwa [show o + (1 + j) * 5 = o + 5 + j * 5 by omega] at this

theorem bsAt_nil (w : World) (A : Option Addr) {l : List BK} (h : l.length = 0) : BsAt w A l := ⟨by unfold maxLen; omega, fun h0 => absurd h0 (by omega)⟩

/-- The page of a day so far. -/
theorem dlF_zero (l : List BK) (d : Int) : dlF l d 0 = 0 := rfl

theorem dlF_step {l : List BK} (R : Right l) (d : Int) {j : Nat} (hj : j < (l.drop 1).length) : dlF l d (j + 1) = if (l.drop 1)[j].par = 0 ∧ (l.drop 1)[j].txt = dateS (parts d) ∧ dlF l d j = 0 then (l.drop 1)[j].id else dlF l d j := by
  have hj' : 1 + j < l.length := by rw [List.length_drop] at hj; omega
  have hpos : ∀ {p : Int}, (((l.drop 1).take j).find? (isDl d)).map (·.id) = some p → p ≠ 0 := fun {p} h => by
    obtain ⟨b, hb, rfl⟩ := Option.map_eq_some_iff.1 h
    obtain ⟨n, hn, rfl⟩ := List.getElem_of_mem (List.mem_of_mem_take (List.mem_of_find?_eq_some hb))
    rw [List.getElem_drop]
    have := (R.good.ids.pos (1 + n) (by omega) (by rw [List.length_drop] at hn; omega)).1
    omega
  rw [List.getElem_drop]
  unfold dlF at hpos ⊢
  rw [dlF_succ l d hj']
  cases h : (((l.drop 1).take j).find? (isDl d)).map (·.id) with
  | some p =>
    have := hpos h
    simp only [Option.getD_some]
    rw [if_neg (fun h9 => this h9.2.2)]
  | none =>
    simp only [Option.getD_none]
    unfold isDl
    by_cases h1 : l[1 + j].par = 0 <;> by_cases h2 : l[1 + j].txt = dateS (parts d) <;> simp [h1, h2]

theorem dlF_in {l : List BK} (R : Right l) (d : Int) (j : Nat) : 0 ≤ dlF l d j ∧ dlF l d j ≤ 9223372036854775807 := by
  unfold dlF
  cases h : ((l.drop 1).take j).find? (isDl d) with
  | none => exact ⟨by simp, by simp⟩
  | some b =>
    obtain ⟨n, hn, rfl⟩ := List.getElem_of_mem (List.mem_of_mem_drop (List.mem_of_mem_take (List.mem_of_find?_eq_some h)))
    have := R.good.ids.bound hn
    simp only [Option.map_some, Option.getD_some]
    omega

set_option maxHeartbeats 3200000 in
set_option maxRecDepth 100000 in
theorem dailyOf_any (l : List BK) (A : Option Addr) (c : Nat) (w : World) (R : Right l) (hA : BsAt w A l) (hc : l.length ≤ c) (d : Int) (h0 : 0 ≤ d) (h1 : d ≤ 100000) :
    Calls Tryz.prog 27 #[.slice A l.length c, .int .i64 d] w fun e w' => e = .returned (.int .i64 (dlF l d (l.drop 1).length)) ∧ Below w.heap.size w w' := by
  have HPO : Hid (∀ w', Below w.heap.size w w' → (fun (e : Ending) (w' : World) => e = .returned (.int .i64 (dlF l d (l.drop 1).length)) ∧ Below w.heap.size w w') (.returned (.int .i64 (dlF l d (l.drop 1).length))) w') := hide fun w' h2 => ⟨rfl, h2⟩
  generalize (fun (e : Ending) (w' : World) => e = .returned (.int .i64 (dlF l d (l.drop 1).length)) ∧ Below w.heap.size w w') = PO at *
  have HDS := hide (fun W => dateString_any d W h0 h1)
  have hln := R.len
  have hpos := R.pos
  have HR := hide R
  have hlen : (l.drop 1).length = l.length - 1 := List.length_drop
  obtain ⟨b, o, rfl, hb, -⟩ := hA.2 hpos
  have HT := hide (show ∀ A', (1 < l.length → A' = some ⟨b, o + 5, none⟩) → BsAt w A' (l.drop 1) from fun A' h => by
    by_cases h1 : 1 < l.length
    · rw [h h1]; exact hA.tail
    · exact bsAt_nil w A' (by omega))
  have HST := hide (fun j (hj : j < (l.drop 1).length) => dlF_step R d hj)
  have HIN := hide (dlF_in R d)
  have HZ := hide (dlF_zero l d)
  clear hA hb R
  go_enter Tryz.func27, Tryz.ntmps27
  go_upto_region 2 with (fail)
  go_cut [9, 10, 11] from 8 to 11 (fun s9 s10 s11 wx => ∃ (A9 : Option Addr) (c9 : Nat), s9 = .slice A9 (l.length - 1) c9 ∧ s10 = .int .i64 ((l.length - 1 : Nat) : Int) ∧ s11 = .int .i64 0 ∧ Hid (BsAt w A9 (l.drop 1)) ∧ w = wx)
  case first =>
    by_cases hc1 : c = 1
    · have HZ9 := hide (HT.out (some ⟨b, o, none⟩) (fun h => by omega))
      go_wp2
      go_meet
      exact ⟨_, _, rfl, rfl, rfl, HZ9, rfl⟩
    · have HZ9 := hide (HT.out (some ⟨b, o + 5, none⟩) (fun _ => rfl))
      go_wp2
      go_meet
      exact ⟨_, _, rfl, rfl, rfl, HZ9, rfl⟩
  case rest =>
  obtain ⟨A9, c9, rfl, rfl, rfl, HT9, rfl⟩ := hcut
  have HT9 := hide HT9.out
  have hL2 : (l.drop 1).length ≤ 2000 := by omega
  rw [← hlen]
  clear HT hlen
  generalize l.drop 1 = L at *
  go_wp2
  go_loopw [5, 11] (fun s5 i9 wr => ∃ (j : Nat), j ≤ L.length ∧ s5 = .int .i64 (dlF l d j) ∧ i9 = .int .i64 j ∧ Hid (Below w.heap.size w wr)) (fun _ i9 _ => L.length - (intOf i9).toNat)
  case atStart => exact ⟨0, Nat.zero_le _, by rw [HZ.out], rfl, hide (Below.refl _ _)⟩
  case round =>
    obtain ⟨j, hj, rfl, rfl, HB⟩ := hrel
    by_cases hlt : j < L.length
    · obtain ⟨b', o', A1, c1, A2, c2, rfl, hlb, q0, q1, q2, q3, q4, -, -⟩ := HT9.out.getB HB.out hlt
      have i1 : (j : Int) < (L.length : Int) := by omega
      have hst := HST.out j hlt
      go_upto_region 5 with (fail)
      have HX := hide (Blk.new wr 82 #[.int .i64 L[j].id, .int .i64 L[j].par, .slice A1 L[j].kids.length c1, .string L[j].txt, .slice A2 L[j].ps.length c2])
      have HBX := hide (bl_alloc HB.out (.cells #[.int .i64 L[j].id, .int .i64 L[j].par, .slice A1 L[j].kids.length c1, .string L[j].txt, .slice A2 L[j].ps.length c2] 82))
      generalize wr.alloc (.cells #[.int .i64 L[j].id, .int .i64 L[j].par, .slice A1 L[j].kids.length c1, .string L[j].txt, .slice A2 L[j].ps.length c2] 82) = W2 at *
      have z0 := HX.out.cell 0
      have z1 := HX.out.cell 1
      have z3 := HX.out.cell 3
      have zl := HX.out.lt
      simp only [List.getElem?_toArray, List.getElem?_cons_zero, List.getElem?_cons_succ] at z0 z1 z3
      have HXB := hide (fun W (hb : Below W2.heap.size W2 W) => (⟨(HX.out.below hb zl).cell 0, (HX.out.below hb zl).cell 1, (HX.out.below hb zl).cell 3, Nat.lt_of_lt_of_le zl hb.size⟩ : W.cell? ⟨wr.heap.size, 0, none⟩ = some (.int .i64 L[j].id) ∧ W.cell? ⟨wr.heap.size, 1, none⟩ = some (.int .i64 L[j].par) ∧ W.cell? ⟨wr.heap.size, 3, none⟩ = some (.string L[j].txt) ∧ wr.heap.size < W.heap.size))
      clear q0 q1 q2 q3 q4 HX
      generalize hdl : dlF l d (j + 1) = nx at *
      generalize dlF l d j = cu at *
      generalize L[j] = x at *
      obtain ⟨xi, xp, xk, xt, xs⟩ := x
      (try simp only at *)
      generalize dateS (parts d) = ds at *
      obtain ⟨b1, e1⟩ : ∃ b1, (xp == 0) = b1 := ⟨_, rfl⟩
      obtain ⟨b2, e2⟩ : ∃ b2, (xt.toList == ds.toList) = b2 := ⟨_, rfl⟩
      obtain ⟨b3, e3⟩ : ∃ b3, (cu == 0) = b3 := ⟨_, rfl⟩
      have hnx : nx = if (b1 && (b2 && b3)) = true then xi else cu := by
        have e2' : b2 = true ↔ xt = ds := by
          rw [← e2, beq_iff_eq]
          exact ⟨fun h => bytesD_ext (by simpa [Lib.toList_data] using h), fun h => by rw [h]⟩
        have e1' : b1 = true ↔ xp = 0 := by rw [← e1, beq_iff_eq]
        have e3' : b3 = true ↔ cu = 0 := by rw [← e3, beq_iff_eq]
        rw [hst]
        simp only [Bool.and_eq_true, e1', e2', e3']
      have HNX := hide hnx
      clear hst hnx
      go_cut [28] from 15 to 28 (fun s28 wx => s28 = .bool (b1 && (b2 && b3)) ∧ Hid (Below W2.heap.size W2 wx))
      case first =>
        cases b1 with
        | false =>
          go_quiet (fail)
          go_wp2
          go_meet
          exact ⟨rfl, hide (bl_drewN (Below.refl _ _) _)⟩
        | true =>
          cases b2 <;> cases b3
          all_goals
            first | (go_region_with (go_at_call 11; refine (HDS.out _).mono ?_; rintro e w3 ⟨rfl, hb3⟩; obtain ⟨y0, y1, y3, yl⟩ := HXB.out w3 (below_chainT (by repeat (first | with_reducible exact Below.refl _ _ | with_reducible refine bl_plus ?_ | with_reducible refine bl_alloc ?_ _ | with_reducible refine bl_drew ?_ | with_reducible refine bl_drewN ?_ _)) hb3); have HB3 := hide (below_chainT (by repeat (first | with_reducible exact Below.refl _ _ | with_reducible refine bl_plus ?_ | with_reducible refine bl_alloc ?_ _ | with_reducible refine bl_drew ?_ | with_reducible refine bl_drewN ?_ _)) hb3 : Below W2.heap.size W2 w3); clear hb3)) | fail
            all_goals
              go_wp2
              go_meet
              exact ⟨rfl, hide (below_chainT HB3.out (by repeat (first | with_reducible exact Below.refl _ _ | with_reducible refine bl_plus ?_ | with_reducible refine bl_alloc ?_ _ | with_reducible refine bl_drew ?_ | with_reducible refine bl_drewN ?_ _)))⟩
      case rest =>
        obtain ⟨rfl, HB5⟩ := hcut
        obtain ⟨y0, -, -, yl⟩ := HXB.out _ HB5.out
        have HB6 := hide (below_chainT HBX.out HB5.out)
        clear HXB HBX z0 z1 z3 zl HB5 HB e1 e2 e3
        cases hbb : (b1 && (b2 && b3)) with
        | true =>
          have hn2 := HNX.out
          rw [hbb, if_pos rfl] at hn2
          go_wp2
          go_roundw
          case rel => exact ⟨j + 1, by omega, by rw [hdl, hn2], by go_num, HB6⟩
          case measure => simp [intOf]; omega
        | false =>
          have hn2 := HNX.out
          rw [hbb, if_neg (by decide)] at hn2
          go_wp2
          go_roundw
          case rel => exact ⟨j + 1, by omega, by rw [hdl, hn2], by go_num, HB6⟩
          case measure => simp [intOf]; omega
    · obtain rfl : j = L.length := by omega
      go_wp2
      exact HPO.out _ HB.out

end Go.Proofs.YtioppoaijehicaaGreatDoor
