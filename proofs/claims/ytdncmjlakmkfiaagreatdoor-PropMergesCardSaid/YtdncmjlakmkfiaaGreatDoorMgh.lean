/-
  WALK: what three values become, in the reference.
-/
import Derived.Test.YtdncmjlakmkfiaaGreatDoorMge
import Derived.Test.YtdncmjlakmkfiaaGreatDoorMgg
import Derived.Laws.EntriesVeiled
set_option linter.all false
namespace Go.Proofs.YtdncmjlakmkfiaaGreatDoor
open Go.RowKit

/-- Are the first values of three lists? -/
def lk3 (l1 l2 l3 : Bool) (k : Nat) : Bool := if (k == 0) = true then true else if (k == 1) = true then l1 else if (k == 2) = true then l1 && l2 else l1 && l2 && l3

theorem mb_newR (w0 W : World) (h : w0.heap.size ≤ W.heap.size) : MB w0.heap.size 24 #[.int .i64 7, .int .i64 0, .int .i64 0, .string ⟨#[]⟩] ((W.alloc (.cells #[.func (.func 85) #[] #[]] 150)).alloc (.cells #[.int .i64 7, .int .i64 0, .int .i64 0, .string ⟨#[]⟩, .slice none 0 0] 24)) (W.heap.size + 1) none 0 [] :=
  ⟨by have := Blk.new (W.alloc (.cells #[.func (.func 85) #[] #[]] 150)) 24 #[.int .i64 7, .int .i64 0, .int .i64 0, .string ⟨#[]⟩, .slice none 0 0]; rwa [World.size_alloc] at this, OwnK.empty, (fun q hq => by cases hq), Nat.le_succ_of_le h⟩

set_option maxHeartbeats 3200000 in
set_option maxRecDepth 100000 in
theorem mergeValueR_any (base a b : V) (A0 A1 A2 : Option Addr) (c0 c1 c2 : Nat) (w : World) (h0 : LAt w A0 base.l) (h1 : LAt w A1 a.l) (h2 : LAt w A2 b.l) (hn : base.l.length ≤ 20 ∧ a.l.length ≤ 20 ∧ b.l.length ≤ 20) :
    Calls Tryz.prog 46 #[base.arg A0 c0, a.arg A1 c1, b.arg A2 c2] w (MvOut ((mValue base a b).1, !(mValue base a b).2) w) := by
  have HL0 := hide h0
  have HL1 := hide h1
  have HL2 := hide h2
  have HC1 := hide (fun W (hb : Below w.heap.size w W) => compareR a base A1 A0 c1 c0 W (h1.below hb) (h0.below hb))
  have HC2 := hide (fun W (hb : Below w.heap.size w W) => compareR b base A2 A0 c2 c0 W (h2.below hb) (h0.below hb))
  have HC3 := hide (fun W (hb : Below w.heap.size w W) => compareR a b A1 A2 c1 c2 W (h1.below hb) (h2.below hb))
  unfold CmpOut at HC1 HC2 HC3
  have HXZ := hide (fun W hb => boxV_of (w := w) (W := W) (y := base) (B := A0) (d := c0) (g := w.heap.size) rfl hb)
  have HXA := hide (fun W hb => boxV_of (w := (w.alloc (.cells #[.int .i64 base.k, .int .i64 base.i, .int .i64 base.t, .string base.s, .slice A0 base.l.length c0] 24))) (W := W) (y := a) (B := A1) (d := c1) (g := w.heap.size + 1) (by rw [World.size_alloc]) hb)
  have HXB := hide (fun W hb => boxV_of (w := ((w.alloc (.cells #[.int .i64 base.k, .int .i64 base.i, .int .i64 base.t, .string base.s, .slice A0 base.l.length c0] 24)).alloc (.cells #[.int .i64 a.k, .int .i64 a.i, .int .i64 a.t, .string a.s, .slice A1 a.l.length c1] 24))) (W := W) (y := b) (B := A2) (d := c2) (g := w.heap.size + 1 + 1) (by simp only [World.size_alloc]) hb)
  have HRES := hide (fun W hb => blk_of (w := (((w.alloc (.cells #[.int .i64 base.k, .int .i64 base.i, .int .i64 base.t, .string base.s, .slice A0 base.l.length c0] 24)).alloc (.cells #[.int .i64 a.k, .int .i64 a.i, .int .i64 a.t, .string a.s, .slice A1 a.l.length c1] 24)).alloc (.cells #[.int .i64 b.k, .int .i64 b.i, .int .i64 b.t, .string b.s, .slice A2 b.l.length c2] 24))) (W := W) (T := 24) (cs := zValM) (g := w.heap.size + 1 + 1 + 1) (by simp only [World.size_alloc]) hb)
  have HLL := hide (show listed base = (base.k == 0 || base.k == 7) ∧ listed a = (a.k == 0 || a.k == 7) ∧ listed b = (b.k == 0 || b.k == 7) from ⟨rfl, rfl, rfl⟩)
  have HN3 := hide (show base.l.length ≤ 20 ∧ a.l.length ≤ 20 ∧ b.l.length ≤ 20 ∧ (m1 base.l a.l b.l).length ≤ 20 ∧ (m2 base.l a.l b.l).length ≤ 40 ∧ ([] : List V).length = 0 from ⟨hn.1, hn.2.1, hn.2.2, by have := putAll_len (c := fun v => hasV a.l v && hasV b.l v) base.l []; unfold m1; simp only [List.length_nil] at this; omega, by have := putAll_len (c := fun v => hasV a.l v && hasV b.l v) base.l []; have h9 := putAll_len (c := fun v => !hasV base.l v) a.l (m1 base.l a.l b.l); unfold m2; unfold m1 at h9 ⊢; simp only [List.length_nil] at this; omega, rfl⟩)
  have ent : ∀ args w, (callFunc 85 args).run Tryz.prog w = .ok (.enter 85 args) w := fun args w => Go.Proofs.enters_of Tryz.func85 (by kernel_rfl) rfl args w
  have ent2 : ∀ args w, (callFunc 88 args).run Tryz.prog w = .ok (.enter 88 args) w := fun args w => Go.Proofs.enters_of Tryz.func88 (by kernel_rfl) rfl args w
  generalize hR : (((mValue base a b).1, !(mValue base a b).2) : V × Bool) = R
  have hR2 : (fun q : V × Bool => (q.1, !q.2)) (mValue base a b) = R := hR
  clear hR
  unfold mValue at hR2
  clear h0 h1 h2 hn
  have E1 : eqv a base = (cmpV a base == 0) := rfl
  have E2 : eqv b base = (cmpV b base == 0) := rfl
  have E3 : eqv a b = (cmpV a b == 0) := rfl
  rw [E1, E2, E3] at hR2
  clear E1 E2 E3
  generalize cmpV a base = r1 at *
  generalize cmpV b base = r2 at *
  generalize cmpV a b = r3 at *
  generalize listed base = l1 at *
  generalize listed a = l2 at *
  generalize listed b = l3 at *
  obtain ⟨ak, ai, at_, as_, al⟩ := a
  obtain ⟨bk, bi, bt, bs, bl⟩ := b
  obtain ⟨zk, zi, zt, zs, zl⟩ := base
  simp only [V.arg, V.k, V.i, V.t, V.s, V.l] at *
  have HR := hide hR2
  clear hR2
  cases e1 : (r1 == 0) with
  | true =>
    obtain rfl : R = (.mk bk bi bt bs bl, true) := by rw [← HR.out, e1]; rfl
    clear HR
    go_enter Tryz.func46, Tryz.ntmps46
    go_wp2_with (first | (go_at_call 84; (with_reducible refine (HC1.out _ ?hbw).mono ?_); (case hbw => exact (by repeat (first | with_reducible exact Below.refl _ _ | with_reducible refine bl_plus ?_ | with_reducible refine bl_alloc ?_ _ | with_reducible refine bl_drew ?_ | with_reducible refine bl_drewN ?_ _))); rintro e w' ⟨rfl, hbl⟩; obtain ⟨os1, n1, rfl⟩ := below_plus hbl; clear hbl))
    go_returns
    exact ⟨A2, c2, rfl, (HL2.out.below (by repeat (first | with_reducible exact Below.refl _ _ | with_reducible refine bl_plus ?_ | with_reducible refine bl_alloc ?_ _ | with_reducible refine bl_drew ?_ | with_reducible refine bl_drewN ?_ _))), (by repeat (first | with_reducible exact Below.refl _ _ | with_reducible refine bl_plus ?_ | with_reducible refine bl_alloc ?_ _ | with_reducible refine bl_drew ?_ | with_reducible refine bl_drewN ?_ _))⟩
  | false =>
    cases e2 : (r2 == 0) with
    | true =>
      obtain rfl : R = (.mk ak ai at_ as_ al, true) := by rw [← HR.out, e1, e2]; rfl
      clear HR
      go_enter Tryz.func46, Tryz.ntmps46
      go_wp2_with (first | (go_at_call 84; (with_reducible refine (HC1.out _ ?hbw).mono ?_); (case hbw => exact (by repeat (first | with_reducible exact Below.refl _ _ | with_reducible refine bl_plus ?_ | with_reducible refine bl_alloc ?_ _ | with_reducible refine bl_drew ?_ | with_reducible refine bl_drewN ?_ _))); rintro e w' ⟨rfl, hbl⟩; obtain ⟨os1, n1, rfl⟩ := below_plus hbl; clear hbl) | (go_at_call 84; (with_reducible refine (HC2.out _ ?hbw).mono ?_); (case hbw => exact (by repeat (first | with_reducible exact Below.refl _ _ | with_reducible refine bl_plus ?_ | with_reducible refine bl_alloc ?_ _ | with_reducible refine bl_drew ?_ | with_reducible refine bl_drewN ?_ _))); rintro e w' ⟨rfl, hbl⟩; obtain ⟨os2, n2, rfl⟩ := below_plus hbl; clear hbl))
      go_returns
      exact ⟨A1, c1, rfl, (HL1.out.below (by repeat (first | with_reducible exact Below.refl _ _ | with_reducible refine bl_plus ?_ | with_reducible refine bl_alloc ?_ _ | with_reducible refine bl_drew ?_ | with_reducible refine bl_drewN ?_ _))), (by repeat (first | with_reducible exact Below.refl _ _ | with_reducible refine bl_plus ?_ | with_reducible refine bl_alloc ?_ _ | with_reducible refine bl_drew ?_ | with_reducible refine bl_drewN ?_ _))⟩
    | false =>
      cases e3 : (r3 == 0) with
      | true =>
        obtain rfl : R = (.mk ak ai at_ as_ al, true) := by rw [← HR.out, e1, e2, e3]; rfl
        clear HR
        go_enter Tryz.func46, Tryz.ntmps46
        go_wp2_with (first | (go_at_call 84; (with_reducible refine (HC1.out _ ?hbw).mono ?_); (case hbw => exact (by repeat (first | with_reducible exact Below.refl _ _ | with_reducible refine bl_plus ?_ | with_reducible refine bl_alloc ?_ _ | with_reducible refine bl_drew ?_ | with_reducible refine bl_drewN ?_ _))); rintro e w' ⟨rfl, hbl⟩; obtain ⟨os1, n1, rfl⟩ := below_plus hbl; clear hbl) | (go_at_call 84; (with_reducible refine (HC2.out _ ?hbw).mono ?_); (case hbw => exact (by repeat (first | with_reducible exact Below.refl _ _ | with_reducible refine bl_plus ?_ | with_reducible refine bl_alloc ?_ _ | with_reducible refine bl_drew ?_ | with_reducible refine bl_drewN ?_ _))); rintro e w' ⟨rfl, hbl⟩; obtain ⟨os2, n2, rfl⟩ := below_plus hbl; clear hbl) | (go_at_call 84; (with_reducible refine (HC3.out _ ?hbw).mono ?_); (case hbw => exact (by repeat (first | with_reducible exact Below.refl _ _ | with_reducible refine bl_plus ?_ | with_reducible refine bl_alloc ?_ _ | with_reducible refine bl_drew ?_ | with_reducible refine bl_drewN ?_ _))); rintro e w' ⟨rfl, hbl⟩; obtain ⟨os3, n3, rfl⟩ := below_plus hbl; clear hbl))
        go_returns
        exact ⟨A1, c1, rfl, (HL1.out.below (by repeat (first | with_reducible exact Below.refl _ _ | with_reducible refine bl_plus ?_ | with_reducible refine bl_alloc ?_ _ | with_reducible refine bl_drew ?_ | with_reducible refine bl_drewN ?_ _))), (by repeat (first | with_reducible exact Below.refl _ _ | with_reducible refine bl_plus ?_ | with_reducible refine bl_alloc ?_ _ | with_reducible refine bl_drew ?_ | with_reducible refine bl_drewN ?_ _))⟩
      | false =>
        have HR := hide (show (fun q : V × Bool => (q.1, !q.2)) (if (l1 && l2 && l3) = true ∧ (mItems zl al bl).length ≤ 20 then ((.mk 7 0 0 ⟨#[]⟩ (mItems zl al bl) : V), false) else if ak ≠ 0 then (.mk ak ai at_ as_ al, true) else (.mk bk bi bt bs bl, true)) = R by rw [← HR.out, e1, e2, e3]; rfl)
        go_enter Tryz.func46, Tryz.ntmps46
        go_upto_region 5 with (first | (go_at_call 84; (with_reducible refine (HC1.out _ ?hbw).mono ?_); (case hbw => exact (by repeat (first | with_reducible exact Below.refl _ _ | with_reducible refine bl_plus ?_ | with_reducible refine bl_alloc ?_ _ | with_reducible refine bl_drew ?_ | with_reducible refine bl_drewN ?_ _))); rintro e w' ⟨rfl, hbl⟩; obtain ⟨os1, n1, rfl⟩ := below_plus hbl; clear hbl) | (go_at_call 84; (with_reducible refine (HC2.out _ ?hbw).mono ?_); (case hbw => exact (by repeat (first | with_reducible exact Below.refl _ _ | with_reducible refine bl_plus ?_ | with_reducible refine bl_alloc ?_ _ | with_reducible refine bl_drew ?_ | with_reducible refine bl_drewN ?_ _))); rintro e w' ⟨rfl, hbl⟩; obtain ⟨os2, n2, rfl⟩ := below_plus hbl; clear hbl) | (go_at_call 84; (with_reducible refine (HC3.out _ ?hbw).mono ?_); (case hbw => exact (by repeat (first | with_reducible exact Below.refl _ _ | with_reducible refine bl_plus ?_ | with_reducible refine bl_alloc ?_ _ | with_reducible refine bl_drew ?_ | with_reducible refine bl_drewN ?_ _))); rintro e W3 ⟨rfl, hbl⟩; have HB9 := hide (below_chain (w := w) (by repeat (first | with_reducible exact Below.refl _ _ | with_reducible refine bl_plus ?_ | with_reducible refine bl_alloc ?_ _ | with_reducible refine bl_drew ?_ | with_reducible refine bl_drewN ?_ _)) hbl); have HRB := hide (HRES.out _ (below_chain (by repeat (first | with_reducible exact Below.refl _ _ | with_reducible refine bl_plus ?_ | with_reducible refine bl_alloc ?_ _ | with_reducible refine bl_drew ?_ | with_reducible refine bl_drewN ?_ _)) hbl)); have HZ9 := hide (HXZ.out _ (below_chain (by repeat (first | with_reducible exact Below.refl _ _ | with_reducible refine bl_plus ?_ | with_reducible refine bl_alloc ?_ _ | with_reducible refine bl_drew ?_ | with_reducible refine bl_drewN ?_ _)) hbl)); have HA9 := hide (HXA.out _ (below_chain (by repeat (first | with_reducible exact Below.refl _ _ | with_reducible refine bl_plus ?_ | with_reducible refine bl_alloc ?_ _ | with_reducible refine bl_drew ?_ | with_reducible refine bl_drewN ?_ _)) hbl)); have HC9 := hide (HXB.out _ (below_chain (by repeat (first | with_reducible exact Below.refl _ _ | with_reducible refine bl_plus ?_ | with_reducible refine bl_alloc ?_ _ | with_reducible refine bl_drew ?_ | with_reducible refine bl_drewN ?_ _)) hbl)); clear hbl))
        clear HC1 HC2 HC3 HXZ HXA HXB HRES
        obtain ⟨y0, y1, y2, y3, y4, yl⟩ := HZ9.out
        obtain ⟨x0, x1, x2, x3, x4, xl9⟩ := HA9.out
        obtain ⟨u0, u1, u2, u3, u4, ul⟩ := HC9.out
        simp only [V.k, V.i, V.t, V.s, V.l] at y0 y1 y2 y3 y4 x0 x1 x2 x3 x4 u0 u1 u2 u3 u4
        clear e1 e2 e3
        go_wp2
        go_loopw [8, 43] (fun s8 i wr => ∃ (k : Nat) (p : Bool) (os : Array Obj) (n : Nat), k ≤ 3 ∧ i = .int .i64 k ∧ s8 = .bool p ∧ Hid (p = lk3 l1 l2 l3 k) ∧ wr = plus (W3.alloc (.cells #[.int .i64 zk, .int .i64 zi, .int .i64 zt, .string zs, .slice A0 zl.length c0, .int .i64 ak, .int .i64 ai, .int .i64 at_, .string as_, .slice A1 al.length c1, .int .i64 bk, .int .i64 bi, .int .i64 bt, .string bs, .slice A2 bl.length c2] 24)) os n) (fun _ i _ => 3 - (RowKit.intOf i).toNat)
        case atStart => exact ⟨0, true, #[], _, by omega, rfl, rfl, hide rfl, plus_nil.symm⟩
        case round =>
          obtain ⟨k, p, os, n, hk3, rfl, rfl, HP, rfl⟩ := hrel
          have hkc : k = 0 ∨ k = 1 ∨ k = 2 ∨ k = 3 := by omega
          rcases hkc with rfl | rfl | rfl | rfl
          · cases p with
            | false =>
              have HPP := hide (show false = lk3 l1 l2 l3 1 by have := HP.out; revert this; cases l1 <;> cases l2 <;> cases l3 <;> simp [lk3])
              go_wp2
              go_roundw
              case rel => exact ⟨1, _, _, _, by omega, by go_num, rfl, HPP, by first | rfl | (simp only [plus_alloc, plus_plus, mv_drewN, plus_drew]; rfl)⟩
              case measure => simp [RowKit.intOf]
            | true =>
              cases h7 : (zk == 7) with
              | true =>
                have HPP := hide (show true = lk3 l1 l2 l3 1 by have := HP.out; have h9 := HLL.out.1; rw [h7, Bool.or_true] at h9; revert this; rw [h9]; simp [lk3])
                go_wp2
                go_roundw
                case rel => exact ⟨1, _, _, _, by omega, by go_num, rfl, HPP, by first | rfl | (simp only [plus_alloc, plus_plus, mv_drewN, plus_drew]; rfl)⟩
                case measure => simp [RowKit.intOf]
              | false =>
                cases h0 : (zk == 0) with
                | true =>
                  have HPP := hide (show true = lk3 l1 l2 l3 1 by have := HP.out; have h9 := HLL.out.1; rw [h0, Bool.true_or] at h9; revert this; rw [h9]; simp [lk3])
                  go_wp2
                  go_roundw
                  case rel => exact ⟨1, _, _, _, by omega, by go_num, rfl, HPP, by first | rfl | (simp only [plus_alloc, plus_plus, mv_drewN, plus_drew]; rfl)⟩
                  case measure => simp [RowKit.intOf]
                | false =>
                  have HPP := hide (show false = lk3 l1 l2 l3 1 by have := HP.out; have h9 := HLL.out.1; rw [h7, h0] at h9; revert this; rw [h9]; simp [lk3])
                  go_wp2
                  go_roundw
                  case rel => exact ⟨1, _, _, _, by omega, by go_num, rfl, HPP, by first | rfl | (simp only [plus_alloc, plus_plus, mv_drewN, plus_drew]; rfl)⟩
                  case measure => simp [RowKit.intOf]
          · cases p with
            | false =>
              have HPP := hide (show false = lk3 l1 l2 l3 2 by have := HP.out; revert this; cases l1 <;> cases l2 <;> cases l3 <;> simp [lk3])
              go_wp2
              go_roundw
              case rel => exact ⟨2, _, _, _, by omega, by go_num, rfl, HPP, by first | rfl | (simp only [plus_alloc, plus_plus, mv_drewN, plus_drew]; rfl)⟩
              case measure => simp [RowKit.intOf]
            | true =>
              cases h7 : (ak == 7) with
              | true =>
                have HPP := hide (show true = lk3 l1 l2 l3 2 by have := HP.out; have h9 := HLL.out.2.1; rw [h7, Bool.or_true] at h9; revert this; rw [h9]; simp [lk3])
                go_wp2
                go_roundw
                case rel => exact ⟨2, _, _, _, by omega, by go_num, rfl, HPP, by first | rfl | (simp only [plus_alloc, plus_plus, mv_drewN, plus_drew]; rfl)⟩
                case measure => simp [RowKit.intOf]
              | false =>
                cases h0 : (ak == 0) with
                | true =>
                  have HPP := hide (show true = lk3 l1 l2 l3 2 by have := HP.out; have h9 := HLL.out.2.1; rw [h0, Bool.true_or] at h9; revert this; rw [h9]; simp [lk3])
                  go_wp2
                  go_roundw
                  case rel => exact ⟨2, _, _, _, by omega, by go_num, rfl, HPP, by first | rfl | (simp only [plus_alloc, plus_plus, mv_drewN, plus_drew]; rfl)⟩
                  case measure => simp [RowKit.intOf]
                | false =>
                  have HPP := hide (show false = lk3 l1 l2 l3 2 by have := HP.out; have h9 := HLL.out.2.1; rw [h7, h0] at h9; revert this; rw [h9]; simp [lk3])
                  go_wp2
                  go_roundw
                  case rel => exact ⟨2, _, _, _, by omega, by go_num, rfl, HPP, by first | rfl | (simp only [plus_alloc, plus_plus, mv_drewN, plus_drew]; rfl)⟩
                  case measure => simp [RowKit.intOf]
          · cases p with
            | false =>
              have HPP := hide (show false = lk3 l1 l2 l3 3 by have := HP.out; revert this; cases l1 <;> cases l2 <;> cases l3 <;> simp [lk3])
              go_wp2
              go_roundw
              case rel => exact ⟨3, _, _, _, by omega, by go_num, rfl, HPP, by first | rfl | (simp only [plus_alloc, plus_plus, mv_drewN, plus_drew]; rfl)⟩
              case measure => simp [RowKit.intOf]
            | true =>
              cases h7 : (bk == 7) with
              | true =>
                have HPP := hide (show true = lk3 l1 l2 l3 3 by have := HP.out; have h9 := HLL.out.2.2; rw [h7, Bool.or_true] at h9; revert this; rw [h9]; simp [lk3])
                go_wp2
                go_roundw
                case rel => exact ⟨3, _, _, _, by omega, by go_num, rfl, HPP, by first | rfl | (simp only [plus_alloc, plus_plus, mv_drewN, plus_drew]; rfl)⟩
                case measure => simp [RowKit.intOf]
              | false =>
                cases h0 : (bk == 0) with
                | true =>
                  have HPP := hide (show true = lk3 l1 l2 l3 3 by have := HP.out; have h9 := HLL.out.2.2; rw [h0, Bool.true_or] at h9; revert this; rw [h9]; simp [lk3])
                  go_wp2
                  go_roundw
                  case rel => exact ⟨3, _, _, _, by omega, by go_num, rfl, HPP, by first | rfl | (simp only [plus_alloc, plus_plus, mv_drewN, plus_drew]; rfl)⟩
                  case measure => simp [RowKit.intOf]
                | false =>
                  have HPP := hide (show false = lk3 l1 l2 l3 3 by have := HP.out; have h9 := HLL.out.2.2; rw [h7, h0] at h9; revert this; rw [h9]; simp [lk3])
                  go_wp2
                  go_roundw
                  case rel => exact ⟨3, _, _, _, by omega, by go_num, rfl, HPP, by first | rfl | (simp only [plus_alloc, plus_plus, mv_drewN, plus_drew]; rfl)⟩
                  case measure => simp [RowKit.intOf]
          · rw [show (((3 : Nat) : Int)) = 3 from rfl]
            have hbx : Below W3.heap.size W3 (plus (W3.alloc (.cells #[.int .i64 zk, .int .i64 zi, .int .i64 zt, .string zs, .slice A0 zl.length c0, .int .i64 ak, .int .i64 ai, .int .i64 at_, .string as_, .slice A1 al.length c1, .int .i64 bk, .int .i64 bi, .int .i64 bt, .string bs, .slice A2 bl.length c2] 24)) os n) := bl_plus (bl_alloc (Below.refl _ _) _)
            have HF0 := hide (show BoxV (plus (W3.alloc (.cells #[.int .i64 zk, .int .i64 zi, .int .i64 zt, .string zs, .slice A0 zl.length c0, .int .i64 ak, .int .i64 ai, .int .i64 at_, .string as_, .slice A1 al.length c1, .int .i64 bk, .int .i64 bi, .int .i64 bt, .string bs, .slice A2 bl.length c2] 24)) os n) w.heap.size (.mk zk zi zt zs zl) A0 c0 ∧ BoxV (plus (W3.alloc (.cells #[.int .i64 zk, .int .i64 zi, .int .i64 zt, .string zs, .slice A0 zl.length c0, .int .i64 ak, .int .i64 ai, .int .i64 at_, .string as_, .slice A1 al.length c1, .int .i64 bk, .int .i64 bi, .int .i64 bt, .string bs, .slice A2 bl.length c2] 24)) os n) (w.heap.size + 1) (.mk ak ai at_ as_ al) A1 c1 ∧ BoxV (plus (W3.alloc (.cells #[.int .i64 zk, .int .i64 zi, .int .i64 zt, .string zs, .slice A0 zl.length c0, .int .i64 ak, .int .i64 ai, .int .i64 at_, .string as_, .slice A1 al.length c1, .int .i64 bk, .int .i64 bi, .int .i64 bt, .string bs, .slice A2 bl.length c2] 24)) os n) (w.heap.size + 1 + 1) (.mk bk bi bt bs bl) A2 c2 ∧ Blk (plus (W3.alloc (.cells #[.int .i64 zk, .int .i64 zi, .int .i64 zt, .string zs, .slice A0 zl.length c0, .int .i64 ak, .int .i64 ai, .int .i64 at_, .string as_, .slice A1 al.length c1, .int .i64 bk, .int .i64 bi, .int .i64 bt, .string bs, .slice A2 bl.length c2] 24)) os n) (w.heap.size + 1 + 1 + 1) 24 zValM ∧ Below w.heap.size w (plus (W3.alloc (.cells #[.int .i64 zk, .int .i64 zi, .int .i64 zt, .string zs, .slice A0 zl.length c0, .int .i64 ak, .int .i64 ai, .int .i64 at_, .string as_, .slice A1 al.length c1, .int .i64 bk, .int .i64 bi, .int .i64 bt, .string bs, .slice A2 bl.length c2] 24)) os n) from ⟨HZ9.out.below hbx, HA9.out.below hbx, HC9.out.below hbx, HRB.out.below hbx HRB.out.lt, below_chain HB9.out hbx⟩)
            clear hbx y0 y1 y2 y3 y4 yl x0 x1 x2 x3 x4 xl9 u0 u1 u2 u3 u4 ul
            generalize plus (W3.alloc (.cells #[.int .i64 zk, .int .i64 zi, .int .i64 zt, .string zs, .slice A0 zl.length c0, .int .i64 ak, .int .i64 ai, .int .i64 at_, .string as_, .slice A1 al.length c1, .int .i64 bk, .int .i64 bi, .int .i64 bt, .string bs, .slice A2 bl.length c2] 24)) os n = W at *
            have HRS := hide (show w.heap.size + 1 + 1 + 1 < W.heap.size from HF0.out.2.2.2.1.lt)
            cases p with
            | false =>
              have HN9 := hide (show ¬ ((l1 && l2 && l3) = true ∧ (mItems zl al bl).length ≤ 20) from fun h => by
                have h9 := HP.out
                unfold lk3 at h9
                simp only [Nat.reduceBEq] at h9
                rw [h.1] at h9
                cases h9)
              have hws := HRS.out
              obtain ⟨y0, y1, y2, y3, y4, yl⟩ := HF0.out.2.1
              obtain ⟨x0, x1, x2, x3, x4, xl9⟩ := HF0.out.2.2.1
              obtain ⟨s0, s1, s2, s3, s4, hrl, r0, r1, r2, r3, r4⟩ := blkM_frozen (HF0.out.2.2.2.1)
              simp only [V.k, V.i, V.t, V.s, V.l] at y0 y1 y2 y3 y4 x0 x1 x2 x3 x4
              have hpp := trivial
              cases hk : (ak == 0) with
              | true =>
                obtain rfl : R = (.mk bk bi bt bs bl, false) := by rw [← HR.out, if_neg HN9.out, if_neg (by simpa using hk)]; rfl
                clear HR
                go_wp2
                refine bodyPost_ret (res_cellM (P := Tryz.prog) (fn := Tryz.f46) (p := 6) (u := 7) rfl _ _ _ 24 #[.int .i64 bk, .int .i64 bi, .int .i64 bt, .string bs, .slice A2 bl.length c2] (0, 0) _ rfl (fiveM_set HF0.out.2.2.2.1) Tryz.underlying24 rfl (by kernel_rfl)) rfl ?_
                exact ⟨A2, c2, rfl, fiveM_lat ((LIn_of_at HL2.out).frame (fun b hb => HF0.out.2.2.2.2.block b hb) |>.mono fun b hb => .inl hb) (by omega) HF0.out.2.2.2.2.size, fiveM_below HF0.out.2.2.2.2 (by omega)⟩
              | false =>
                obtain rfl : R = (.mk ak ai at_ as_ al, false) := by rw [← HR.out, if_neg HN9.out, if_pos (by simpa using hk)]; rfl
                clear HR
                go_wp2
                refine bodyPost_ret (res_cellM (P := Tryz.prog) (fn := Tryz.f46) (p := 6) (u := 7) rfl _ _ _ 24 #[.int .i64 ak, .int .i64 ai, .int .i64 at_, .string as_, .slice A1 al.length c1] (0, 0) _ rfl (fiveM_set HF0.out.2.2.2.1) Tryz.underlying24 rfl (by kernel_rfl)) rfl ?_
                exact ⟨A1, c1, rfl, fiveM_lat ((LIn_of_at HL1.out).frame (fun b hb => HF0.out.2.2.2.2.block b hb) |>.mono fun b hb => .inl hb) (by omega) HF0.out.2.2.2.2.size, fiveM_below HF0.out.2.2.2.2 (by omega)⟩
            | true =>
              obtain ⟨rfl, rfl, rfl⟩ : l1 = true ∧ l2 = true ∧ l3 = true := by
                have h9 := HP.out
                unfold lk3 at h9
                revert h9
                cases l1 <;> cases l2 <;> cases l3 <;> simp
              obtain ⟨-, -, -, -, zb4, zbl⟩ := HF0.out.1
              have HMB0 := hide (mb_newR w W HF0.out.2.2.2.2.size)
              have HH0 := hide (show ((W.alloc (.cells #[.func (.func 85) #[] #[]] 150)).alloc (.cells #[.int .i64 7, .int .i64 0, .int .i64 0, .string ⟨#[]⟩, .slice none 0 0] 24)).cell? ⟨W.heap.size, 0, none⟩ = some (.func (.func 85) #[] #[]) from ((Blk.new W 150 #[.func (.func 85) #[] #[]]).alloc _).cell 0)
              simp only [V.l] at zb4
              go_wp2
              go_loopw [65] (fun i wr => ∃ (k : Nat) (A : Option Addr) (c : Nat) (qs : List CVal), k ≤ zl.length ∧ i = .int .i64 k ∧ Hid (MB w.heap.size 24 #[.int .i64 7, .int .i64 0, .int .i64 0, .string ⟨#[]⟩] wr (W.heap.size + 1) A c qs) ∧ Hid (Below (W.heap.size + 1) ((W.alloc (.cells #[.func (.func 85) #[] #[]] 150)).alloc (.cells #[.int .i64 7, .int .i64 0, .int .i64 0, .string ⟨#[]⟩, .slice none 0 0] 24)) wr) ∧ Hid (qs.map (·.x) = putAll (fun v => hasV al v && hasV bl v) ([]) (zl.take k))) (fun i _ => zl.length - (RowKit.intOf i).toNat)
              case atStart => exact ⟨0, none, 0, [], Nat.zero_le _, rfl, HMB0, hide (Below.refl _ _), hide rfl⟩
              case round =>
                obtain ⟨k, A, c, qs, hk, rfl, HMB, HBG, HQ⟩ := hrel
                have hBW : Below W.heap.size W wr := (bl_alloc (bl_alloc (Below.refl _ _) _) _).trans (HBG.out.mono (Nat.le_succ _))
                have HB := hide (HF0.out.2.2.2.2.trans (hBW.mono HF0.out.2.2.2.2.size))
                obtain ⟨-, -, -, -, zb4, zbl⟩ := HF0.out.1.below hBW
                obtain ⟨-, -, -, -, za4, zal⟩ := HF0.out.2.1.below hBW
                obtain ⟨-, -, -, -, zc4, zcl⟩ := HF0.out.2.2.1.below hBW
                simp only [V.l] at zb4 za4 zc4
                have hh : wr.cell? ⟨W.heap.size, 0, none⟩ = some (.func (.func 85) #[] #[]) := (HBG.out.cell (p := ⟨W.heap.size, 0, none⟩) (Nat.lt_succ_self _)).trans HH0.out
                have hhl : W.heap.size < wr.heap.size := Nat.lt_trans (Nat.lt_succ_self _) HMB.out.box.lt
                by_cases hlt : k < zl.length
                · obtain ⟨eb, eo, A9, c9, eA, hlb, y0, y1, y2, y3, y4, hle⟩ := lat_at HL0.out HB.out hlt
                  have HTK := hide (putAll_take (c := fun v => hasV al v && hasV bl v) (out := []) hlt)
                  have HQL := hide (show qs.length ≤ 100 by
                    have h1 := congrArg List.length HQ.out
                    rw [List.length_map] at h1
                    rw [h1]
                    exact Nat.le_trans (putAll_take_len (m := 60) (by have := HN3.out; omega) (by have := HN3.out; omega)) (by decide))
                  have HXI := hide (fun (W2 : World) (hb : Below w.heap.size w W2) => (LIn_of_at hle).frame (w' := W2) (fun b hb2 => hb.block b hb2))
                  have HH0 := hide (fun W2 (hb : Below w.heap.size w W2) => hasR_any al zl[k] A1 A9 c1 c9 W2 (HL1.out.below hb) (hle.below hb))
                  generalize hv0 : hasV al zl[k] = v0 at *
                  have HH1 := hide (fun W2 (hb : Below w.heap.size w W2) => hasR_any bl zl[k] A2 A9 c2 c9 W2 (HL2.out.below hb) (hle.below hb))
                  generalize hv1 : hasV bl zl[k] = v1 at *
                  have HPU := hide (fun (W2 : World) (hb2 : Below wr.heap.size wr W2) => add_any w.heap.size (W.heap.size + 1) A c qs zl[k] A9 c9 W2 W.heap.size ((hb2.cell (p := ⟨W.heap.size, 0, none⟩) hhl).trans hh) (Nat.lt_of_lt_of_le hhl hb2.size) (HMB.out.below hb2) (HXI.out W2 (below_chain HB.out hb2)) (by have := HQL.out; omega))
                  have HCV := hide (show (fun v => hasV al v && hasV bl v) zl[k] = (v0 && v1) from by simp only [hv0, hv1])
                  have i1 : (k : Int) < (zl.length : Int) := by omega
                  have h20 : zl.length ≤ 20 := by have := HN3.out; omega
                  have hwr := HB.out.size
                  clear hle hv0 hv1 hBW
                  generalize zl[k] = x at *
                  obtain ⟨xk, xi, xt, xs, xl⟩ := x
                  simp only [V.arg, V.k, V.i, V.t, V.s, V.l] at *
                  subst eA
                  cases v0 with
                  | false =>
                    have HCV := hide (HCV.out.trans (by simp : _ = false))
                    clear HH1
                    have HTK2 := hide (show putAll (fun v => hasV al v && hasV bl v) ([]) (zl.take (k + 1)) = qs.map (·.x) from HTK.out.trans (by rw [HQ.out]; first | rfl | (simp; done) | (rw [HCV.out]; rfl)))
                    clear HPU
                    go_wp2_with (first | (go_at_fn 85; (with_reducible refine (HH0.out _ ?hbw).mono ?_); (case hbw => exact (below_chain HB.out (by repeat (first | with_reducible exact Below.refl _ _ | with_reducible refine bl_plus ?_ | with_reducible refine bl_alloc ?_ _ | with_reducible refine bl_drew ?_ | with_reducible refine bl_drewN ?_ _)))); rintro e w' ⟨rfl, hbl⟩; obtain ⟨os0, n0, rfl⟩ := below_plus hbl; clear hbl))
                    go_roundw
                    case rel => exact ⟨k + 1, A, c, qs, hlt, by go_num, hide (HMB.out.below (by repeat (first | with_reducible exact Below.refl _ _ | with_reducible refine bl_plus ?_ | with_reducible refine bl_alloc ?_ _ | with_reducible refine bl_drew ?_ | with_reducible refine bl_drewN ?_ _))), hide (HBG.out.trans (Below.mono (B := wr.heap.size) (by repeat (first | with_reducible exact Below.refl _ _ | with_reducible refine bl_plus ?_ | with_reducible refine bl_alloc ?_ _ | with_reducible refine bl_drew ?_ | with_reducible refine bl_drewN ?_ _)) (Nat.le_of_lt HMB.out.box.lt))), hide HTK2.out.symm⟩
                    case measure => simp [RowKit.intOf]; omega
                  | true =>
                    cases v1 with
                    | false =>
                      have HTK2 := hide (show putAll (fun v => hasV al v && hasV bl v) ([]) (zl.take (k + 1)) = qs.map (·.x) from HTK.out.trans (by rw [HQ.out]; first | rfl | (simp; done) | (rw [HCV.out]; rfl)))
                      clear HPU
                      go_wp2_with (first | (go_at_fn 85; (with_reducible refine (HH0.out _ ?hbw).mono ?_); (case hbw => exact (below_chain HB.out (by repeat (first | with_reducible exact Below.refl _ _ | with_reducible refine bl_plus ?_ | with_reducible refine bl_alloc ?_ _ | with_reducible refine bl_drew ?_ | with_reducible refine bl_drewN ?_ _)))); rintro e w' ⟨rfl, hbl⟩; obtain ⟨os0, n0, rfl⟩ := below_plus hbl; clear hbl) | (go_at_fn 85; (with_reducible refine (HH1.out _ ?hbw).mono ?_); (case hbw => exact (below_chain HB.out (by repeat (first | with_reducible exact Below.refl _ _ | with_reducible refine bl_plus ?_ | with_reducible refine bl_alloc ?_ _ | with_reducible refine bl_drew ?_ | with_reducible refine bl_drewN ?_ _)))); rintro e w' ⟨rfl, hbl⟩; obtain ⟨os1, n1, rfl⟩ := below_plus hbl; clear hbl))
                      go_roundw
                      case rel => exact ⟨k + 1, A, c, qs, hlt, by go_num, hide (HMB.out.below (by repeat (first | with_reducible exact Below.refl _ _ | with_reducible refine bl_plus ?_ | with_reducible refine bl_alloc ?_ _ | with_reducible refine bl_drew ?_ | with_reducible refine bl_drewN ?_ _))), hide (HBG.out.trans (Below.mono (B := wr.heap.size) (by repeat (first | with_reducible exact Below.refl _ _ | with_reducible refine bl_plus ?_ | with_reducible refine bl_alloc ?_ _ | with_reducible refine bl_drew ?_ | with_reducible refine bl_drewN ?_ _)) (Nat.le_of_lt HMB.out.box.lt))), hide HTK2.out.symm⟩
                      case measure => simp [RowKit.intOf]; omega
                    | true =>
                      have HTK2 := hide (show putAll (fun v => hasV al v && hasV bl v) ([]) (zl.take (k + 1)) = putV (qs.map (·.x)) (.mk xk xi xt xs xl) from HTK.out.trans (by rw [HQ.out]; first | rfl | (simp; done) | (rw [HCV.out]; rfl)))
                      go_wp2_with (first | (go_at_fn 85; (with_reducible refine (HH0.out _ ?hbw).mono ?_); (case hbw => exact (below_chain HB.out (by repeat (first | with_reducible exact Below.refl _ _ | with_reducible refine bl_plus ?_ | with_reducible refine bl_alloc ?_ _ | with_reducible refine bl_drew ?_ | with_reducible refine bl_drewN ?_ _)))); rintro e w' ⟨rfl, hbl⟩; obtain ⟨os0, n0, rfl⟩ := below_plus hbl; clear hbl) | (go_at_fn 85; (with_reducible refine (HH1.out _ ?hbw).mono ?_); (case hbw => exact (below_chain HB.out (by repeat (first | with_reducible exact Below.refl _ _ | with_reducible refine bl_plus ?_ | with_reducible refine bl_alloc ?_ _ | with_reducible refine bl_drew ?_ | with_reducible refine bl_drewN ?_ _)))); rintro e w' ⟨rfl, hbl⟩; obtain ⟨os1, n1, rfl⟩ := below_plus hbl; clear hbl) | (go_at_fn 88; (refine (HPU.out _ (by repeat (first | with_reducible exact Below.refl _ _ | with_reducible refine bl_plus ?_ | with_reducible refine bl_alloc ?_ _ | with_reducible refine bl_drew ?_ | with_reducible refine bl_drewN ?_ _))).mono ?_); rintro e W9 ⟨rfl, A8, c8, qs8, hm8, hq8, hl8, hb8⟩; have HM8 := hide hm8; have HQ8 := hide hq8; have HB8 := hide ((HBG.out.trans (Below.mono (B := wr.heap.size) (by repeat (first | with_reducible exact Below.refl _ _ | with_reducible refine bl_plus ?_ | with_reducible refine bl_alloc ?_ _ | with_reducible refine bl_drew ?_ | with_reducible refine bl_drewN ?_ _)) (Nat.le_of_lt HMB.out.box.lt))).trans hb8); clear hm8 hq8 hl8 hb8))
                      go_roundw
                      case rel => exact ⟨k + 1, A8, c8, qs8, hlt, by go_num, HM8, HB8, hide (by rw [HTK2.out]; exact HQ8.out)⟩
                      case measure => simp [RowKit.intOf]; omega
                · obtain rfl : k = zl.length := by omega
                  have HQ2 := hide (show qs.map (·.x) = putAll (fun v => hasV al v && hasV bl v) ([]) zl by have := HQ.out; rwa [List.take_length] at this)
                  clear HQ
                  go_wp2
                  clear hBW HB zb4 zbl za4 zal zc4 zcl hh hhl
                  go_loopw [88] (fun i wr => ∃ (k : Nat) (A : Option Addr) (c : Nat) (qs : List CVal), k ≤ al.length ∧ i = .int .i64 k ∧ Hid (MB w.heap.size 24 #[.int .i64 7, .int .i64 0, .int .i64 0, .string ⟨#[]⟩] wr (W.heap.size + 1) A c qs) ∧ Hid (Below (W.heap.size + 1) ((W.alloc (.cells #[.func (.func 85) #[] #[]] 150)).alloc (.cells #[.int .i64 7, .int .i64 0, .int .i64 0, .string ⟨#[]⟩, .slice none 0 0] 24)) wr) ∧ Hid (qs.map (·.x) = putAll (fun v => !hasV zl v) (m1 zl al bl) (al.take k))) (fun i _ => al.length - (RowKit.intOf i).toNat)
                  case atStart => exact ⟨0, A, c, qs, Nat.zero_le _, rfl, HMB, HBG, hide (by rw [HQ2.out]; rfl)⟩
                  case round =>
                    obtain ⟨k, A, c, qs, hk, rfl, HMB, HBG, HQ⟩ := hrel
                    have hBW : Below W.heap.size W wr := (bl_alloc (bl_alloc (Below.refl _ _) _) _).trans (HBG.out.mono (Nat.le_succ _))
                    have HB := hide (HF0.out.2.2.2.2.trans (hBW.mono HF0.out.2.2.2.2.size))
                    obtain ⟨-, -, -, -, zb4, zbl⟩ := HF0.out.1.below hBW
                    obtain ⟨-, -, -, -, za4, zal⟩ := HF0.out.2.1.below hBW
                    obtain ⟨-, -, -, -, zc4, zcl⟩ := HF0.out.2.2.1.below hBW
                    simp only [V.l] at zb4 za4 zc4
                    have hh : wr.cell? ⟨W.heap.size, 0, none⟩ = some (.func (.func 85) #[] #[]) := (HBG.out.cell (p := ⟨W.heap.size, 0, none⟩) (Nat.lt_succ_self _)).trans HH0.out
                    have hhl : W.heap.size < wr.heap.size := Nat.lt_trans (Nat.lt_succ_self _) HMB.out.box.lt
                    by_cases hlt : k < al.length
                    · obtain ⟨eb, eo, A9, c9, eA, hlb, y0, y1, y2, y3, y4, hle⟩ := lat_at HL1.out HB.out hlt
                      have HTK := hide (putAll_take (c := fun v => !hasV zl v) (out := m1 zl al bl) hlt)
                      have HQL := hide (show qs.length ≤ 100 by
                        have h1 := congrArg List.length HQ.out
                        rw [List.length_map] at h1
                        rw [h1]
                        exact Nat.le_trans (putAll_take_len (m := 60) (by have := HN3.out; omega) (by have := HN3.out; omega)) (by decide))
                      have HXI := hide (fun (W2 : World) (hb : Below w.heap.size w W2) => (LIn_of_at hle).frame (w' := W2) (fun b hb2 => hb.block b hb2))
                      have HH0 := hide (fun W2 (hb : Below w.heap.size w W2) => hasR_any zl al[k] A0 A9 c0 c9 W2 (HL0.out.below hb) (hle.below hb))
                      generalize hv0 : hasV zl al[k] = v0 at *
                      have HPU := hide (fun (W2 : World) (hb2 : Below wr.heap.size wr W2) => add_any w.heap.size (W.heap.size + 1) A c qs al[k] A9 c9 W2 W.heap.size ((hb2.cell (p := ⟨W.heap.size, 0, none⟩) hhl).trans hh) (Nat.lt_of_lt_of_le hhl hb2.size) (HMB.out.below hb2) (HXI.out W2 (below_chain HB.out hb2)) (by have := HQL.out; omega))
                      have HCV := hide (show (fun v => !hasV zl v) al[k] = !v0 from by simp only [hv0])
                      have i1 : (k : Int) < (al.length : Int) := by omega
                      have h20 : al.length ≤ 20 := by have := HN3.out; omega
                      have hwr := HB.out.size
                      clear hle hv0 hBW
                      generalize al[k] = x at *
                      obtain ⟨xk, xi, xt, xs, xl⟩ := x
                      simp only [V.arg, V.k, V.i, V.t, V.s, V.l] at *
                      subst eA
                      cases v0 with
                      | false =>
                        have HTK2 := hide (show putAll (fun v => !hasV zl v) (m1 zl al bl) (al.take (k + 1)) = putV (qs.map (·.x)) (.mk xk xi xt xs xl) from HTK.out.trans (by rw [HQ.out]; first | rfl | (simp; done) | (rw [HCV.out]; rfl)))
                        go_wp2_with (first | (go_at_fn 85; (with_reducible refine (HH0.out _ ?hbw).mono ?_); (case hbw => exact (below_chain HB.out (by repeat (first | with_reducible exact Below.refl _ _ | with_reducible refine bl_plus ?_ | with_reducible refine bl_alloc ?_ _ | with_reducible refine bl_drew ?_ | with_reducible refine bl_drewN ?_ _)))); rintro e w' ⟨rfl, hbl⟩; obtain ⟨os0, n0, rfl⟩ := below_plus hbl; clear hbl) | (go_at_fn 88; (refine (HPU.out _ (by repeat (first | with_reducible exact Below.refl _ _ | with_reducible refine bl_plus ?_ | with_reducible refine bl_alloc ?_ _ | with_reducible refine bl_drew ?_ | with_reducible refine bl_drewN ?_ _))).mono ?_); rintro e W9 ⟨rfl, A8, c8, qs8, hm8, hq8, hl8, hb8⟩; have HM8 := hide hm8; have HQ8 := hide hq8; have HB8 := hide ((HBG.out.trans (Below.mono (B := wr.heap.size) (by repeat (first | with_reducible exact Below.refl _ _ | with_reducible refine bl_plus ?_ | with_reducible refine bl_alloc ?_ _ | with_reducible refine bl_drew ?_ | with_reducible refine bl_drewN ?_ _)) (Nat.le_of_lt HMB.out.box.lt))).trans hb8); clear hm8 hq8 hl8 hb8))
                        go_roundw
                        case rel => exact ⟨k + 1, A8, c8, qs8, hlt, by go_num, HM8, HB8, hide (by rw [HTK2.out]; exact HQ8.out)⟩
                        case measure => simp [RowKit.intOf]; omega
                      | true =>
                        have HTK2 := hide (show putAll (fun v => !hasV zl v) (m1 zl al bl) (al.take (k + 1)) = qs.map (·.x) from HTK.out.trans (by rw [HQ.out]; first | rfl | (simp; done) | (rw [HCV.out]; rfl)))
                        clear HPU
                        go_wp2_with (first | (go_at_fn 85; (with_reducible refine (HH0.out _ ?hbw).mono ?_); (case hbw => exact (below_chain HB.out (by repeat (first | with_reducible exact Below.refl _ _ | with_reducible refine bl_plus ?_ | with_reducible refine bl_alloc ?_ _ | with_reducible refine bl_drew ?_ | with_reducible refine bl_drewN ?_ _)))); rintro e w' ⟨rfl, hbl⟩; obtain ⟨os0, n0, rfl⟩ := below_plus hbl; clear hbl))
                        go_roundw
                        case rel => exact ⟨k + 1, A, c, qs, hlt, by go_num, hide (HMB.out.below (by repeat (first | with_reducible exact Below.refl _ _ | with_reducible refine bl_plus ?_ | with_reducible refine bl_alloc ?_ _ | with_reducible refine bl_drew ?_ | with_reducible refine bl_drewN ?_ _))), hide (HBG.out.trans (Below.mono (B := wr.heap.size) (by repeat (first | with_reducible exact Below.refl _ _ | with_reducible refine bl_plus ?_ | with_reducible refine bl_alloc ?_ _ | with_reducible refine bl_drew ?_ | with_reducible refine bl_drewN ?_ _)) (Nat.le_of_lt HMB.out.box.lt))), hide HTK2.out.symm⟩
                        case measure => simp [RowKit.intOf]; omega
                    · obtain rfl : k = al.length := by omega
                      have HQ2 := hide (show qs.map (·.x) = putAll (fun v => !hasV zl v) (m1 zl al bl) al by have := HQ.out; rwa [List.take_length] at this)
                      clear HQ
                      go_wp2
                      clear hBW HB zb4 zbl za4 zal zc4 zcl hh hhl
                      go_loopw [105] (fun i wr => ∃ (k : Nat) (A : Option Addr) (c : Nat) (qs : List CVal), k ≤ bl.length ∧ i = .int .i64 k ∧ Hid (MB w.heap.size 24 #[.int .i64 7, .int .i64 0, .int .i64 0, .string ⟨#[]⟩] wr (W.heap.size + 1) A c qs) ∧ Hid (Below (W.heap.size + 1) ((W.alloc (.cells #[.func (.func 85) #[] #[]] 150)).alloc (.cells #[.int .i64 7, .int .i64 0, .int .i64 0, .string ⟨#[]⟩, .slice none 0 0] 24)) wr) ∧ Hid (qs.map (·.x) = putAll (fun v => !hasV zl v) (m2 zl al bl) (bl.take k))) (fun i _ => bl.length - (RowKit.intOf i).toNat)
                      case atStart => exact ⟨0, A, c, qs, Nat.zero_le _, rfl, HMB, HBG, hide (by rw [HQ2.out]; rfl)⟩
                      case round =>
                        obtain ⟨k, A, c, qs, hk, rfl, HMB, HBG, HQ⟩ := hrel
                        have hBW : Below W.heap.size W wr := (bl_alloc (bl_alloc (Below.refl _ _) _) _).trans (HBG.out.mono (Nat.le_succ _))
                        have HB := hide (HF0.out.2.2.2.2.trans (hBW.mono HF0.out.2.2.2.2.size))
                        obtain ⟨-, -, -, -, zb4, zbl⟩ := HF0.out.1.below hBW
                        obtain ⟨-, -, -, -, za4, zal⟩ := HF0.out.2.1.below hBW
                        obtain ⟨-, -, -, -, zc4, zcl⟩ := HF0.out.2.2.1.below hBW
                        simp only [V.l] at zb4 za4 zc4
                        have hh : wr.cell? ⟨W.heap.size, 0, none⟩ = some (.func (.func 85) #[] #[]) := (HBG.out.cell (p := ⟨W.heap.size, 0, none⟩) (Nat.lt_succ_self _)).trans HH0.out
                        have hhl : W.heap.size < wr.heap.size := Nat.lt_trans (Nat.lt_succ_self _) HMB.out.box.lt
                        by_cases hlt : k < bl.length
                        · obtain ⟨eb, eo, A9, c9, eA, hlb, y0, y1, y2, y3, y4, hle⟩ := lat_at HL2.out HB.out hlt
                          have HTK := hide (putAll_take (c := fun v => !hasV zl v) (out := m2 zl al bl) hlt)
                          have HQL := hide (show qs.length ≤ 100 by
                            have h1 := congrArg List.length HQ.out
                            rw [List.length_map] at h1
                            rw [h1]
                            exact Nat.le_trans (putAll_take_len (m := 60) (by have := HN3.out; omega) (by have := HN3.out; omega)) (by decide))
                          have HXI := hide (fun (W2 : World) (hb : Below w.heap.size w W2) => (LIn_of_at hle).frame (w' := W2) (fun b hb2 => hb.block b hb2))
                          have HH0 := hide (fun W2 (hb : Below w.heap.size w W2) => hasR_any zl bl[k] A0 A9 c0 c9 W2 (HL0.out.below hb) (hle.below hb))
                          generalize hv0 : hasV zl bl[k] = v0 at *
                          have HPU := hide (fun (W2 : World) (hb2 : Below wr.heap.size wr W2) => add_any w.heap.size (W.heap.size + 1) A c qs bl[k] A9 c9 W2 W.heap.size ((hb2.cell (p := ⟨W.heap.size, 0, none⟩) hhl).trans hh) (Nat.lt_of_lt_of_le hhl hb2.size) (HMB.out.below hb2) (HXI.out W2 (below_chain HB.out hb2)) (by have := HQL.out; omega))
                          have HCV := hide (show (fun v => !hasV zl v) bl[k] = !v0 from by simp only [hv0])
                          have i1 : (k : Int) < (bl.length : Int) := by omega
                          have h20 : bl.length ≤ 20 := by have := HN3.out; omega
                          have hwr := HB.out.size
                          clear hle hv0 hBW
                          generalize bl[k] = x at *
                          obtain ⟨xk, xi, xt, xs, xl⟩ := x
                          simp only [V.arg, V.k, V.i, V.t, V.s, V.l] at *
                          subst eA
                          cases v0 with
                          | false =>
                            have HTK2 := hide (show putAll (fun v => !hasV zl v) (m2 zl al bl) (bl.take (k + 1)) = putV (qs.map (·.x)) (.mk xk xi xt xs xl) from HTK.out.trans (by rw [HQ.out]; first | rfl | (simp; done) | (rw [HCV.out]; rfl)))
                            go_wp2_with (first | (go_at_fn 85; (with_reducible refine (HH0.out _ ?hbw).mono ?_); (case hbw => exact (below_chain HB.out (by repeat (first | with_reducible exact Below.refl _ _ | with_reducible refine bl_plus ?_ | with_reducible refine bl_alloc ?_ _ | with_reducible refine bl_drew ?_ | with_reducible refine bl_drewN ?_ _)))); rintro e w' ⟨rfl, hbl⟩; obtain ⟨os0, n0, rfl⟩ := below_plus hbl; clear hbl) | (go_at_fn 88; (refine (HPU.out _ (by repeat (first | with_reducible exact Below.refl _ _ | with_reducible refine bl_plus ?_ | with_reducible refine bl_alloc ?_ _ | with_reducible refine bl_drew ?_ | with_reducible refine bl_drewN ?_ _))).mono ?_); rintro e W9 ⟨rfl, A8, c8, qs8, hm8, hq8, hl8, hb8⟩; have HM8 := hide hm8; have HQ8 := hide hq8; have HB8 := hide ((HBG.out.trans (Below.mono (B := wr.heap.size) (by repeat (first | with_reducible exact Below.refl _ _ | with_reducible refine bl_plus ?_ | with_reducible refine bl_alloc ?_ _ | with_reducible refine bl_drew ?_ | with_reducible refine bl_drewN ?_ _)) (Nat.le_of_lt HMB.out.box.lt))).trans hb8); clear hm8 hq8 hl8 hb8))
                            go_roundw
                            case rel => exact ⟨k + 1, A8, c8, qs8, hlt, by go_num, HM8, HB8, hide (by rw [HTK2.out]; exact HQ8.out)⟩
                            case measure => simp [RowKit.intOf]; omega
                          | true =>
                            have HTK2 := hide (show putAll (fun v => !hasV zl v) (m2 zl al bl) (bl.take (k + 1)) = qs.map (·.x) from HTK.out.trans (by rw [HQ.out]; first | rfl | (simp; done) | (rw [HCV.out]; rfl)))
                            clear HPU
                            go_wp2_with (first | (go_at_fn 85; (with_reducible refine (HH0.out _ ?hbw).mono ?_); (case hbw => exact (below_chain HB.out (by repeat (first | with_reducible exact Below.refl _ _ | with_reducible refine bl_plus ?_ | with_reducible refine bl_alloc ?_ _ | with_reducible refine bl_drew ?_ | with_reducible refine bl_drewN ?_ _)))); rintro e w' ⟨rfl, hbl⟩; obtain ⟨os0, n0, rfl⟩ := below_plus hbl; clear hbl))
                            go_roundw
                            case rel => exact ⟨k + 1, A, c, qs, hlt, by go_num, hide (HMB.out.below (by repeat (first | with_reducible exact Below.refl _ _ | with_reducible refine bl_plus ?_ | with_reducible refine bl_alloc ?_ _ | with_reducible refine bl_drew ?_ | with_reducible refine bl_drewN ?_ _))), hide (HBG.out.trans (Below.mono (B := wr.heap.size) (by repeat (first | with_reducible exact Below.refl _ _ | with_reducible refine bl_plus ?_ | with_reducible refine bl_alloc ?_ _ | with_reducible refine bl_drew ?_ | with_reducible refine bl_drewN ?_ _)) (Nat.le_of_lt HMB.out.box.lt))), hide HTK2.out.symm⟩
                            case measure => simp [RowKit.intOf]; omega
                        · obtain rfl : k = bl.length := by omega
                          have HQ2 := hide (show qs.map (·.x) = putAll (fun v => !hasV zl v) (m2 zl al bl) bl by have := HQ.out; rwa [List.take_length] at this)
                          clear HQ
                          have HMI := hide (show qs.map (·.x) = mItems zl al bl by rw [HQ2.out, mItems_ref])
                          have hrb := HF0.out.2.2.2.1.below hBW HRS.out
                          have HRS2 := hide hrb
                          obtain ⟨y0, y1, y2, y3, y4, yl⟩ := HF0.out.2.1.below hBW
                          obtain ⟨x0, x1, x2, x3, x4, xl9⟩ := HF0.out.2.2.1.below hBW
                          obtain ⟨s0, s1, s2, s3, s4, hrl, r0, r1, r2, r3, r4⟩ := blkM_frozen (HF0.out.2.2.2.1.below hBW HRS.out)
                          simp only [V.k, V.i, V.t, V.s, V.l] at y0 y1 y2 y3 y4 x0 x1 x2 x3 x4
                          have HQ9 := hide (show qs.length = (mItems zl al bl).length by rw [← HMI.out, List.length_map])
                          have v0 : wr.cell? ⟨W.heap.size + 1, 0, none⟩ = some (.int .i64 7) := HMB.out.box.cell 0
                          have v1 : wr.cell? ⟨W.heap.size + 1, 1, none⟩ = some (.int .i64 0) := HMB.out.box.cell 1
                          have v2 : wr.cell? ⟨W.heap.size + 1, 2, none⟩ = some (.int .i64 0) := HMB.out.box.cell 2
                          have v3 : wr.cell? ⟨W.heap.size + 1, 3, none⟩ = some (.string ⟨#[]⟩) := HMB.out.box.cell 3
                          have v4 : wr.cell? ⟨W.heap.size + 1, 4, none⟩ = some (.slice A qs.length c) := HMB.out.box.cell 4
                          have hvl := HMB.out.box.lt
                          have hws := HRS.out
                          clear hrb hBW zb4 zbl za4 zal zc4 zcl hh hhl
                          by_cases hlen : qs.length ≤ 20
                          · have hle : (qs.length : Int) ≤ 20 := by omega
                            obtain rfl : R = (.mk 7 0 0 ⟨#[]⟩ (mItems zl al bl), true) := by rw [← HR.out, if_pos ⟨rfl, by have := HQ9.out; omega⟩]; rfl
                            clear HR hlen
                            go_wp2
                            (try simp only [Exit.inBlock, Exit.then])
                            refine bodyPost_ret (res_cellM (P := Tryz.prog) (fn := Tryz.f46) (p := 6) (u := 7) rfl _ _ _ 24 #[.int .i64 7, .int .i64 0, .int .i64 0, .string ⟨#[]⟩, .slice A qs.length c] (0, 0) _ rfl (fiveM_set HRS2.out) Tryz.underlying24 rfl (by kernel_rfl)) rfl ?_
                            refine ⟨A, c, ?_, ?_, fiveM_below HB.out (by omega)⟩
                            · show Ending.returned (.tuple #[.agg #[.int .i64 7, .int .i64 0, .int .i64 0, .string ⟨#[]⟩, .slice A qs.length c], .bool true]) = Ending.returned (.tuple #[.agg #[.int .i64 7, .int .i64 0, .int .i64 0, .string ⟨#[]⟩, .slice A (mItems zl al bl).length c], .bool true])
                              rw [HQ9.out]
                            · obtain ⟨-, -, -, -, -, -, h2⟩ := HMB.out.own.lin (P := fun b => b < w.heap.size ∨ (w.heap.size + 1 + 1 + 1 + 1 ≤ b ∧ b < wr.heap.size)) (fun b hb1 hb2 => .inr ⟨by omega, hb2⟩) (fun q hq => (HMB.out.ins q hq).mono fun b hb => .inl hb)
                              rw [HMI.out] at h2
                              exact fiveM_lat h2 (by omega) HB.out.size
                          · have hle : ¬ (qs.length : Int) ≤ 20 := by omega
                            have HN9 := hide (show ¬ ((true && true && true) = true ∧ (mItems zl al bl).length ≤ 20) from fun h => hlen (by rw [HQ9.out]; exact h.2))
                            cases hk : (ak == 0) with
                            | true =>
                              obtain rfl : R = (.mk bk bi bt bs bl, false) := by rw [← HR.out, if_neg HN9.out, if_neg (by simpa using hk)]; rfl
                              clear HR
                              go_wp2
                              refine bodyPost_ret (res_cellM (P := Tryz.prog) (fn := Tryz.f46) (p := 6) (u := 7) rfl _ _ _ 24 #[.int .i64 bk, .int .i64 bi, .int .i64 bt, .string bs, .slice A2 bl.length c2] (0, 0) _ rfl (fiveM_set HRS2.out) Tryz.underlying24 rfl (by kernel_rfl)) rfl ?_
                              exact ⟨A2, c2, rfl, fiveM_lat ((LIn_of_at HL2.out).frame (fun b hb => HB.out.block b hb) |>.mono fun b hb => .inl hb) (by omega) HB.out.size, fiveM_below HB.out (by omega)⟩
                            | false =>
                              obtain rfl : R = (.mk ak ai at_ as_ al, false) := by rw [← HR.out, if_neg HN9.out, if_pos (by simpa using hk)]; rfl
                              clear HR
                              go_wp2
                              refine bodyPost_ret (res_cellM (P := Tryz.prog) (fn := Tryz.f46) (p := 6) (u := 7) rfl _ _ _ 24 #[.int .i64 ak, .int .i64 ai, .int .i64 at_, .string as_, .slice A1 al.length c1] (0, 0) _ rfl (fiveM_set HRS2.out) Tryz.underlying24 rfl (by kernel_rfl)) rfl ?_
                              exact ⟨A1, c1, rfl, fiveM_lat ((LIn_of_at HL1.out).frame (fun b hb => HB.out.block b hb) |>.mono fun b hb => .inl hb) (by omega) HB.out.size, fiveM_below HB.out (by omega)⟩


end Go.Proofs.YtdncmjlakmkfiaaGreatDoor
