/-
  WALK: the items of three lists that come together, in the program.
-/
import Derived.Test.YtdncmjlakmkfiaaGreatDoorMgd
set_option linter.all false
namespace Go.Proofs.YtdncmjlakmkfiaaGreatDoor
open Go.RowKit

theorem putAll_snoc {c : V → Bool} {v : V} : ∀ (l out : List V), putAll c out (l ++ [v]) = if c v = true then putV (putAll c out l) v else putAll c out l
  | [], _ => rfl
  | _ :: l, _ => putAll_snoc l _

theorem putAll_take {c : V → Bool} {out l : List V} {k : Nat} (h : k < l.length) : putAll c out (l.take (k + 1)) = if c l[k] = true then putV (putAll c out (l.take k)) l[k] else putAll c out (l.take k) := by
  rw [List.take_succ_eq_append_getElem h, putAll_snoc]

theorem putAll_take_len {c : V → Bool} {out l : List V} {k m : Nat} (h : out.length ≤ m) (hl : l.length ≤ 20) : (putAll c out (l.take k)).length ≤ m + 20 := by
  have h1 := putAll_len (c := c) (l.take k) out
  rw [List.length_take] at h1
  omega

/-- Items in memory that a function was handed, at a later world. -/
theorem lat_at {w W : World} {A : Option Addr} {l : List V} (h : LAt w A l) (hb : Below w.heap.size w W) {k : Nat} (hk : k < l.length) : ∃ b o A2 c2, A = some ⟨b, o, none⟩ ∧ b < w.heap.size ∧ W.cell? ⟨b, o + k * 5, none⟩ = some (.int .i64 l[k].k) ∧ W.cell? ⟨b, o + k * 5 + 1, none⟩ = some (.int .i64 l[k].i) ∧ W.cell? ⟨b, o + k * 5 + 2, none⟩ = some (.int .i64 l[k].t) ∧ W.cell? ⟨b, o + k * 5 + 3, none⟩ = some (.string l[k].s) ∧ W.cell? ⟨b, o + k * 5 + 4, none⟩ = some (.slice A2 l[k].l.length c2) ∧ LAt w A2 l[k].l := by
  obtain ⟨b, o, hA, hlt, hv⟩ := h.2 (by omega)
  obtain ⟨c0, c1, c2, c3, A2, e2, c4, hl⟩ := VAt_iff.1 (hv k hk)
  exact ⟨b, o, A2, e2, hA, hlt, (hb.cell (p := ⟨b, o + k * 5, none⟩) hlt).trans c0, (hb.cell (p := ⟨b, o + k * 5 + 1, none⟩) hlt).trans c1, (hb.cell (p := ⟨b, o + k * 5 + 2, none⟩) hlt).trans c2, (hb.cell (p := ⟨b, o + k * 5 + 3, none⟩) hlt).trans c3, (hb.cell (p := ⟨b, o + k * 5 + 4, none⟩) hlt).trans c4, hl⟩

/-- What mergedItems hands out. -/
def MiOut (w0 : World) (l : List V) (w : World) (e : Ending) (w' : World) : Prop := ∃ A c, e = .returned (.slice A l.length c) ∧ LIn w' (fun b => b < w0.heap.size ∨ (w.heap.size ≤ b ∧ b < w'.heap.size)) A l ∧ Below w.heap.size w w'

theorem mb_new (w0 w : World) (h : w0.heap.size ≤ w.heap.size) : MB w0.heap.size 22 #[] (w.alloc (.cells #[.slice none 0 0] 22)) w.heap.size none 0 [] :=
  ⟨Blk.new w _ _, OwnK.empty, (fun q hq => by cases hq), h⟩

set_option maxHeartbeats 3200000 in
set_option maxRecDepth 100000 in
theorem mergedItems_any (base a b : List V) (A0 A1 A2 : Option Addr) (c0 c1 c2 : Nat) (w0 w : World) (hb0 : Below w0.heap.size w0 w) (h0 : LAt w0 A0 base) (h1 : LAt w0 A1 a) (h2 : LAt w0 A2 b) (hn : base.length ≤ 20 ∧ a.length ≤ 20 ∧ b.length ≤ 20) :
    Calls Tryz.prog 80 #[.slice A0 base.length c0, .slice A1 a.length c1, .slice A2 b.length c2] w (MiOut w0 (mItems base a b) w) := by
  have HB0 := hide hb0
  have HL0 := hide h0
  have HL1 := hide h1
  have HL2 := hide h2
  have HN3 := hide (show base.length ≤ 20 ∧ a.length ≤ 20 ∧ b.length ≤ 20 ∧ (m1 base a b).length ≤ 20 ∧ (m2 base a b).length ≤ 40 ∧ ([] : List V).length = 0 from ⟨hn.1, hn.2.1, hn.2.2, by have := putAll_len (c := fun v => hasV a v && hasV b v) base []; unfold m1; simp only [List.length_nil] at this; omega, by have := putAll_len (c := fun v => hasV a v && hasV b v) base []; have h9 := putAll_len (c := fun v => !hasV base v) a (m1 base a b); unfold m2; unfold m1 at h9 ⊢; simp only [List.length_nil] at this; omega, rfl⟩)
  have ent : ∀ args w, (callFunc 127 args).run Tryz.prog w = .ok (.enter 127 args) w := fun args w => Go.Proofs.enters_of Tryz.func127 (by kernel_rfl) rfl args w
  clear h0 h1 h2 hn hb0
  go_enter Tryz.func80, Tryz.ntmps80
  go_wp2
  go_loopw [18] (fun i wr => ∃ (k : Nat) (A : Option Addr) (c : Nat) (qs : List CVal), k ≤ base.length ∧ i = .int .i64 k ∧ Hid (MB w0.heap.size 22 #[] wr w.heap.size A c qs) ∧ Hid (Below w.heap.size w wr) ∧ Hid (qs.map (·.x) = putAll (fun v => hasV a v && hasV b v) ([]) (base.take k))) (fun i _ => base.length - (RowKit.intOf i).toNat)
  case atStart => exact ⟨0, none, 0, [], Nat.zero_le _, rfl, hide (mb_new w0 w HB0.out.size), hide (bl_alloc (Below.refl _ _) _), hide rfl⟩
  case round =>
    obtain ⟨k, A, c, qs, hk, rfl, HMB, HB, HQ⟩ := hrel
    by_cases hlt : k < base.length
    · obtain ⟨eb, eo, A9, c9, eA, hlb, y0, y1, y2, y3, y4, hle⟩ := lat_at HL0.out (below_chain HB0.out HB.out) hlt
      have HTK := hide (putAll_take (c := fun v => hasV a v && hasV b v) (out := []) hlt)
      have HQL := hide (show qs.length ≤ 100 by
        have h1 := congrArg List.length HQ.out
        rw [List.length_map] at h1
        rw [h1]
        exact Nat.le_trans (putAll_take_len (m := 60) (by have := HN3.out; omega) (by have := HN3.out; omega)) (by decide))
      have HXI := hide (fun (W : World) (hb : Below w.heap.size w W) => (LIn_of_at hle).frame (w' := W) (fun b hb2 => (below_chain HB0.out hb).block b hb2))
      have HH0 := hide (fun W (hb : Below w.heap.size w W) => has_any a base[k] A1 A9 c1 c9 W (HL1.out.below (below_chain HB0.out hb)) (hle.below (below_chain HB0.out hb)))
      generalize hv0 : hasV a base[k] = v0 at *
      have HH1 := hide (fun W (hb : Below w.heap.size w W) => has_any b base[k] A2 A9 c2 c9 W (HL2.out.below (below_chain HB0.out hb)) (hle.below (below_chain HB0.out hb)))
      generalize hv1 : hasV b base[k] = v1 at *
      have HPU := hide (fun (W : World) (hb : Below w.heap.size w W) (hm : MB w0.heap.size 22 #[] W w.heap.size A c qs) => put_any w0.heap.size w.heap.size A c qs base[k] A9 c9 W hm (HXI.out W hb) (by have := HQL.out; omega))
      have HCV := hide (show (fun v => hasV a v && hasV b v) base[k] = (v0 && v1) from by simp only [hv0, hv1])
      have i1 : (k : Int) < (base.length : Int) := by omega
      have h20 : base.length ≤ 20 := by have := HN3.out; omega
      have hwr := HB.out.size
      clear hle hv0 hv1
      generalize base[k] = x at *
      obtain ⟨xk, xi, xt, xs, xl⟩ := x
      simp only [V.arg, V.k, V.i, V.t, V.s, V.l] at *
      subst eA
      cases v0 with
      | false =>
        have HCV := hide (HCV.out.trans (by simp : _ = false))
        clear HH1
        have HTK2 := hide (show putAll (fun v => hasV a v && hasV b v) ([]) (base.take (k + 1)) = qs.map (·.x) from HTK.out.trans (by rw [HQ.out]; first | rfl | (simp; done) | (rw [HCV.out]; rfl)))
        clear HPU
        go_wp2_with (first | (go_at_call 128; (refine (HH0.out _ (below_chain HB.out (by repeat (first | with_reducible exact Below.refl _ _ | with_reducible refine bl_plus ?_ | with_reducible refine bl_alloc ?_ _ | with_reducible refine bl_drew ?_ | with_reducible refine bl_drewN ?_ _)))).mono ?_); rintro e w' ⟨rfl, hbl⟩; obtain ⟨os0, n0, rfl⟩ := below_plus hbl; clear hbl))
        go_roundw
        case rel => exact ⟨k + 1, A, c, qs, hlt, by go_num, hide (HMB.out.below (by repeat (first | with_reducible exact Below.refl _ _ | with_reducible refine bl_plus ?_ | with_reducible refine bl_alloc ?_ _ | with_reducible refine bl_drew ?_ | with_reducible refine bl_drewN ?_ _))), hide (below_chain HB.out (by repeat (first | with_reducible exact Below.refl _ _ | with_reducible refine bl_plus ?_ | with_reducible refine bl_alloc ?_ _ | with_reducible refine bl_drew ?_ | with_reducible refine bl_drewN ?_ _))), hide HTK2.out.symm⟩
        case measure => simp [RowKit.intOf]; omega
      | true =>
        cases v1 with
        | false =>
          have HTK2 := hide (show putAll (fun v => hasV a v && hasV b v) ([]) (base.take (k + 1)) = qs.map (·.x) from HTK.out.trans (by rw [HQ.out]; first | rfl | (simp; done) | (rw [HCV.out]; rfl)))
          clear HPU
          go_wp2_with (first | (go_at_call 128; (refine (HH0.out _ (below_chain HB.out (by repeat (first | with_reducible exact Below.refl _ _ | with_reducible refine bl_plus ?_ | with_reducible refine bl_alloc ?_ _ | with_reducible refine bl_drew ?_ | with_reducible refine bl_drewN ?_ _)))).mono ?_); rintro e w' ⟨rfl, hbl⟩; obtain ⟨os0, n0, rfl⟩ := below_plus hbl; clear hbl) | (go_at_call 128; (refine (HH1.out _ (below_chain HB.out (by repeat (first | with_reducible exact Below.refl _ _ | with_reducible refine bl_plus ?_ | with_reducible refine bl_alloc ?_ _ | with_reducible refine bl_drew ?_ | with_reducible refine bl_drewN ?_ _)))).mono ?_); rintro e w' ⟨rfl, hbl⟩; obtain ⟨os1, n1, rfl⟩ := below_plus hbl; clear hbl))
          go_roundw
          case rel => exact ⟨k + 1, A, c, qs, hlt, by go_num, hide (HMB.out.below (by repeat (first | with_reducible exact Below.refl _ _ | with_reducible refine bl_plus ?_ | with_reducible refine bl_alloc ?_ _ | with_reducible refine bl_drew ?_ | with_reducible refine bl_drewN ?_ _))), hide (below_chain HB.out (by repeat (first | with_reducible exact Below.refl _ _ | with_reducible refine bl_plus ?_ | with_reducible refine bl_alloc ?_ _ | with_reducible refine bl_drew ?_ | with_reducible refine bl_drewN ?_ _))), hide HTK2.out.symm⟩
          case measure => simp [RowKit.intOf]; omega
        | true =>
          have HTK2 := hide (show putAll (fun v => hasV a v && hasV b v) ([]) (base.take (k + 1)) = putV (qs.map (·.x)) (.mk xk xi xt xs xl) from HTK.out.trans (by rw [HQ.out]; first | rfl | (simp; done) | (rw [HCV.out]; rfl)))
          go_wp2_with (first | (go_at_call 128; (refine (HH0.out _ (below_chain HB.out (by repeat (first | with_reducible exact Below.refl _ _ | with_reducible refine bl_plus ?_ | with_reducible refine bl_alloc ?_ _ | with_reducible refine bl_drew ?_ | with_reducible refine bl_drewN ?_ _)))).mono ?_); rintro e w' ⟨rfl, hbl⟩; obtain ⟨os0, n0, rfl⟩ := below_plus hbl; clear hbl) | (go_at_call 128; (refine (HH1.out _ (below_chain HB.out (by repeat (first | with_reducible exact Below.refl _ _ | with_reducible refine bl_plus ?_ | with_reducible refine bl_alloc ?_ _ | with_reducible refine bl_drew ?_ | with_reducible refine bl_drewN ?_ _)))).mono ?_); rintro e w' ⟨rfl, hbl⟩; obtain ⟨os1, n1, rfl⟩ := below_plus hbl; clear hbl) | (go_at_fn 127; (refine (HPU.out _ (below_chain HB.out (by repeat (first | with_reducible exact Below.refl _ _ | with_reducible refine bl_plus ?_ | with_reducible refine bl_alloc ?_ _ | with_reducible refine bl_drew ?_ | with_reducible refine bl_drewN ?_ _))) (HMB.out.below (by repeat (first | with_reducible exact Below.refl _ _ | with_reducible refine bl_plus ?_ | with_reducible refine bl_alloc ?_ _ | with_reducible refine bl_drew ?_ | with_reducible refine bl_drewN ?_ _)))).mono ?_); rintro e W9 ⟨rfl, A8, c8, qs8, hm8, hq8, hl8, hb8⟩; have HM8 := hide hm8; have HQ8 := hide hq8; have HB8 := hide ((below_chain HB.out (by repeat (first | with_reducible exact Below.refl _ _ | with_reducible refine bl_plus ?_ | with_reducible refine bl_alloc ?_ _ | with_reducible refine bl_drew ?_ | with_reducible refine bl_drewN ?_ _))).trans hb8); clear hm8 hq8 hl8 hb8))
          go_roundw
          case rel => exact ⟨k + 1, A8, c8, qs8, hlt, by go_num, HM8, HB8, hide (by rw [HTK2.out]; exact HQ8.out)⟩
          case measure => simp [RowKit.intOf]; omega
    · obtain rfl : k = base.length := by omega
      have HQ2 := hide (show qs.map (·.x) = putAll (fun v => hasV a v && hasV b v) ([]) base by have := HQ.out; rwa [List.take_length] at this)
      clear HQ
      go_wp2
      go_loopw [36] (fun i wr => ∃ (k : Nat) (A : Option Addr) (c : Nat) (qs : List CVal), k ≤ a.length ∧ i = .int .i64 k ∧ Hid (MB w0.heap.size 22 #[] wr w.heap.size A c qs) ∧ Hid (Below w.heap.size w wr) ∧ Hid (qs.map (·.x) = putAll (fun v => !hasV base v) (m1 base a b) (a.take k))) (fun i _ => a.length - (RowKit.intOf i).toNat)
      case atStart => exact ⟨0, A, c, qs, Nat.zero_le _, rfl, HMB, HB, hide (by rw [HQ2.out]; rfl)⟩
      case round =>
        obtain ⟨k, A, c, qs, hk, rfl, HMB, HB, HQ⟩ := hrel
        by_cases hlt : k < a.length
        · obtain ⟨eb, eo, A9, c9, eA, hlb, y0, y1, y2, y3, y4, hle⟩ := lat_at HL1.out (below_chain HB0.out HB.out) hlt
          have HTK := hide (putAll_take (c := fun v => !hasV base v) (out := m1 base a b) hlt)
          have HQL := hide (show qs.length ≤ 100 by
            have h1 := congrArg List.length HQ.out
            rw [List.length_map] at h1
            rw [h1]
            exact Nat.le_trans (putAll_take_len (m := 60) (by have := HN3.out; omega) (by have := HN3.out; omega)) (by decide))
          have HXI := hide (fun (W : World) (hb : Below w.heap.size w W) => (LIn_of_at hle).frame (w' := W) (fun b hb2 => (below_chain HB0.out hb).block b hb2))
          have HH0 := hide (fun W (hb : Below w.heap.size w W) => has_any base a[k] A0 A9 c0 c9 W (HL0.out.below (below_chain HB0.out hb)) (hle.below (below_chain HB0.out hb)))
          generalize hv0 : hasV base a[k] = v0 at *
          have HPU := hide (fun (W : World) (hb : Below w.heap.size w W) (hm : MB w0.heap.size 22 #[] W w.heap.size A c qs) => put_any w0.heap.size w.heap.size A c qs a[k] A9 c9 W hm (HXI.out W hb) (by have := HQL.out; omega))
          have HCV := hide (show (fun v => !hasV base v) a[k] = !v0 from by simp only [hv0])
          have i1 : (k : Int) < (a.length : Int) := by omega
          have h20 : a.length ≤ 20 := by have := HN3.out; omega
          have hwr := HB.out.size
          clear hle hv0
          generalize a[k] = x at *
          obtain ⟨xk, xi, xt, xs, xl⟩ := x
          simp only [V.arg, V.k, V.i, V.t, V.s, V.l] at *
          subst eA
          cases v0 with
          | false =>
            have HTK2 := hide (show putAll (fun v => !hasV base v) (m1 base a b) (a.take (k + 1)) = putV (qs.map (·.x)) (.mk xk xi xt xs xl) from HTK.out.trans (by rw [HQ.out]; first | rfl | (simp; done) | (rw [HCV.out]; rfl)))
            go_wp2_with (first | (go_at_call 128; (refine (HH0.out _ (below_chain HB.out (by repeat (first | with_reducible exact Below.refl _ _ | with_reducible refine bl_plus ?_ | with_reducible refine bl_alloc ?_ _ | with_reducible refine bl_drew ?_ | with_reducible refine bl_drewN ?_ _)))).mono ?_); rintro e w' ⟨rfl, hbl⟩; obtain ⟨os0, n0, rfl⟩ := below_plus hbl; clear hbl) | (go_at_fn 127; (refine (HPU.out _ (below_chain HB.out (by repeat (first | with_reducible exact Below.refl _ _ | with_reducible refine bl_plus ?_ | with_reducible refine bl_alloc ?_ _ | with_reducible refine bl_drew ?_ | with_reducible refine bl_drewN ?_ _))) (HMB.out.below (by repeat (first | with_reducible exact Below.refl _ _ | with_reducible refine bl_plus ?_ | with_reducible refine bl_alloc ?_ _ | with_reducible refine bl_drew ?_ | with_reducible refine bl_drewN ?_ _)))).mono ?_); rintro e W9 ⟨rfl, A8, c8, qs8, hm8, hq8, hl8, hb8⟩; have HM8 := hide hm8; have HQ8 := hide hq8; have HB8 := hide ((below_chain HB.out (by repeat (first | with_reducible exact Below.refl _ _ | with_reducible refine bl_plus ?_ | with_reducible refine bl_alloc ?_ _ | with_reducible refine bl_drew ?_ | with_reducible refine bl_drewN ?_ _))).trans hb8); clear hm8 hq8 hl8 hb8))
            go_roundw
            case rel => exact ⟨k + 1, A8, c8, qs8, hlt, by go_num, HM8, HB8, hide (by rw [HTK2.out]; exact HQ8.out)⟩
            case measure => simp [RowKit.intOf]; omega
          | true =>
            have HTK2 := hide (show putAll (fun v => !hasV base v) (m1 base a b) (a.take (k + 1)) = qs.map (·.x) from HTK.out.trans (by rw [HQ.out]; first | rfl | (simp; done) | (rw [HCV.out]; rfl)))
            clear HPU
            go_wp2_with (first | (go_at_call 128; (refine (HH0.out _ (below_chain HB.out (by repeat (first | with_reducible exact Below.refl _ _ | with_reducible refine bl_plus ?_ | with_reducible refine bl_alloc ?_ _ | with_reducible refine bl_drew ?_ | with_reducible refine bl_drewN ?_ _)))).mono ?_); rintro e w' ⟨rfl, hbl⟩; obtain ⟨os0, n0, rfl⟩ := below_plus hbl; clear hbl))
            go_roundw
            case rel => exact ⟨k + 1, A, c, qs, hlt, by go_num, hide (HMB.out.below (by repeat (first | with_reducible exact Below.refl _ _ | with_reducible refine bl_plus ?_ | with_reducible refine bl_alloc ?_ _ | with_reducible refine bl_drew ?_ | with_reducible refine bl_drewN ?_ _))), hide (below_chain HB.out (by repeat (first | with_reducible exact Below.refl _ _ | with_reducible refine bl_plus ?_ | with_reducible refine bl_alloc ?_ _ | with_reducible refine bl_drew ?_ | with_reducible refine bl_drewN ?_ _))), hide HTK2.out.symm⟩
            case measure => simp [RowKit.intOf]; omega
        · obtain rfl : k = a.length := by omega
          have HQ2 := hide (show qs.map (·.x) = putAll (fun v => !hasV base v) (m1 base a b) a by have := HQ.out; rwa [List.take_length] at this)
          clear HQ
          go_wp2
          go_loopw [50] (fun i wr => ∃ (k : Nat) (A : Option Addr) (c : Nat) (qs : List CVal), k ≤ b.length ∧ i = .int .i64 k ∧ Hid (MB w0.heap.size 22 #[] wr w.heap.size A c qs) ∧ Hid (Below w.heap.size w wr) ∧ Hid (qs.map (·.x) = putAll (fun v => !hasV base v && !hasV a v) (m2 base a b) (b.take k))) (fun i _ => b.length - (RowKit.intOf i).toNat)
          case atStart => exact ⟨0, A, c, qs, Nat.zero_le _, rfl, HMB, HB, hide (by rw [HQ2.out]; rfl)⟩
          case round =>
            obtain ⟨k, A, c, qs, hk, rfl, HMB, HB, HQ⟩ := hrel
            by_cases hlt : k < b.length
            · obtain ⟨eb, eo, A9, c9, eA, hlb, y0, y1, y2, y3, y4, hle⟩ := lat_at HL2.out (below_chain HB0.out HB.out) hlt
              have HTK := hide (putAll_take (c := fun v => !hasV base v && !hasV a v) (out := m2 base a b) hlt)
              have HQL := hide (show qs.length ≤ 100 by
                have h1 := congrArg List.length HQ.out
                rw [List.length_map] at h1
                rw [h1]
                exact Nat.le_trans (putAll_take_len (m := 60) (by have := HN3.out; omega) (by have := HN3.out; omega)) (by decide))
              have HXI := hide (fun (W : World) (hb : Below w.heap.size w W) => (LIn_of_at hle).frame (w' := W) (fun b hb2 => (below_chain HB0.out hb).block b hb2))
              have HH0 := hide (fun W (hb : Below w.heap.size w W) => has_any base b[k] A0 A9 c0 c9 W (HL0.out.below (below_chain HB0.out hb)) (hle.below (below_chain HB0.out hb)))
              generalize hv0 : hasV base b[k] = v0 at *
              have HH1 := hide (fun W (hb : Below w.heap.size w W) => has_any a b[k] A1 A9 c1 c9 W (HL1.out.below (below_chain HB0.out hb)) (hle.below (below_chain HB0.out hb)))
              generalize hv1 : hasV a b[k] = v1 at *
              have HPU := hide (fun (W : World) (hb : Below w.heap.size w W) (hm : MB w0.heap.size 22 #[] W w.heap.size A c qs) => put_any w0.heap.size w.heap.size A c qs b[k] A9 c9 W hm (HXI.out W hb) (by have := HQL.out; omega))
              have HCV := hide (show (fun v => !hasV base v && !hasV a v) b[k] = (!v0 && !v1) from by simp only [hv0, hv1])
              have i1 : (k : Int) < (b.length : Int) := by omega
              have h20 : b.length ≤ 20 := by have := HN3.out; omega
              have hwr := HB.out.size
              clear hle hv0 hv1
              generalize b[k] = x at *
              obtain ⟨xk, xi, xt, xs, xl⟩ := x
              simp only [V.arg, V.k, V.i, V.t, V.s, V.l] at *
              subst eA
              cases v0 with
              | false =>
                cases v1 with
                | false =>
                  have HTK2 := hide (show putAll (fun v => !hasV base v && !hasV a v) (m2 base a b) (b.take (k + 1)) = putV (qs.map (·.x)) (.mk xk xi xt xs xl) from HTK.out.trans (by rw [HQ.out]; first | rfl | (simp; done) | (rw [HCV.out]; rfl)))
                  go_wp2_with (first | (go_at_call 128; (refine (HH0.out _ (below_chain HB.out (by repeat (first | with_reducible exact Below.refl _ _ | with_reducible refine bl_plus ?_ | with_reducible refine bl_alloc ?_ _ | with_reducible refine bl_drew ?_ | with_reducible refine bl_drewN ?_ _)))).mono ?_); rintro e w' ⟨rfl, hbl⟩; obtain ⟨os0, n0, rfl⟩ := below_plus hbl; clear hbl) | (go_at_call 128; (refine (HH1.out _ (below_chain HB.out (by repeat (first | with_reducible exact Below.refl _ _ | with_reducible refine bl_plus ?_ | with_reducible refine bl_alloc ?_ _ | with_reducible refine bl_drew ?_ | with_reducible refine bl_drewN ?_ _)))).mono ?_); rintro e w' ⟨rfl, hbl⟩; obtain ⟨os1, n1, rfl⟩ := below_plus hbl; clear hbl) | (go_at_fn 127; (refine (HPU.out _ (below_chain HB.out (by repeat (first | with_reducible exact Below.refl _ _ | with_reducible refine bl_plus ?_ | with_reducible refine bl_alloc ?_ _ | with_reducible refine bl_drew ?_ | with_reducible refine bl_drewN ?_ _))) (HMB.out.below (by repeat (first | with_reducible exact Below.refl _ _ | with_reducible refine bl_plus ?_ | with_reducible refine bl_alloc ?_ _ | with_reducible refine bl_drew ?_ | with_reducible refine bl_drewN ?_ _)))).mono ?_); rintro e W9 ⟨rfl, A8, c8, qs8, hm8, hq8, hl8, hb8⟩; have HM8 := hide hm8; have HQ8 := hide hq8; have HB8 := hide ((below_chain HB.out (by repeat (first | with_reducible exact Below.refl _ _ | with_reducible refine bl_plus ?_ | with_reducible refine bl_alloc ?_ _ | with_reducible refine bl_drew ?_ | with_reducible refine bl_drewN ?_ _))).trans hb8); clear hm8 hq8 hl8 hb8))
                  go_roundw
                  case rel => exact ⟨k + 1, A8, c8, qs8, hlt, by go_num, HM8, HB8, hide (by rw [HTK2.out]; exact HQ8.out)⟩
                  case measure => simp [RowKit.intOf]; omega
                | true =>
                  have HTK2 := hide (show putAll (fun v => !hasV base v && !hasV a v) (m2 base a b) (b.take (k + 1)) = qs.map (·.x) from HTK.out.trans (by rw [HQ.out]; first | rfl | (simp; done) | (rw [HCV.out]; rfl)))
                  clear HPU
                  go_wp2_with (first | (go_at_call 128; (refine (HH0.out _ (below_chain HB.out (by repeat (first | with_reducible exact Below.refl _ _ | with_reducible refine bl_plus ?_ | with_reducible refine bl_alloc ?_ _ | with_reducible refine bl_drew ?_ | with_reducible refine bl_drewN ?_ _)))).mono ?_); rintro e w' ⟨rfl, hbl⟩; obtain ⟨os0, n0, rfl⟩ := below_plus hbl; clear hbl) | (go_at_call 128; (refine (HH1.out _ (below_chain HB.out (by repeat (first | with_reducible exact Below.refl _ _ | with_reducible refine bl_plus ?_ | with_reducible refine bl_alloc ?_ _ | with_reducible refine bl_drew ?_ | with_reducible refine bl_drewN ?_ _)))).mono ?_); rintro e w' ⟨rfl, hbl⟩; obtain ⟨os1, n1, rfl⟩ := below_plus hbl; clear hbl))
                  go_roundw
                  case rel => exact ⟨k + 1, A, c, qs, hlt, by go_num, hide (HMB.out.below (by repeat (first | with_reducible exact Below.refl _ _ | with_reducible refine bl_plus ?_ | with_reducible refine bl_alloc ?_ _ | with_reducible refine bl_drew ?_ | with_reducible refine bl_drewN ?_ _))), hide (below_chain HB.out (by repeat (first | with_reducible exact Below.refl _ _ | with_reducible refine bl_plus ?_ | with_reducible refine bl_alloc ?_ _ | with_reducible refine bl_drew ?_ | with_reducible refine bl_drewN ?_ _))), hide HTK2.out.symm⟩
                  case measure => simp [RowKit.intOf]; omega
              | true =>
                have HCV := hide (HCV.out.trans (by simp : _ = false))
                clear HH1
                have HTK2 := hide (show putAll (fun v => !hasV base v && !hasV a v) (m2 base a b) (b.take (k + 1)) = qs.map (·.x) from HTK.out.trans (by rw [HQ.out]; first | rfl | (simp; done) | (rw [HCV.out]; rfl)))
                clear HPU
                go_wp2_with (first | (go_at_call 128; (refine (HH0.out _ (below_chain HB.out (by repeat (first | with_reducible exact Below.refl _ _ | with_reducible refine bl_plus ?_ | with_reducible refine bl_alloc ?_ _ | with_reducible refine bl_drew ?_ | with_reducible refine bl_drewN ?_ _)))).mono ?_); rintro e w' ⟨rfl, hbl⟩; obtain ⟨os0, n0, rfl⟩ := below_plus hbl; clear hbl))
                go_roundw
                case rel => exact ⟨k + 1, A, c, qs, hlt, by go_num, hide (HMB.out.below (by repeat (first | with_reducible exact Below.refl _ _ | with_reducible refine bl_plus ?_ | with_reducible refine bl_alloc ?_ _ | with_reducible refine bl_drew ?_ | with_reducible refine bl_drewN ?_ _))), hide (below_chain HB.out (by repeat (first | with_reducible exact Below.refl _ _ | with_reducible refine bl_plus ?_ | with_reducible refine bl_alloc ?_ _ | with_reducible refine bl_drew ?_ | with_reducible refine bl_drewN ?_ _))), hide HTK2.out.symm⟩
                case measure => simp [RowKit.intOf]; omega
            · obtain rfl : k = b.length := by omega
              have HQ2 := hide (show qs.map (·.x) = putAll (fun v => !hasV base v && !hasV a v) (m2 base a b) b by have := HQ.out; rwa [List.take_length] at this)
              clear HQ
              have hgw := HMB.out.box.lt
              have d0 : wr.cell? ⟨w.heap.size, 0, none⟩ = some (.slice A qs.length c) := HMB.out.box.cell 0
              go_wp2
              (try simp only [Exit.inBlock, Exit.then])
              go_returns
              refine ⟨A, c, ?_, ?_, HB.out⟩
              · have h1 := congrArg List.length HQ2.out
                rw [List.length_map] at h1
                rw [h1]
                rfl
              · obtain ⟨-, -, -, -, -, -, h2⟩ := HMB.out.own.lin (P := fun b => b < w0.heap.size ∨ (w.heap.size ≤ b ∧ b < wr.heap.size)) (fun b hb1 hb2 => .inr ⟨by omega, hb2⟩) (fun q hq => (HMB.out.ins q hq).mono fun b hb => .inl hb)
                rw [HQ2.out] at h2
                exact h2


end Go.Proofs.YtdncmjlakmkfiaaGreatDoor
