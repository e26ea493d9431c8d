/-
  WALKS: does a query ask for a word? the reference's closure, and the program's.
-/
import Derived.Test.YtfnooipkghfmoaaSnf
set_option linter.all false
namespace Go.Proofs.Ytfnooipkghfmoaa
open Go.RowKit Go.Lib

set_option maxHeartbeats 6400000 in
set_option maxRecDepth 100000 in
theorem hit_any (cs : List Cq) (A : Option Addr) (c : Nat) (xt : ByteArray) (xf xu : Int) (g : Nat) (w : World) (hA : CqsAt w A cs) (hs : SmallQ cs) (hx : xt.size ≤ 30) (hg : w.cell? ⟨g, 0, none⟩ = some (.slice A cs.length c)) (hlg : g < w.heap.size) :
    Calls Try.prog 22 #[.agg #[.string xt, .int .i64 xf, .int .i64 xu], .pointer (some ⟨g, 0, none⟩)] w (BOut (wantB cs xt) w) := by
  have hm := hA.1
  unfold maxLen at hm
  have HPO := hide (show ∀ (r : Bool) w', wantB cs xt = r → Below w.heap.size w w' → BOut (wantB cs xt) w (.returned (.bool r)) w' by rintro r w' rfl h; exact ⟨rfl, h⟩)
  have HY := hide (fun k (hk : k < cs.length) (h : clauB cs[k] xt = true) => (show wantB cs xt = true from any_at hk h))
  have HN := hide (fun (h : ∀ k (hk : k < cs.length), clauB cs[k] xt = false) => (show wantB cs xt = false from any_none h))
  generalize BOut (wantB cs xt) w = PO at *
  generalize wantB cs xt = R at *
  have HA := hide hA
  have HS := hide hs
  clear hA hs
  go_enter Try.func22, Try.ntmps22
  go_wp2
  go_loopw [13] (fun i wr => ∃ (k : Nat) (os : Array Obj) (n : Nat), k ≤ cs.length ∧ i = .int .i64 k ∧ wr = plus (w.alloc (.cells #[.string xt, .int .i64 xf, .int .i64 xu] 48)) os n ∧ Hid (∀ j (h : j < cs.length), j < k → clauB cs[j] xt = false)) (fun i _ => cs.length - (RowKit.intOf i).toNat)
  case atStart => exact ⟨0, #[], _, Nat.zero_le _, rfl, plus_nil.symm, hide (fun j h hj => by omega)⟩
  case round =>
    obtain ⟨k, os, n, hk, rfl, rfl, HK⟩ := hrel
    by_cases hlt : k < cs.length
    · clear HN
      obtain ⟨b, o, rfl, hb, hv⟩ := HA.out.2 (by omega)
      obtain ⟨c0, A2, cap, c1', hP⟩ := hv k hlt
      have HYK := hide (HY.out k hlt)
      have HNX := hide (fun (h : clauB cs[k] xt = false) j (hj : j < cs.length) (hjk : j < k + 1) => (by
        rcases Nat.lt_or_ge j k with g | g
        · exact HK.out j hj g
        · obtain rfl : j = k := by omega
          exact h : clauB cs[j] xt = false))
      have HSK := hide (HS.out cs[k] (List.getElem_mem hlt))
      clear hv HY HK HA HS
      generalize cs[k] = cl at *
      obtain ⟨neg, ps⟩ := cl
      simp only at c0 c1' hP HSK
      have hpm := hP.1
      unfold maxLen at hpm
      have HP := hide hP
      clear hP
      cases neg with
      | true =>
        have HR := hide (HNX.out rfl)
        clear HNX HYK HSK
        go_wp2
        go_loopw [20] (fun i wr => ∃ (q : Nat) (os2 : Array Obj) (n2 : Nat), q ≤ ps.length ∧ i = .int .i64 q ∧ wr = plus ((plus (w.alloc (.cells #[.string xt, .int .i64 xf, .int .i64 xu] 48)) os n).alloc (.cells #[.bool true, .slice A2 ps.length cap] 61)) os2 n2) (fun i _ => ps.length - (RowKit.intOf i).toNat)
        case atStart => exact ⟨0, #[], _, Nat.zero_le _, rfl, plus_nil.symm⟩
        case round =>
          obtain ⟨q, os2, n2, hq, rfl, rfl⟩ := hrel
          by_cases hlt2 : q < ps.length
          · obtain ⟨b2, o2, rfl, hb2, hv2⟩ := HP.out.2 (by omega)
            obtain ⟨d0, A4, c4, d1, hwc, hW⟩ := hv2 q hlt2
            clear hv2 HP
            generalize ps[q] = p at *
            obtain ⟨pk, pw⟩ := p
            simp only at d0 d1 hwc hW
            have hwm := hW.1
            unfold maxLen at hwm
            have HW := hide hW
            clear hW
            go_wp2
            go_loopw [27] (fun i wr => ∃ (r : Nat) (os4 : Array Obj) (n4 : Nat), r ≤ pw.length ∧ i = .int .i64 r ∧ wr = plus ((plus ((plus (w.alloc (.cells #[.string xt, .int .i64 xf, .int .i64 xu] 48)) os n).alloc (.cells #[.bool true, .slice (some ⟨b2, o2, none⟩) ps.length cap] 61)) os2 n2).alloc (.cells #[.int .i64 pk, .slice A4 pw.length c4] 63)) os4 n4) (fun i _ => pw.length - (RowKit.intOf i).toNat)
            case atStart => exact ⟨0, #[], _, Nat.zero_le _, rfl, plus_nil.symm⟩
            case round =>
              obtain ⟨r, os4, n4, hr, rfl, rfl⟩ := hrel
              by_cases hlt4 : r < pw.length
              · obtain ⟨b4, o4, rfl, hb4, hv4⟩ := HW.out.2 (by omega)
                have e4 := hv4 r hlt4
                clear hv4 HW
                generalize pw[r] = y at *
                go_wp2
                go_roundw
                case rel => exact ⟨r + 1, os4, _, hlt4, by go_num, rfl⟩
                case measure => simp [RowKit.intOf]; omega
              · obtain rfl : r = pw.length := by omega
                clear HW hlt4
                go_wp2
                go_roundw
                case rel => exact ⟨q + 1, _, _, hlt2, by go_num, plus_one⟩
                case measure => simp [RowKit.intOf]; omega
          · obtain rfl : q = ps.length := by omega
            clear HP hlt2
            go_wp2
            go_roundw
            case rel => exact ⟨k + 1, _, _, hlt, by go_num, plus_one, HR⟩
            case measure => simp [RowKit.intOf]; omega
      | false =>
        have HCY := hide (fun q (hq : q < ps.length) (h : partB ps[q] xt = true) => HYK.out (by unfold clauB; rw [Bool.not_false, Bool.true_and]; exact any_at hq h))
        have HCN := hide (fun (h : ∀ q (hq : q < ps.length), partB ps[q] xt = false) => HNX.out (by unfold clauB; rw [Bool.not_false, Bool.true_and]; exact any_none h))
        clear HYK HNX
        go_wp2
        go_loopw [20] (fun i wr => ∃ (q : Nat) (os2 : Array Obj) (n2 : Nat), q ≤ ps.length ∧ i = .int .i64 q ∧ wr = plus ((plus (w.alloc (.cells #[.string xt, .int .i64 xf, .int .i64 xu] 48)) os n).alloc (.cells #[.bool false, .slice A2 ps.length cap] 61)) os2 n2 ∧ Hid (∀ j (h : j < ps.length), j < q → partB ps[j] xt = false)) (fun i _ => ps.length - (RowKit.intOf i).toNat)
        case atStart => exact ⟨0, #[], _, Nat.zero_le _, rfl, plus_nil.symm, hide (fun j h hj => by omega)⟩
        case round =>
          obtain ⟨q, os2, n2, hq, rfl, rfl, HK2⟩ := hrel
          by_cases hlt2 : q < ps.length
          · obtain ⟨b2, o2, rfl, hb2, hv2⟩ := HP.out.2 (by omega)
            obtain ⟨d0, A4, c4, d1, hwc, hW⟩ := hv2 q hlt2
            have HYQ := hide (HCY.out q hlt2)
            have HNQ := hide (fun (h : partB ps[q] xt = false) j (hj : j < ps.length) (hjk : j < q + 1) => (by
              rcases Nat.lt_or_ge j q with g | g
              · exact HK2.out j hj g
              · obtain rfl : j = q := by omega
                exact h : partB ps[j] xt = false))
            have HSQ := HSK.out ps[q] (List.getElem_mem hlt2)
            clear hv2 HCY HCN HK2 HP HSK
            generalize ps[q] = p at *
            obtain ⟨pk, pw⟩ := p
            simp only at d0 d1 hwc hW HSQ
            unfold partB at HYQ HNQ
            simp only at HYQ HNQ
            have hk1 : pk.tmod 3 = kindOf pk := by
              obtain ⟨k0, k3, _⟩ := HSQ
              have : pk = 0 ∨ pk = 1 ∨ pk = 2 ∨ pk = 3 := by omega
              rcases this with rfl | rfl | rfl | rfl <;> rfl
            have hk2 : pk % 3 = kindOf pk := by
              obtain ⟨k0, k3, _⟩ := HSQ
              have : pk = 0 ∨ pk = 1 ∨ pk = 2 ∨ pk = 3 := by omega
              rcases this with rfl | rfl | rfl | rfl <;> rfl
            have hkb : 0 ≤ kindOf pk ∧ kindOf pk ≤ 3 := by unfold kindOf; split <;> omega
            obtain ⟨k0, k3, hsz⟩ := HSQ
            generalize kindOf pk = K at *
            have hwm := hW.1
            unfold maxLen at hwm
            have HW := hide hW
            have HSZ := hide hsz
            clear hW hsz
            have HWY := hide (fun r (hr : r < pw.length) (h : hasB K pw[r] xt = true) => HYQ.out (any_at hr h))
            have HWN := hide (fun (h : ∀ r (hr : r < pw.length), hasB K pw[r] xt = false) => HNQ.out (any_none h))
            clear HYQ HNQ
            go_wp2
            go_loopw [27] (fun i wr => ∃ (r : Nat) (os4 : Array Obj) (n4 : Nat), r ≤ pw.length ∧ i = .int .i64 r ∧ wr = plus ((plus ((plus (w.alloc (.cells #[.string xt, .int .i64 xf, .int .i64 xu] 48)) os n).alloc (.cells #[.bool false, .slice (some ⟨b2, o2, none⟩) ps.length cap] 61)) os2 n2).alloc (.cells #[.int .i64 pk, .slice A4 pw.length c4] 63)) os4 n4 ∧ Hid (∀ j (h : j < pw.length), j < r → hasB K pw[j] xt = false)) (fun i _ => pw.length - (RowKit.intOf i).toNat)
            case atStart => exact ⟨0, #[], _, Nat.zero_le _, rfl, plus_nil.symm, hide (fun j h hj => by omega)⟩
            case round =>
              obtain ⟨r, os4, n4, hr, rfl, rfl, HK4⟩ := hrel
              by_cases hlt4 : r < pw.length
              · obtain ⟨b4, o4, rfl, hb4, hv4⟩ := HW.out.2 (by omega)
                have e4 := hv4 r hlt4
                have hys := HSZ.out pw[r] (List.getElem_mem hlt4)
                have HH := hide (fun w => hasPart_any K pw[r] xt w (by omega) (by omega))
                have HYR := hide (HWY.out r hlt4)
                have HNR := hide (fun (h : hasB K pw[r] xt = false) j (hj : j < pw.length) (hjk : j < r + 1) => (by
                  rcases Nat.lt_or_ge j r with g | g
                  · exact HK4.out j hj g
                  · obtain rfl : j = r := by omega
                    exact h : hasB K pw[j] xt = false))
                unfold BOut at HH
                clear hv4 HW HWY HWN HK4 HSZ hys
                generalize pw[r] = y at *
                generalize hasB K y xt = B at *
                cases B with
                | true =>
                  have HR := hide (HYR.out rfl)
                  clear HYR HNR
                  go_wp2_with (go_at_call 23; refine (HH.out _).mono ?_; rintro e w' ⟨rfl, hbl⟩; obtain ⟨os5, n5, rfl⟩ := below_plus hbl; clear hbl)
                  exact HPO.out _ _ HR.out (by repeat (first | with_reducible exact Below.refl _ _ | with_reducible refine bl_plus ?_ | with_reducible refine bl_alloc ?_ _ | with_reducible refine bl_drew ?_ | with_reducible refine bl_drewN ?_ _))
                | false =>
                  have HR := hide (HNR.out rfl)
                  clear HYR HNR
                  go_wp2_with (go_at_call 23; refine (HH.out _).mono ?_; rintro e w' ⟨rfl, hbl⟩; obtain ⟨os5, n5, rfl⟩ := below_plus hbl; clear hbl)
                  go_roundw
                  case rel => exact ⟨r + 1, _, _, hlt4, by go_num, plus_plus, HR⟩
                  case measure => simp [RowKit.intOf]; omega
              · obtain rfl : r = pw.length := by omega
                have HR := hide (HWN.out (fun j hj => HK4.out j hj hj))
                clear HW HWY HWN HK4 HSZ hlt4
                go_wp2
                go_roundw
                case rel => exact ⟨q + 1, _, _, hlt2, by go_num, plus_one, HR⟩
                case measure => simp [RowKit.intOf]; omega
          · obtain rfl : q = ps.length := by omega
            have HR := hide (HCN.out (fun j hj => HK2.out j hj hj))
            clear HCY HCN HK2 HP HSK hlt2
            go_wp2
            go_roundw
            case rel => exact ⟨k + 1, _, _, hlt, by go_num, plus_one, HR⟩
            case measure => simp [RowKit.intOf]; omega
    · obtain rfl : k = cs.length := by omega
      have HR := hide (HN.out (fun j hj => HK.out j hj hj))
      clear HN HY HK HA HS hlt
      go_wp2
      exact HPO.out _ _ HR.out (by repeat (first | with_reducible exact Below.refl _ _ | with_reducible refine bl_plus ?_ | with_reducible refine bl_alloc ?_ _ | with_reducible refine bl_drew ?_ | with_reducible refine bl_drewN ?_ _))

set_option maxHeartbeats 1600000 in
theorem miss_any (cs : List Cq) (A : Option Addr) (c : Nat) (xt : ByteArray) (xf xu : Int) (g : Nat) (w : World) (hA : CqsAt w A cs) (hs : SmallQ cs) (hx : xt.size ≤ 30) (hg : w.cell? ⟨g, 0, none⟩ = some (.slice A cs.length c)) (hlg : g < w.heap.size) :
    Calls Try.prog 16 #[.agg #[.string xt, .int .i64 xf, .int .i64 xu], .pointer (some ⟨g, 0, none⟩)] w (BOut (!wantB cs xt) w) := by
  have HW := hide (fun W (hb : Below w.heap.size w W) => wanted_any cs A c xt W (hA.below hb) hs hx)
  unfold BOut at HW ⊢
  generalize wantB cs xt = R at *
  clear hA hs hx
  go_enter Try.func16, Try.ntmps16
  go_wp2_with (go_at_call 17; refine (HW.out _ ?hbw).mono ?_; (case hbw => exact (by repeat (first | with_reducible exact Below.refl _ _ | with_reducible refine bl_plus ?_ | with_reducible refine bl_alloc ?_ _ | with_reducible refine bl_drew ?_ | with_reducible refine bl_drewN ?_ _))); rintro e w' ⟨rfl, hbl⟩; obtain ⟨os5, n5, rfl⟩ := below_plus hbl; clear hbl)
  go_ret
  exact ⟨rfl, (by repeat (first | with_reducible exact Below.refl _ _ | with_reducible refine bl_plus ?_ | with_reducible refine bl_alloc ?_ _ | with_reducible refine bl_drew ?_ | with_reducible refine bl_drewN ?_ _))⟩

end Go.Proofs.Ytfnooipkghfmoaa
