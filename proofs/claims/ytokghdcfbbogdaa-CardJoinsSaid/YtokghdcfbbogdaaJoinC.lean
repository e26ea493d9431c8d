/-
  WALKS: Join.
-/
import Derived.Test.YtokghdcfbbogdaaJoinB
namespace Go.Proofs.Ytokghdcfbbogdaa
open Go.RowKit
attribute [local go_sem high] run_makeMap

def JoinOut (r : List St × Int) (w : World) (e : Ending) (w' : World) : Prop :=
  ∃ A c, e = .returned (.tuple #[.slice A r.1.length c, .int .i64 r.2]) ∧ StsAt w' A r.1 ∧ Below w.heap.size w w'
theorem joinOut_mk {A : Option Addr} {n c : Nat} {d : Int} {xs : List St} {w w' : World} {e : Ending} (he : e = .returned (.tuple #[.slice A n c, .int .i64 d])) (hn : xs.length = n) (hs : StsAt w' A xs) (hb : Below w.heap.size w w') : JoinOut (xs, d) w e w' := by
  subst hn; exact ⟨A, c, he, hs, hb⟩
theorem joinOut_err {r : Int} {w w' : World} (hb : Below w.heap.size w w') : JoinOut ([], r) w (.returned (.tuple #[.slice none 0 0, .int .i64 r])) w' := ⟨none, 0, rfl, StsAt.nil, hb⟩
def sliceLen : Value → Nat
  | .slice _ n _ => n
  | _ => 0
theorem seen_perm {out : List St} {seen : List Nat} (hn : seen.Nodup) (hb : ∀ i ∈ seen, i < out.length) (hall : ∀ i, i < out.length → i ∈ seen) : (seen.map fun i => (out[i]?).getD St.zero).Perm out := by
  have h1 : seen.Perm (List.range out.length) := by
    refine (List.perm_ext_iff_of_nodup hn List.nodup_range).2 fun i => ?_
    rw [List.mem_range]
    exact ⟨hb i, hall i⟩
  have h2 := h1.map fun i => (out[i]?).getD St.zero
  have h3 : (List.range out.length).map (fun i => (out[i]?).getD St.zero) = out := by
    apply List.ext_getElem?
    intro j
    by_cases hj : j < out.length
    · rw [List.getElem?_map, List.getElem?_range hj, List.getElem?_eq_getElem hj]; simp [hj]
    · rw [List.getElem?_eq_none (by simp; omega), List.getElem?_eq_none (by omega)]
  rw [h3] at h2
  exact h2
theorem seen_len {m : Nat} {seen : List Nat} (hn : seen.Nodup) (hb : ∀ i ∈ seen, i < m) : seen.length ≤ m := by
  have h : seen ⊆ List.range m := fun i hi => List.mem_range.2 (hb i hi)
  have h2 := hn.length_le_of_subset h
  simpa using h2

set_option maxHeartbeats 25600000 in
set_option maxRecDepth 100000 in
theorem joinF_ok (A B : Option Addr) (c c2 : Nat) (xs bs : List St) (w : World) (hA : StsAt w A xs) (hB : StsAt w B bs) (ha : statesErr xs = 0) (hb : statesErr bs = 0) :
    Calls Try.prog 39 #[.slice A xs.length c, .slice B bs.length c2] w (JoinOut (joinR (joinGo xs bs)) w) := by
  have hal := len_of_statesErr ha
  have hbl := len_of_statesErr hb
  have hap := apart2_of_lt (statesErr_pair ha)
  have hap2 := apart2_go bs xs hap
  obtain ⟨iS, hiS, hzS0, hzS1, hzS2⟩ := info_parts info_st
  have HIS := hide (And.intro hiS (And.intro hzS0 (And.intro hzS1 hzS2)))
  clear hiS hzS0 hzS1 hzS2
  generalize hR : joinGo xs bs = R at hap2 ⊢
  have HR := hide hR
  have HAP := hide hap
  have HAP2 := hide hap2
  have hc1 := fun w h => checkStates_any A c xs w h
  have hc2 := fun w h => checkStates_any B c2 bs w h
  rw [ha] at hc1
  rw [hb] at hc2
  have H1 := hide hc1
  have H2 := hide hc2
  have HA := hide hA
  have HB := hide hB
  clear hc1 hc2 hA hB hR ha hb hap hap2
  go_enter Try.func39, Try.ntmps39
  go_wp2
  go_loopw [23] (fun i wr => ∃ (k : Nat) (os : Array Obj) (n : Nat), k ≤ 2 ∧ i = .int .i64 k ∧ wr = plus (w.alloc (.cells #[.slice A xs.length c, .slice B bs.length c2] 36)) os n) (fun i _ => 2 - (intOf i).toNat)
  case atStart => exact ⟨0, #[], _, by omega, rfl, plus_nil.symm⟩
  case round =>
  obtain ⟨k, os, n, hk, rfl, rfl⟩ := hrel
  have hbk := (Blk.new w 36 #[.slice A xs.length c, .slice B bs.length c2]).plus (os := os) (n := n)
  have hk3 : k = 0 ∨ k = 1 ∨ k = 2 := by omega
  rcases hk3 with rfl | rfl | rfl
  · go_wp2_with (go_at_call 48; refine (H1.out _ ((HA.out.alloc _).plus _ _)).mono ?_; rintro e w' ⟨rfl, hb⟩; obtain ⟨os1, n1, rfl⟩ := below_plus hb; clear hb)
    go_roundw
    case rel => exact ⟨1, _, _, by omega, by go_num, by rw [plus_plus]⟩
    case measure => simp [intOf]
  · go_wp2_with (go_at_call 48; refine (H2.out _ ((HB.out.alloc _).plus _ _)).mono ?_; rintro e w' ⟨rfl, hb⟩; obtain ⟨os1, n1, rfl⟩ := below_plus hb; clear hb)
    go_roundw
    case rel => exact ⟨2, _, _, by omega, by go_num, by rw [plus_plus]⟩
    case measure => simp [intOf]
  clear hbk
  rw [show (((2 : Nat) : Int)) = 2 from rfl]
  go_upto_region 8 with (fail)
  have hW : Below w.heap.size w (plus (w.alloc (.cells #[.slice A xs.length c, .slice B bs.length c2] 36)) os n) := by repeat (first | exact Below.refl _ _ | refine bl_plus ?_ | refine bl_alloc ?_ _ | refine bl_drew ?_)
  generalize plus (w.alloc (.cells #[.slice A xs.length c, .slice B bs.length c2] 36)) os n = W0 at hW ⊢
  have HW := hide hW
  clear hW
  go_wp2
  go_loopw [36] (fun i wr => ∃ (k : Nat) (os : Array Obj) (n : Nat), k ≤ xs.length ∧ i = .int .i64 k ∧ wr = plus (W0.alloc (.map (ents (kvOf (xs.take k))) (kvOf (xs.take k)).length)) os n) (fun i _ => xs.length - (intOf i).toNat)
  case atStart => exact ⟨0, #[], _, Nat.zero_le _, rfl, plus_nil.symm⟩
  case round =>
    obtain ⟨k, os, n, hk, rfl, rfl⟩ := hrel
    by_cases hlt : k < xs.length
    · obtain ⟨b, off, rfl, hb, hcell⟩ := HA.out (by omega)
      have hb0 : b < W0.heap.size := by have := HW.out.size; omega
      have hcc : StCells W0 b (off + k * 9) xs[k] := (hcell k hlt).keep fun i => HW.out.cell (p := ⟨b, i, none⟩) hb
      have htk := kvOf_take HAP.out k hlt
      clear hcell
      generalize xs[k] = x at hcc htk
      obtain ⟨c0, c1, c2', c3, c4, c5, c6, c7, c8⟩ := hcc
      have hup := fun os3 n3 => update_round pair_name Try.underlying96 x.bl x.no x.val W0 (kvOf (xs.take k)) os n (.cells #[.int .i64 x.bl, .int .i64 x.no, .int .i64 x.st, .int .i64 x.ea, .int .i64 x.du, .int .i64 x.la, .int .i64 x.ti, .int .i64 x.lp, .int .i64 x.bu] 24) os3 n3
      rw [htk] at hup
      have hsn := fun w => stateName_any x w
      simp only [St.val, nameVal] at hup hsn
      have HSN := hide hsn
      clear hsn htk
      go_upto_region 12 with (fail)
      go_region_with (go_at_call 54; refine (HSN.out _).mono ?_; rintro e w' ⟨rfl, hb⟩; obtain ⟨os3, n3, rfl⟩ := below_plus hb; clear hb)
      all_goals go_wp2
      all_goals
        go_roundw
        case rel => exact ⟨k + 1, _, _, hlt, by go_num, by rw [plus_alloc, plus_plus]⟩
        case measure => simp [intOf]; omega
    · have hkl : k = xs.length := by omega
      subst hkl
      rw [List.take_length]
      go_wp2
      go_loopw [47] (fun i wr => ∃ (k : Nat) (out : List St) (os : Array Obj) (n : Nat), k ≤ bs.length ∧ i = .int .i64 k ∧ Hid (joinGo out (bs.drop k) = R ∧ out.length ≤ 5000 + k) ∧ wr = plus (W0.alloc (.map (ents (kvOf out)) (kvOf out).length)) os n) (fun i _ => bs.length - (intOf i).toNat)
      case atStart => exact ⟨0, xs, _, _, Nat.zero_le _, rfl, ⟨by simpa using HR.out, by omega⟩, rfl⟩
      case round =>
        obtain ⟨k, out, os, n, hk, rfl, HI, rfl⟩ := hrel
        by_cases hlt : k < bs.length
        · obtain ⟨i1, i2⟩ := HI.out
          rw [drop_cons bs k hlt] at i1
          simp only [joinGo] at i1
          obtain ⟨b, off, rfl, hb, hcell⟩ := HB.out (by omega)
          have hb0 : b < W0.heap.size := by have := HW.out.size; omega
          have hcc : StCells W0 b (off + k * 9) bs[k] := (hcell k hlt).keep fun i => HW.out.cell (p := ⟨b, i, none⟩) hb
          clear hcell HI
          generalize bs[k] = y at hcc i1
          obtain ⟨c0, c1, c2', c3, c4, c5, c6, c7, c8⟩ := hcc
          have hjl := joinOne_len out y
          have hlk := fun os3 n3 => lookup_ok_round pair_name Try.underlying96 zero_state y.bl y.no W0 (kvOf out) os n (.cells #[.int .i64 y.bl, .int .i64 y.no, .int .i64 y.st, .int .i64 y.ea, .int .i64 y.du, .int .i64 y.la, .int .i64 y.ti, .int .i64 y.lp, .int .i64 y.bu] 24) os3 n3
          rw [kvOf_find] at hlk
          have hup := fun os3 n3 C' os4 n4 => update_deep pair_name Try.underlying96 y.bl y.no y.val W0 (kvOf out) os os3 os4 n n3 n4 (.cells #[.int .i64 y.bl, .int .i64 y.no, .int .i64 y.st, .int .i64 y.ea, .int .i64 y.du, .int .i64 y.la, .int .i64 y.ti, .int .i64 y.lp, .int .i64 y.bu] 24) C'
          have hsn := fun w => stateName_any y w
          cases hfi : out.findIdx? (named (y.bl, y.no)) with
          | none =>
            rw [find_of_idx_none hfi] at hlk
            rw [kvOf_put_new out y hfi, ← joinOne_none hfi] at hup
            have HI1 := hide (And.intro i1 (show (joinOne out y).length ≤ 5000 + (k + 1) by omega))
            simp only [Option.map_none, Option.getD_none, Option.isSome_none, St.val, St.zero, nameVal] at hlk hup hsn
            have HSN := hide hsn
            clear i1 i2 hjl hfi hsn
            go_upto_region 18 with (go_at_call 54; refine (HSN.out _).mono ?_; rintro e w' ⟨rfl, hb⟩; obtain ⟨os3, n3, rfl⟩ := below_plus hb; clear hb)
            go_quiet (fail)
            go_upto_region 19 with (fail)
            go_region_with (go_at_call 54; refine (HSN.out _).mono ?_; rintro e w' ⟨rfl, hb⟩; obtain ⟨os4, n4, rfl⟩ := below_plus hb; clear hb)
            all_goals go_wp2
            all_goals
              go_roundw
              case rel => exact ⟨k + 1, joinOne out y, _, _, hlt, by go_num, HI1.out, by rw [plus_alloc, plus_plus, plus_alloc, plus_plus]⟩
              case measure => simp [intOf]; omega
          | some i =>
            obtain ⟨hi, hfd, _⟩ := find_of_idx_some hfi
            have hxi : out[i]? = some out[i] := List.getElem?_eq_getElem hi
            have hjo := joinOne_some hfi hxi
            have hpo := kvOf_put_old out y i hfi
            rw [hfd] at hlk
            rw [hpo] at hup
            generalize out[i] = x at hlk hjo
            simp only [Option.map_some, Option.getD_some, Option.isSome_some, St.val, nameVal] at hlk hup hsn
            have HSN := hide hsn
            have HUP := hide hup
            have hnt := newer_turned x y
            have HNT := hide hnt
            rw [hjo] at i1 hjl
            clear hfi hfd hxi hjo hpo hsn hup hnt
            go_upto_region 18 with (go_at_call 54; refine (HSN.out _).mono ?_; rintro e w' ⟨rfl, hb⟩; obtain ⟨os3, n3, rfl⟩ := below_plus hb; clear hb)
            have hx9 := Blk.nine (Blk.new (plus ((plus (W0.alloc (.map (ents (kvOf out)) (kvOf out).length)) os n).alloc (.cells #[.int .i64 y.bl, .int .i64 y.no, .int .i64 y.st, .int .i64 y.ea, .int .i64 y.du, .int .i64 y.la, .int .i64 y.ti, .int .i64 y.lp, .int .i64 y.bu] 24)) os3 n3) 24 #[.int .i64 x.bl, .int .i64 x.no, .int .i64 x.st, .int .i64 x.ea, .int .i64 x.du, .int .i64 x.la, .int .i64 x.ti, .int .i64 x.lp, .int .i64 x.bu])
            have hy9 := Blk.nine (((Blk.new (plus (W0.alloc (.map (ents (kvOf out)) (kvOf out).length)) os n) 24 #[.int .i64 y.bl, .int .i64 y.no, .int .i64 y.st, .int .i64 y.ea, .int .i64 y.du, .int .i64 y.la, .int .i64 y.ti, .int .i64 y.lp, .int .i64 y.bu]).plus (os := os3) (n := n3)).alloc (.cells #[.int .i64 x.bl, .int .i64 x.no, .int .i64 x.st, .int .i64 x.ea, .int .i64 x.du, .int .i64 x.la, .int .i64 x.ti, .int .i64 x.lp, .int .i64 x.bu] 24))
            obtain ⟨_, _, _, _, _, x5, x6, _, _, _, xlt⟩ := hx9
            obtain ⟨_, _, _, _, _, y5, y6, _, _, _, ylt⟩ := hy9
            simp only [plus_size, World.size_alloc] at x5 x6 y5 y6 xlt ylt
            go_cut [74] from 58 to 74 (fun v wx => v = .bool (newer x y) ∧ ∃ os5 n5, wx = plus ((plus ((plus (W0.alloc (.map (ents (kvOf out)) (kvOf out).length)) os n).alloc (.cells #[.int .i64 y.bl, .int .i64 y.no, .int .i64 y.st, .int .i64 y.ea, .int .i64 y.du, .int .i64 y.la, .int .i64 y.ti, .int .i64 y.lp, .int .i64 y.bu] 24)) os3 n3).alloc (.cells #[.int .i64 x.bl, .int .i64 x.no, .int .i64 x.st, .int .i64 x.ea, .int .i64 x.du, .int .i64 x.la, .int .i64 x.ti, .int .i64 x.lp, .int .i64 x.bu] 24)) os5 n5)
            case first =>
              have xlt2 : W0.heap.size + 1 + os.size + 1 + os3.size < ((plus ((plus (W0.alloc (.map (ents (kvOf out)) (kvOf out).length)) os n).alloc (.cells #[.int .i64 y.bl, .int .i64 y.no, .int .i64 y.st, .int .i64 y.ea, .int .i64 y.du, .int .i64 y.la, .int .i64 y.ti, .int .i64 y.lp, .int .i64 y.bu] 24)) os3 n3).alloc (.cells #[.int .i64 x.bl, .int .i64 x.no, .int .i64 x.st, .int .i64 x.ea, .int .i64 x.du, .int .i64 x.la, .int .i64 x.ti, .int .i64 x.lp, .int .i64 x.bu] 24)).heap.size := by simp only [plus_size, World.size_alloc]; omega
              have ylt2 : W0.heap.size + 1 + os.size < ((plus ((plus (W0.alloc (.map (ents (kvOf out)) (kvOf out).length)) os n).alloc (.cells #[.int .i64 y.bl, .int .i64 y.no, .int .i64 y.st, .int .i64 y.ea, .int .i64 y.du, .int .i64 y.la, .int .i64 y.ti, .int .i64 y.lp, .int .i64 y.bu] 24)) os3 n3).alloc (.cells #[.int .i64 x.bl, .int .i64 x.no, .int .i64 x.st, .int .i64 x.ea, .int .i64 x.du, .int .i64 x.la, .int .i64 x.ti, .int .i64 x.lp, .int .i64 x.bu] 24)).heap.size := by simp only [plus_size, World.size_alloc]; omega
              generalize hW5 : ((plus ((plus (W0.alloc (.map (ents (kvOf out)) (kvOf out).length)) os n).alloc (.cells #[.int .i64 y.bl, .int .i64 y.no, .int .i64 y.st, .int .i64 y.ea, .int .i64 y.du, .int .i64 y.la, .int .i64 y.ti, .int .i64 y.lp, .int .i64 y.bu] 24)) os3 n3).alloc (.cells #[.int .i64 x.bl, .int .i64 x.no, .int .i64 x.st, .int .i64 x.ea, .int .i64 x.du, .int .i64 x.la, .int .i64 x.ti, .int .i64 x.lp, .int .i64 x.bu] 24)) = W5 at x5 x6 y5 y6 xlt2 ylt2 ⊢
              have HW5 := hide hW5
              clear hW5
              generalize hgx : W0.heap.size + 1 + os.size + 1 + os3.size = gx at x5 x6 xlt2 ⊢
              generalize hgy : W0.heap.size + 1 + os.size = gy at y5 y6 ylt2 ⊢
              have HGX := hide hgx
              have HGY := hide hgy
              clear hgx hgy
              clear xlt ylt hlk
              go_region_held3 (fun w' => w'.cell? ⟨gx, 5, none⟩ = some (.int .i64 x.la) ∧ w'.cell? ⟨gx, 6, none⟩ = some (.int .i64 x.ti) ∧ w'.cell? ⟨gy, 5, none⟩ = some (.int .i64 y.la) ∧ w'.cell? ⟨gy, 6, none⟩ = some (.int .i64 y.ti)) (go_keep)
                (first | (go_at_call 77; refine (compare_any _ _ _).mono ?_; rintro e w' ⟨rfl, rfl⟩) | (go_at_call 76; refine (or2_any _ (cmp3 y.la x.la) (cmp3 y.ti x.ti) _ ?_ ?_).mono ?_; go_simp; go_simp; rintro e w' ⟨rfl, rfl⟩))
              all_goals go_wp2
              all_goals (have hgx := HGX.out; have hgy := HGY.out; have hW5 := HW5.out; clear HGX HGY HW5; subst hW5 hgx hgy)
              all_goals go_meet
              all_goals
                refine ⟨?_, ?_⟩
                · rw [← HNT.out]
                · exact below_plus (by repeat (first | exact Below.refl _ _ | refine bl_plus ?_ | refine bl_alloc ?_ _ | refine bl_drew ?_))
            case rest =>
              obtain ⟨rfl, os5, n5, rfl⟩ := hcut
              have HI1 := hide (And.intro i1 hjl)
              have hup := fun C' os4 n4 => HUP.out os3 n3 C' os4 n4
              clear i1 hjl x5 x6 y5 y6 xlt ylt hlk HNT HUP
              cases hnw : newer x y with
              | true =>
                rw [hnw, if_pos rfl] at HI1
                clear hnw
                go_upto_region 19 with (fail)
                go_region_with (go_at_call 54; refine (HSN.out _).mono ?_; rintro e w' ⟨rfl, hb⟩; obtain ⟨os4, n4, rfl⟩ := below_plus hb; clear hb; rw [plus_plus])
                all_goals go_wp2
                all_goals
                  go_roundw
                  case rel => exact ⟨k + 1, out.set i y, _, _, hlt, by go_num, ⟨HI1.out.1, by have := HI1.out.2; omega⟩, by rw [plus_alloc, plus_plus, plus_alloc, plus_plus]⟩
                  case measure => simp [intOf]; omega
              | false =>
                rw [hnw, if_neg (by simp)] at HI1
                clear hnw hup
                go_wp2
                go_roundw
                case rel => exact ⟨k + 1, out, _, _, hlt, by go_num, ⟨HI1.out.1, by have := HI1.out.2; omega⟩, by rw [plus_alloc, plus_plus, plus_alloc, plus_plus]⟩
                case measure => simp [intOf]; omega
        · have hkl : k = bs.length := by omega
          subst hkl
          obtain ⟨i1, i2⟩ := HI.out
          rw [List.drop_length] at i1
          simp only [joinGo] at i1
          subst i1
          have hbm := plain_heap W0 (kvOf out) os n
          have hbl2 : W0.heap.size < (plus (W0.alloc (.map (ents (kvOf out)) (kvOf out).length)) os n).heap.size := by rw [plus_size, World.size_alloc]; omega
          have hV : Below w.heap.size w (plus (W0.alloc (.map (ents (kvOf out)) (kvOf out).length)) os n) := by repeat (first | exact HW.out | exact Below.refl _ _ | refine bl_plus ?_ | refine bl_alloc ?_ _ | refine bl_drew ?_)
          generalize (plus (W0.alloc (.map (ents (kvOf out)) (kvOf out).length)) os n) = V2 at hbm hbl2 hV ⊢
          generalize W0.heap.size = r1 at hbm hbl2 ⊢
          have hlen := fun ty => len_ents (ty := ty) Try.underlying96 hbm
          rw [kvOf_len] at hlen
          have hrg := range_ents Try.underlying96 hbm
          have HBM := hide hbm
          have HV := hide hV
          have HI2 := hide i2
          clear hbm hV HW HI HR i2
          by_cases hbig : 5000 < out.length
          · have hbz : (5000 : Int) < (out.length : Int) := by omega
            have hj : joinR out = ([], 4) := by unfold joinR; rw [if_pos hbig]
            have HJ := hide hj
            clear hrg hbig hj
            go_wp2
            go_returns
            rw [HJ.out]
            exact joinOut_err (by repeat (first | exact HV.out | exact Below.refl _ _ | refine bl_plus ?_ | refine bl_alloc ?_ _ | refine bl_drew ?_))
          · have hbz : ¬ (5000 : Int) < (out.length : Int) := by omega
            have hj : joinR out = (sortSt out, 0) := by unfold joinR; rw [if_neg hbig]
            have HJ := hide hj
            have hol : out.length ≤ 5000 := by omega
            clear hbig hj
            go_wp2
            go_loopw [16] (fun v wr => ∃ (seen : List Nat) (os : Array Obj) (n : Nat), Hid (seen.Nodup ∧ ∀ i ∈ seen, i < out.length) ∧ OwnK 9 24 wr (V2.heap.size + 1) v seen.length (flat (seen.map fun i => (out[i]?).getD St.zero)) ∧ wr = plus (V2.alloc (.mapIter (some r1) (kvOf out).length seen.toArray (kvOf out).length)) os n)
              (fun v _ => out.length - sliceLen v)
            case atStart => exact ⟨[], #[], _, ⟨List.nodup_nil, fun i hi => by cases hi⟩, OwnK.empty, plus_nil.symm⟩
            case round =>
              obtain ⟨seen, os, n, HS, ho, rfl⟩ := hrel
              obtain ⟨A5, c5, rfl, hc5⟩ := ho.form
              have HO := hide ho
              clear ho
              go_wp2_with (at_next; refine wpList_next_seen (V2 := V2) (bm := r1) (out := out) rfl (.tmp 84) rfl seen os n rfl HBM.out hbl2 ?_ ?_)
              · intro hall
                have hp := seen_perm HS.out.1 HS.out.2 hall
                have hs := sortSt_same hp HAP2.out
                have hl2 := seen_len HS.out.1 HS.out.2
                have HSS := hide hs
                clear hall hp hs
                go_wp2_with (first | (go_at_call 78; refine (sortSts_any 79 (enters_of Try.func79 (by kernel_rfl) rfl) (fun x y W => joinLess_grow x y W) (V2.heap.size + 1) c5 seen.length A5 (seen.map fun i => (out[i]?).getD St.zero) _ HO.out (by omega) (by simp only [plus_size, World.size_alloc]; omega)).mono ?_; rintro e w' ⟨rfl, hb, hs, _⟩; obtain ⟨os4, n4, rfl⟩ := below_plus (W := (V2.alloc (.mapIter (some r1) (kvOf out).length seen.toArray (kvOf out).length))) ((bl_plus (Below.refl _ _)).trans (by rw [World.size_alloc]; exact hb)); have HQ := hide hs; clear hb hs) | (go_at_call 63; refine (clipSts_any _ _ _ _ (by assumption)).mono ?_; rintro e w' ⟨rfl, rfl⟩))
                go_returns
                have hq := HQ.out
                rw [HSS.out] at hq
                obtain ⟨_, sl2, s2⟩ := hq.sts
                rw [HJ.out]
                exact joinOut_mk rfl sl2 s2 (by repeat (first | exact HV.out | exact Below.refl _ _ | refine bl_plus ?_ | refine bl_alloc ?_ _ | refine bl_drew ?_))
              · intro i hi hni n' hen
                have hnd : (seen ++ [i]).Nodup ∧ ∀ j ∈ seen ++ [i], j < out.length := by
                  refine ⟨List.nodup_append.2 ⟨HS.out.1, by simp, fun a ha b hb => by simp only [List.mem_singleton] at hb; subst hb; exact fun e => hni (e ▸ ha)⟩, fun j hj => ?_⟩
                  rcases List.mem_append.1 hj with h | h
                  · exact HS.out.2 j h
                  · simp only [List.mem_singleton] at h; subst h; exact hi
                have hl3 := seen_len hnd.1 hnd.2
                rw [List.length_append, List.length_singleton] at hl3
                have HND := hide hnd
                have HX : Hid (out[i] = (out[i]?).getD St.zero) := by show _ = _; rw [List.getElem?_eq_getElem hi]; rfl
                have HO2 : Hid (OwnK 9 24 (plus (V2.alloc (.mapIter (some r1) (kvOf out).length (seen ++ [i]).toArray (kvOf out).length)) os n') (V2.heap.size + 1) (.slice A5 seen.length c5) seen.length (flat (seen.map fun i => (out[i]?).getD St.zero))) :=
                  HO.out.kept fun q hq => plus_heap_swap (by simp only [World.size_alloc]) (by have := (HO.out.lt q hq).1; simp only [World.size_alloc]; omega)
                generalize out[i] = x at hen HX ⊢
                simp only [nameVal, St.val] at hen ⊢
                clear hni hnd HO hi
                go_wp2_with (at_builtin; go_loud (refine wpList_append_k rfl (.tmp 89) (.tmp 91) rfl rfl Try.underlying36 HIS.out.1 HIS.out.2.1 HIS.out.2.2.1 (by decide) rfl (by have := HIS.out.2.2.2; omega) (V2.heap.size + 1) _ _ (flat (seen.map fun i => (out[i]?).getD St.zero)) (stCells x) _ rfl ((HO2.out.alloc _).alloc _) rfl (by intro u hu; simp only [stCells, List.mem_cons, List.not_mem_nil, or_false] at hu; rcases hu with rfl | rfl | rfl | rfl | rfl | rfl | rfl | rfl | rfl <;> rfl) rfl (new_cells9 (by simp only [plus_size, World.size_alloc])) (by omega) (by simp only [World.size_alloc, plus_size]; omega) ?_; intro v' w1 hown1 hgr1 hfr1; obtain ⟨os9, n9, rfl⟩ := grown_plus (L := (V2.alloc (.mapIter (some r1) (kvOf out).length (seen ++ [i]).toArray (kvOf out).length))) (by repeat (first | exact Below.refl _ _ | refine bl_plus ?_ | refine bl_alloc ?_ _ | refine bl_drew ?_)) hgr1 (fun q hq => by have := (HO2.out.lt q hq).1; simp only [World.size_alloc]; omega); obtain ⟨A6, c6, rfl, _⟩ := hown1.form; have HN := hide hown1; clear hown1 hgr1 hfr1))
                go_roundw
                case rel => exact ⟨seen ++ [i], _, _, HND.out, by rw [List.map_append, List.map_singleton, ← HX.out, flat_snoc, List.length_append]; exact HN.out, rfl⟩
                case measure => simp [sliceLen]; omega

end Go.Proofs.Ytokghdcfbbogdaa
