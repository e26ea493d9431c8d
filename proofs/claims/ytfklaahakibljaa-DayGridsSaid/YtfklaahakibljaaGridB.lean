/-
  WALKS: Grid and the reference's.
-/
import Derived.Test.YtfklaahakibljaaGrid
namespace Go.Proofs.Ytfklaahakibljaa
open Go.RowKit Cal

theorem rowBlk {w : World} (os : Array Obj) (n : Nat) (l : List Int) (C : Obj) : Blk (((plus w os n).alloc (.cells (ints l) 3)).alloc C) (w.heap.size + os.size) 3 (ints l) := by
  have h := (Blk.new (plus w os n) 3 (ints l)).alloc C
  rw [plus_size] at h
  exact h
theorem rowCell {w : World} (os : Array Obj) (n : Nat) (l : List Int) (v : Value) : ∀ (q : Nat) (u : Value), [v][q]? = some u → (((plus w os n).alloc (.cells (ints l) 3)).alloc (.cells #[v] 45)).cell? ((⟨w.heap.size + os.size + 1, 0, none⟩ : Addr).add q) = some u := by
  intro q u hq
  match q, hq with
  | 0, hq =>
    simp only [List.getElem?_cons_zero, Option.some.injEq] at hq
    subst hq
    have h := (Blk.new ((plus w os n).alloc (.cells (ints l) 3)) 45 #[v]).cell 0
    simp only [World.size_alloc, plus_size] at h
    exact h
  | _ + 1, hq => simp at hq

set_option maxHeartbeats 400000 in
theorem clipRows_any (A : Option Addr) (n c : Nat) (w : World) (h : n ≤ c) :
    Calls Try.prog 88 #[.slice A n c] w fun e w' => e = .returned (.slice A n n) ∧ w = w' := by
  go_enter Try.func88, Try.ntmps88
  go_wp2
  go_ret
  exact ⟨rfl, rfl⟩

set_option maxHeartbeats 12800000 in
set_option maxRecDepth 100000 in
theorem grid_ok (y m : Int) (w : World) (hy : 2001 ≤ y) (hy2 : y ≤ 9999) (h1 : 1 ≤ m) (h2 : m ≤ 12) (hn : num y m (mlen y m) ≤ 100000) :
    Calls Try.prog 27 #[.int .i64 y, .int .i64 m] w (GridOut (weeksTo (num y m 1) (num y m 1 + mlen y m) (weekCount (num y m 1) (num y m 1 + mlen y m)), 0) w) := by
  have hb := mlen_bd y m
  have hl := num_last y m
  have hge := num_ge hy h1 h2 (d := 1) (by omega)
  have hr : dayOfR y m 1 = (num y m 1, 0) := if_pos ⟨hy, hy2, h1, h2, by omega, by omega, by omega⟩
  have hd := fun w => dayOf_any y m 1 w
  rw [hr] at hd
  have hh := fun L w h29 h31 => has_any y m L w (by omega) (by omega) h29 h31
  have hck := fun w => checkDay_any (num y m 1 + mlen y m - 1) w
  have hz : dayErr (num y m 1 + mlen y m - 1) = 0 := if_neg (by omega)
  rw [hz] at hck
  generalize hA : num y m 1 = a at *
  generalize hL : mlen y m = ln at *
  obtain ⟨iS, hiS, hzS0, hzS1, hzS2⟩ := info_parts info_slint
  have HIS := hide (And.intro hiS (And.intro hzS0 (And.intro hzS1 hzS2)))
  have HK := hide (weekCount_in (a := a) (b := a + ln) (by omega))
  have a1 : a + ln ≤ 100001 := by omega
  have HD := hide hd
  have HH := hide hh
  have HCK := hide hck
  obtain ⟨b0, b1⟩ := hb
  clear hiS hzS0 hzS1 hzS2 hr hd hh hck hz hA hL hl hn
  go_enter Try.func27, Try.ntmps27
  go_wp2_with (first | (go_at_call 85; refine (HD.out _).mono ?_; rintro e w' ⟨rfl, hbl⟩; obtain ⟨os1, n1, rfl⟩ := below_plus hbl; clear hbl))
  go_loop [8] (fun l => ∃ L : Int, 28 ≤ L ∧ L ≤ ln ∧ l = .int .i64 L) (fun l => (31 - intOf l).toNat)
  case atStart => exact ⟨28, by omega, by omega, rfl⟩
  case round =>
  obtain ⟨L, L0, L1, rfl⟩ := hrel
  have hcs : (L < 31 ∧ L + 1 ≤ ln) ∨ (L = ln ∧ L < 31) ∨ (L = ln ∧ ¬ L < 31) := by omega
  rcases hcs with ⟨c1, c2⟩ | hcs
  · have hx := fun w => HH.out (L + 1) w (by omega) (by omega)
    rw [decide_eq_true c2] at hx
    have HX := hide hx
    clear hx
    go_wp2_with (first | (go_at_call 86; refine (HX.out _).mono ?_; rintro e w' ⟨rfl, rfl⟩))
    go_round
    case rel => exact ⟨L + 1, by omega, by omega, rfl⟩
    case measure => simp [intOf]; omega
  have hx : L < 31 → ∀ w, Calls Try.prog 86 #[.int .i64 y, .int .i64 m, .int .i64 (L + 1)] w fun e w' => e = .returned (.bool false) ∧ w = w' := fun hlt w => by
    have := HH.out (L + 1) w (by omega) (by omega)
    rwa [decide_eq_false (by omega)] at this
  have HX := hide hx
  clear hx
  obtain ⟨hLl, hcq⟩ : L = ln ∧ (L < 31 ∨ ¬ L < 31) := by omega
  clear hcs
  subst hLl
  rcases hcq with c1 | c1
  all_goals
  go_upto_region 9 with (first | (go_at_call 86; refine (HX.out c1 _).mono ?_; rintro e w' ⟨rfl, rfl⟩) | (go_at_call 87; refine (HCK.out _).mono ?_; rintro e w' ⟨rfl, rfl⟩))
  go_wp2
  go_loopw [9, 10] (fun v i wr => ∃ (j : Nat) (os : Array Obj) (n : Nat), Hid (j ≤ weekCount a (a + L)) ∧ i = .int .i64 (a - a % 7 + 7 * j) ∧ RowsOwn 7 wr w.heap.size v (weeksTo a (a + L) j) ∧ wr = plus w os n) (fun _ i _ => (a + L - intOf i).toNat)
  case atStart => exact ⟨0, _, _, hide (Nat.zero_le _), by simp, RowsOwn.empty, rfl⟩
  case round =>
    obtain ⟨j, os, n, HJ0, rfl, ho, rfl⟩ := hrel
    have hjk := HJ0.out
    obtain ⟨k1, k2⟩ := HK.out
    have hmb : 0 ≤ a - a % 7 + 7 * (j : Int) ∧ a - a % 7 + 7 * (j : Int) ≤ 200000 := by omega
    have hcase : (j < weekCount a (a + L) ∧ a - a % 7 + 7 * (j : Int) < a + L) ∨ (j = weekCount a (a + L) ∧ ¬ a - a % 7 + 7 * (j : Int) < a + L) := by omega
    have HJ : Hid (j < 100000) := by show _ < _; omega
    have hs := weeksTo_succ a (a + L) j
    obtain ⟨A5, c5, rfl, hc5⟩ := ho.form
    have hlj := weeksTo_len a (a + L) j
    rw [hlj] at hc5
    rw [← weekPart_full] at hs
    have HS := hide hs
    have HO := hide ho
    have HLJ := hide hlj
    clear hs ho hjk k1 k2 HJ0
    rw [hlj] at HO ⊢
    clear hlj
    obtain ⟨mb0, mb1⟩ := hmb
    rcases hcase with ⟨q1, q2⟩ | ⟨q1, q2⟩
    · generalize hmo : a - a % 7 + 7 * (j : Int) = mo at *
      have HMO := hide hmo
      have Q1 := hide q1
      clear hmo q1
      have hmk := fun w => make_ints 7 w (by omega)
      rw [weekPart_zero a (a + L) mo] at hmk
      simp only [show ((7 : Nat) : Int) = 7 from rfl] at hmk
      go_wp2
      clear hmk
      go_loopw [53] (fun i wr => ∃ k : Nat, k ≤ 7 ∧ i = .int .i64 k ∧ wr = (plus w os n).alloc (.cells (ints (weekPart a (a + L) mo k)) 3)) (fun i _ => 7 - (intOf i).toNat)
      case atStart => exact ⟨0, Nat.zero_le _, rfl, rfl⟩
      case round =>
        obtain ⟨k, hk, rfl, rfl⟩ := hrel
        by_cases hlt : k < 7
        · have hsz := weekPart_len a (a + L) mo k
          have hgt : (ints (weekPart a (a + L) mo k))[k]? = some (.int .i64 ((weekPart a (a + L) mo k)[k]'(by omega))) := ints_get (by omega)
          have hset := weekPart_set a (a + L) mo k
          have HSET := hide hset
          have HSZ := hide hsz
          generalize (weekPart a (a + L) mo k)[k]'(by omega) = x0 at hgt
          clear hset hsz
          have HP := hide (Eq.refl (weekPart a (a + L) mo k))
          generalize weekPart a (a + L) mo k = P at *
          have hg2 : ∀ x : Int, ((ints P).setIfInBounds k (.int .i64 x))[k]? = some (.int .i64 x) := fun x => by rw [ints_set, ints_get (by rw [List.length_set, HSZ.out]; exact hlt), List.getElem_set_self]
          have i1 : (k : Int) < 7 := by omega
          by_cases hin : a ≤ mo + k ∧ mo + k < a + L
          · have hd : dayIn a (a + L) (mo + k) = mo + k := if_pos hin
            rw [hd] at HSET
            clear hd
            obtain ⟨d1, d2⟩ := hin
            go_wp2
            go_roundw
            case rel => exact ⟨k + 1, by omega, by go_num, by rw [ints_set, HSET.out]⟩
            case measure => simp [intOf]; omega
          · have hd : dayIn a (a + L) (mo + k) = -1 := if_neg hin
            rw [hd] at HSET
            clear hd
            have hor : mo + k < a ∨ (a ≤ mo + k ∧ ¬ mo + k < a + L) := by omega
            clear hin
            rcases hor with d1 | ⟨d1, d2⟩
            all_goals
              go_wp2
              go_roundw
              case rel => exact ⟨k + 1, by omega, by go_num, by rw [ints_set, HSET.out]⟩
              case measure => simp [intOf]; omega
        · have hk7 : k = 7 := by omega
          subst hk7
          obtain ⟨gs, hg1, hg2, hg3⟩ := HO.out
          rw [weeksTo_len] at hg1
          have HG := hide (And.intro hg1 (And.intro hg2 hg3))
          clear hg1 hg2 hg3 HO
          rw [show (((7 : Nat) : Int)) = 7 from rfl]
          go_wp2_with (first | (at_builtin; go_loud (refine wpList_append_k rfl (.tmp 77) (.tmp 79) rfl rfl Try.underlying46 HIS.out.1 HIS.out.2.1 HIS.out.2.2.1 (by decide) rfl (by have := HIS.out.2.2.2; omega) w.heap.size j _ (gs.map (rowV 7)) [rowV 7 (w.heap.size + os.size)] _ rfl ((HG.out.1.alloc _).alloc _) rfl (by intro u hu; simp only [List.mem_cons, List.not_mem_nil, or_false] at hu; subst hu; rfl) rfl (rowCell os n _ _) (by have := HJ.out; omega) (by simp only [World.size_alloc, plus_size]; omega) ?_; intro v' w1 hown1 hgr1 hfr1; have hpush := RowsOwn.push (r := weekPart a (a + L) mo 7) gs HG.out.2.1 (fun q h h' => ⟨(HG.out.2.2 q h h').1, (HG.out.2.2 q h h').2.1, ((HG.out.2.2 q h h').2.2.alloc _).alloc _⟩) (g := w.heap.size + os.size) (by omega) (fun h => by have := (HG.out.1.lt _ h).2; rw [plus_size] at this; omega) (rowBlk os n _ _) (by rw [weeksTo_len]; exact hown1) hgr1 hfr1; obtain ⟨os9, n9, rfl⟩ := grown_plus (L := w) (by repeat (first | exact Below.refl _ _ | refine bl_plus ?_ | refine bl_alloc ?_ _ | refine bl_drew ?_)) hgr1 (fun q hq => (HG.out.1.lt q hq).1); have HN := hide hpush; clear hpush hown1 hgr1 hfr1)))
          go_roundw
          case rel => exact ⟨j + 1, _, _, hide (by have := Q1.out; omega), by rw [← HMO.out]; exact congrArg (Value.int .i64) (by omega), by rw [HS.out]; exact HN.out, rfl⟩
          case measure => simp [intOf]; omega
    · have Q1 := hide q1
      clear q1
      go_wp2_with (go_at_call 88; refine (clipRows_any _ _ _ _ hc5.1).mono ?_; rintro e w' ⟨rfl, rfl⟩)
      go_returns
      refine gridOut_mk (rows := weeksTo a (a + L) (weekCount a (a + L))) (v := .slice A5 j c5) (by rw [← Q1.out]; exact HO.out) rfl (weeksTo_seven _ _ _) (by repeat (first | exact Below.refl _ _ | refine bl_plus ?_ | refine bl_alloc ?_ _ | refine bl_drew ?_))

set_option maxHeartbeats 12800000 in
set_option maxRecDepth 100000 in
theorem gridOf_ok (y m : Int) (w : World) (hy : 2001 ≤ y) (hy2 : y ≤ 2300) (h1 : 1 ≤ m) (h2 : m ≤ 12) (hn : num y m (mlen y m) ≤ 100000) :
    Calls Try.prog 28 #[.int .i64 y, .int .i64 m] w (GridOut (weeksTo (num y m 1) (num y m 1 + mlen y m) (weekCount (num y m 1) (num y m 1 + mlen y m)), 0) w) := by
  have hb := mlen_bd y m
  have hl := num_last y m
  have hge := num_ge hy h1 h2 (d := 1) (by omega)
  have hsp := fun w => monthSpan_any y m w hy hy2 h1 h2
  have hso := fun w => spanOf_any (num y m 1) (num y m (mlen y m)) w
  have hr : spanR (num y m 1) (num y m (mlen y m)) = (num y m 1, num y m (mlen y m), 0) := if_pos ⟨⟨by omega, by omega⟩, ⟨by omega, by omega⟩⟩
  rw [hr] at hso
  have hl2 : num y m 1 + mlen y m = num y m (mlen y m) + 1 := by omega
  rw [hl2]
  clear hr hl2
  generalize num y m (mlen y m) = la at *
  generalize num y m 1 = a at *
  generalize mlen y m = ln at *
  obtain ⟨iS, hiS, hzS0, hzS1, hzS2⟩ := info_parts info_slint
  have HIS := hide (And.intro hiS (And.intro hzS0 (And.intro hzS1 hzS2)))
  have HK := hide (weekCount_in (a := a) (b := la + 1) (by omega))
  have HSP := hide hsp
  have HSO := hide hso
  have a1 : a ≤ la := by omega
  clear hiS hzS0 hzS1 hzS2 hsp hso hl hb
  go_enter Try.func28, Try.ntmps28
  go_wp2_with (first | (go_at_call 89; refine (HSP.out _).mono ?_; rintro e w' ⟨rfl, hbl⟩; obtain ⟨os1, n1, rfl⟩ := below_plus hbl; clear hbl) | (go_at_call 90; refine (HSO.out _).mono ?_; rintro e w' ⟨rfl, rfl⟩))
  go_loopw [11, 12] (fun v i wr => ∃ (j : Nat) (os : Array Obj) (n : Nat), Hid (j ≤ weekCount a (la + 1)) ∧ i = .int .i64 (a - a % 7 + 7 * j) ∧ RowsOwn 7 wr w.heap.size v (weeksTo a (la + 1) j) ∧ wr = plus w os n) (fun _ i _ => (la + 1 - intOf i).toNat)
  case atStart => exact ⟨0, _, _, hide (Nat.zero_le _), by simp, RowsOwn.empty, rfl⟩
  case round =>
    obtain ⟨j, os, n, HJ0, rfl, ho, rfl⟩ := hrel
    have hjk := HJ0.out
    obtain ⟨k1, k2⟩ := HK.out
    have hmb : 0 ≤ a - a % 7 + 7 * (j : Int) ∧ a - a % 7 + 7 * (j : Int) ≤ 200000 := by omega
    have hcase : (j < weekCount a (la + 1) ∧ a - a % 7 + 7 * (j : Int) < la + 1) ∨ (j = weekCount a (la + 1) ∧ ¬ a - a % 7 + 7 * (j : Int) < la + 1) := by omega
    have HJ : Hid (j < 100000) := by show _ < _; omega
    have hs := weeksTo_succ a (la + 1) j
    obtain ⟨A5, c5, rfl, hc5⟩ := ho.form
    have hlj := weeksTo_len a (la + 1) j
    rw [hlj] at hc5
    rw [← weekPart_full] at hs
    have HS := hide hs
    have HO := hide ho
    have HLJ := hide hlj
    clear hs ho hjk k1 k2 HJ0
    rw [hlj] at HO ⊢
    clear hlj
    obtain ⟨mb0, mb1⟩ := hmb
    rcases hcase with ⟨q1, q2⟩ | ⟨q1, q2⟩
    · generalize hmo : a - a % 7 + 7 * (j : Int) = mo at *
      have HMO := hide hmo
      have Q1 := hide q1
      clear hmo q1
      have hmk := fun w => make_ints 7 w (by omega)
      rw [weekPart_zero a (la + 1) mo] at hmk
      simp only [show ((7 : Nat) : Int) = 7 from rfl] at hmk
      go_wp2
      clear hmk
      go_loopw [57] (fun i wr => ∃ k : Nat, k ≤ 7 ∧ i = .int .i64 k ∧ wr = (plus w os n).alloc (.cells (ints (weekPart a (la + 1) mo k)) 3)) (fun i _ => 7 - (intOf i).toNat)
      case atStart => exact ⟨0, Nat.zero_le _, rfl, rfl⟩
      case round =>
        obtain ⟨k, hk, rfl, rfl⟩ := hrel
        by_cases hlt : k < 7
        · have hsz := weekPart_len a (la + 1) mo k
          have hgt : (ints (weekPart a (la + 1) mo k))[k]? = some (.int .i64 ((weekPart a (la + 1) mo k)[k]'(by omega))) := ints_get (by omega)
          have hset := weekPart_set a (la + 1) mo k
          have HSET := hide hset
          have HSZ := hide hsz
          generalize (weekPart a (la + 1) mo k)[k]'(by omega) = x0 at hgt
          clear hset hsz
          have HP := hide (Eq.refl (weekPart a (la + 1) mo k))
          generalize weekPart a (la + 1) mo k = P at *
          have hg2 : ∀ x : Int, ((ints P).setIfInBounds k (.int .i64 x))[k]? = some (.int .i64 x) := fun x => by rw [ints_set, ints_get (by rw [List.length_set, HSZ.out]; exact hlt), List.getElem_set_self]
          have i1 : (k : Int) < 7 := by omega
          by_cases hin : a ≤ mo + k ∧ mo + k < la + 1
          · have hd : dayIn a (la + 1) (mo + k) = mo + k := if_pos hin
            rw [hd] at HSET
            clear hd
            obtain ⟨d1, d2⟩ := hin
            go_wp2
            go_roundw
            case rel => exact ⟨k + 1, by omega, by go_num, by rw [ints_set, HSET.out]⟩
            case measure => simp [intOf]; omega
          · have hd : dayIn a (la + 1) (mo + k) = -1 := if_neg hin
            rw [hd] at HSET
            clear hd
            have hor : mo + k < a ∨ (a ≤ mo + k ∧ ¬ mo + k < la + 1) := by omega
            clear hin
            rcases hor with d1 | ⟨d1, d2⟩
            all_goals
              go_wp2
              go_roundw
              case rel => exact ⟨k + 1, by omega, by go_num, by rw [ints_set, HSET.out]⟩
              case measure => simp [intOf]; omega
        · have hk7 : k = 7 := by omega
          subst hk7
          obtain ⟨gs, hg1, hg2, hg3⟩ := HO.out
          rw [weeksTo_len] at hg1
          have HG := hide (And.intro hg1 (And.intro hg2 hg3))
          clear hg1 hg2 hg3 HO
          rw [show (((7 : Nat) : Int)) = 7 from rfl]
          go_wp2_with (first | (at_builtin; go_loud (refine wpList_append_k rfl (.tmp 82) (.tmp 84) rfl rfl Try.underlying46 HIS.out.1 HIS.out.2.1 HIS.out.2.2.1 (by decide) rfl (by have := HIS.out.2.2.2; omega) w.heap.size j _ (gs.map (rowV 7)) [rowV 7 (w.heap.size + os.size)] _ rfl ((HG.out.1.alloc _).alloc _) rfl (by intro u hu; simp only [List.mem_cons, List.not_mem_nil, or_false] at hu; subst hu; rfl) rfl (rowCell os n _ _) (by have := HJ.out; omega) (by simp only [World.size_alloc, plus_size]; omega) ?_; intro v' w1 hown1 hgr1 hfr1; have hpush := RowsOwn.push (r := weekPart a (la + 1) mo 7) gs HG.out.2.1 (fun q h h' => ⟨(HG.out.2.2 q h h').1, (HG.out.2.2 q h h').2.1, ((HG.out.2.2 q h h').2.2.alloc _).alloc _⟩) (g := w.heap.size + os.size) (by omega) (fun h => by have := (HG.out.1.lt _ h).2; rw [plus_size] at this; omega) (rowBlk os n _ _) (by rw [weeksTo_len]; exact hown1) hgr1 hfr1; obtain ⟨os9, n9, rfl⟩ := grown_plus (L := w) (by repeat (first | exact Below.refl _ _ | refine bl_plus ?_ | refine bl_alloc ?_ _ | refine bl_drew ?_)) hgr1 (fun q hq => (HG.out.1.lt q hq).1); have HN := hide hpush; clear hpush hown1 hgr1 hfr1)))
          go_roundw
          case rel => exact ⟨j + 1, _, _, hide (by have := Q1.out; omega), by rw [← HMO.out]; exact congrArg (Value.int .i64) (by omega), by rw [HS.out]; exact HN.out, rfl⟩
          case measure => simp [intOf]; omega
    · have Q1 := hide q1
      clear q1
      go_wp2_with (fail)
      go_returns
      refine gridOut_mk (rows := weeksTo a (la + 1) (weekCount a (la + 1))) (v := .slice A5 j c5) (by rw [← Q1.out]; exact HO.out) rfl (weeksTo_seven _ _ _) (by repeat (first | exact Below.refl _ _ | refine bl_plus ?_ | refine bl_alloc ?_ _ | refine bl_drew ?_))

end Go.Proofs.Ytfklaahakibljaa
