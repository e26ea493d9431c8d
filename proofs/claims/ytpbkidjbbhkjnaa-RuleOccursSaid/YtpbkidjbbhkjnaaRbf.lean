/-
  WALKS: the units of a rule: weeks, years; a month's first day and its length.
-/
import Derived.Test.YtpbkidjbbhkjnaaRbe
import Derived.Test.YtpbkidjbbhkjnaaDayD
import Derived.Test.YtpbkidjbbhkjnaaDayH
namespace Go.Proofs.Ytpbkidjbbhkjnaa
open Go.RowKit Cal

theorem own_addr {w : World} {base : Nat} {e : TypeId} {size n c : Nat} {A : Option Addr} {xs : List Value} (h : w.ownsRow base e size (.slice A n c) n xs) : ∀ a, A = some a → base ≤ a.block := by
  intro a ha
  subst ha
  exact own_block h a.block rfl

set_option maxHeartbeats 3200000 in
theorem has_low (y m d : Int) (w : World) (h1 : 1 ≤ d) (h28 : d ≤ 28) :
    Calls Try.prog 109 #[.int .i64 y, .int .i64 m, .int .i64 d] w fun e w' => e = .returned (.bool true) ∧ w = w' := by
  have h29 : (d == 29) = false := by simp; omega
  by_cases hm : m = 2
  · subst hm
    go_enter Try.func109, Try.ntmps109
    go_wp2
    go_ret
    exact ⟨ret_bool (by simp), rfl⟩
  · have hm2 : (m == 2) = false := by simp [hm]
    by_cases h4 : m = 4
    · subst h4
      go_enter Try.func109, Try.ntmps109
      go_wp2
      go_ret
      exact ⟨ret_bool (by simp; omega), rfl⟩
    have hm4 : (m == 4) = false := by simp [h4]
    by_cases h6 : m = 6
    · subst h6
      go_enter Try.func109, Try.ntmps109
      go_wp2
      go_ret
      exact ⟨ret_bool (by simp; omega), rfl⟩
    have hm6 : (m == 6) = false := by simp [h6]
    by_cases h9 : m = 9
    · subst h9
      go_enter Try.func109, Try.ntmps109
      go_wp2
      go_ret
      exact ⟨ret_bool (by simp; omega), rfl⟩
    have hm9 : (m == 9) = false := by simp [h9]
    by_cases h11 : m = 11
    · subst h11
      go_enter Try.func109, Try.ntmps109
      go_wp2
      go_ret
      exact ⟨ret_bool (by simp; omega), rfl⟩
    have hm11 : (m == 11) = false := by simp [h11]
    go_enter Try.func109, Try.ntmps109
    go_wp2
    go_ret
    exact ⟨ret_bool (by simp; omega), rfl⟩
theorem has_all (y m d : Int) (w : World) (hy : 0 ≤ y) (hy2 : y ≤ 100000) (h1 : 1 ≤ d) (h31 : d ≤ 31) :
    Calls Try.prog 109 #[.int .i64 y, .int .i64 m, .int .i64 d] w fun e w' => e = .returned (.bool (decide (d ≤ mlen y m))) ∧ w = w' := by
  by_cases h : 29 ≤ d
  · exact has_any y m d w hy hy2 h h31
  · have := (mlen_bd y m).1
    rw [decide_eq_true (by omega)]
    exact has_low y m d w h1 (by omega)
theorem has_yes (y m d : Int) (w : World) (hy : 0 ≤ y) (hy2 : y ≤ 100000) (h1 : 1 ≤ d) (h31 : d ≤ 31) (h : d ≤ mlen y m) :
    Calls Try.prog 109 #[.int .i64 y, .int .i64 m, .int .i64 d] w fun e w' => e = .returned (.bool true) ∧ w = w' := by
  have := has_all y m d w hy hy2 h1 h31
  rwa [decide_eq_true h] at this
theorem has_no (y m d : Int) (w : World) (hy : 0 ≤ y) (hy2 : y ≤ 100000) (h1 : 1 ≤ d) (h31 : d ≤ 31) (h : mlen y m < d) :
    Calls Try.prog 109 #[.int .i64 y, .int .i64 m, .int .i64 d] w fun e w' => e = .returned (.bool false) ∧ w = w' := by
  have := has_all y m d w hy hy2 h1 h31
  rwa [decide_eq_false (by omega)] at this

theorem dayOfR_yes {y m d : Int} (h1 : 2001 ≤ y) (h2 : 1 ≤ m) (h3 : m ≤ 12) (h4 : 1 ≤ d) (h5 : d ≤ mlen y m) (h6 : num y m d ≤ 100000) : dayOfR y m d = (num y m d, 0) := by
  have : y ≤ 9999 := by
    rcases Int.lt_or_le 9999 y with hl | hl
    · have a1 := yd_mono (a := 9999) (b := y) (by omega)
      have a2 : 100000 < yd 9999 := by decide
      have a3 := cum_mono (y := y) (m := 1) (n := m) (by omega) h2 (by omega)
      rw [cum_1] at a3
      unfold num at h6
      omega
    · exact hl
  unfold dayOfR
  rw [if_pos ⟨h1, this, h2, h3, h4, h5, h6⟩]
theorem dayOfR_far {y m d : Int} (h6 : 100000 < num y m d) : dayOfR y m d = (0, 2) := by
  unfold dayOfR
  rw [if_neg (fun h => by omega)]
theorem firstOf_year {n : Int} (h : firstOf n ≤ 100000) : n / 12 ≤ 2300 := by
  rcases Int.lt_or_le 2300 (n / 12) with hl | hl
  · have a1 := yd_mono (a := 2300) (b := n / 12) (by omega)
    have a2 : yd 2300 = 109207 := by decide
    have a3 := cum_mono (y := n / 12) (m := 1) (n := n % 12 + 1) (by omega) (by omega) (by omega)
    rw [cum_1] at a3
    unfold firstOf num at h
    omega
  · exact hl
theorem yd_year {y : Int} (h : yd y ≤ 100000) : y ≤ 2300 := by
  rcases Int.lt_or_le 2300 y with hl | hl
  · have a1 := yd_mono (a := 2300) (b := y) (by omega)
    have a2 : yd 2300 = 109207 := by decide
    omega
  · exact hl

set_option maxHeartbeats 1600000 in
set_option maxRecDepth 100000 in
theorem month_yes (n : Int) (w : World) (h0 : 24012 ≤ n) (h : firstOf n ≤ 100000) :
    Calls Try.prog 104 #[.int .i64 n] w fun e w' => e = .returned (.tuple #[.int .i64 (firstOf n), .int .i64 (mlen (n / 12) (n % 12 + 1)), .bool true]) ∧ Below w.heap.size w w' := by
  have hyr := firstOf_year h
  have hml := mlen_bd (n / 12) (n % 12 + 1)
  have HD := hide (show ∀ w, Calls Try.prog 108 #[.int .i64 (n / 12), .int .i64 (n % 12 + 1), .int .i64 1] w fun e w' => e = .returned (.tuple #[.int .i64 (firstOf n), .int .i64 0]) ∧ Below w.heap.size w w' from fun w => by
    have := dayOf_any (n / 12) (n % 12 + 1) 1 w
    rwa [dayOfR_yes (by omega) (by omega) (by omega) (by omega) (by omega) h] at this)
  have HY := hide (fun d w h1 h2 h3 => has_yes (n / 12) (n % 12 + 1) d w (by omega) (by omega) h1 h2 h3)
  have HN := hide (fun d w h1 h2 h3 => has_no (n / 12) (n % 12 + 1) d w (by omega) (by omega) h1 h2 h3)
  clear h
  generalize mlen (n / 12) (n % 12 + 1) = L at *
  generalize firstOf n = F at *
  obtain ⟨l1, l2⟩ := hml
  go_enter Try.func104, Try.ntmps104
  go_wp2_with (first | (go_at_call 108; refine (HD.out _).mono ?_; rintro e w' ⟨rfl, hbl⟩; obtain ⟨os1, n1, rfl⟩ := below_plus hbl; clear hbl))
  go_loopw [3] (fun l wr => ∃ (x : Int), L ≤ x ∧ x ≤ 31 ∧ l = .int .i64 x ∧ wr = plus w os1 n1) (fun l _ => (intOf l).toNat)
  case atStart => exact ⟨31, by omega, by omega, rfl, rfl⟩
  case round =>
    obtain ⟨x, x1, x2, rfl, rfl⟩ := hrel
    by_cases hx : L < x
    · go_wp2_with (go_at_call 109; refine (HN.out x _ (by omega) (by omega) hx).mono ?_; rintro e w' ⟨rfl, rfl⟩)
      go_roundw
      case rel => exact ⟨x - 1, by omega, by omega, rfl, (by first | rfl | trivial)⟩
      case measure => simp [intOf]; omega
    · have hxL : x = L := by omega
      subst hxL
      by_cases h28 : 28 < x
      · go_wp2_with (go_at_call 109; refine (HY.out x _ (by omega) (by omega) (by omega)).mono ?_; rintro e w' ⟨rfl, rfl⟩)
        go_returns
        exact ⟨rfl, (by repeat (first | exact Below.refl _ _ | refine bl_plus ?_ | refine bl_alloc ?_ _ | refine bl_drew ?_ | refine bl_drewN ?_ _))⟩
      · go_wp2
        go_returns
        exact ⟨rfl, (by repeat (first | exact Below.refl _ _ | refine bl_plus ?_ | refine bl_alloc ?_ _ | refine bl_drew ?_ | refine bl_drewN ?_ _))⟩

set_option maxHeartbeats 1600000 in
set_option maxRecDepth 100000 in
theorem month_no (n : Int) (w : World) (h0 : 24012 ≤ n) (h1 : n ≤ 1000000000) (h : 100000 < firstOf n) :
    Calls Try.prog 104 #[.int .i64 n] w fun e w' => e = .returned (.tuple #[.int .i64 0, .int .i64 0, .bool false]) ∧ Below w.heap.size w w' := by
  have HD := hide (show ∀ w, Calls Try.prog 108 #[.int .i64 (n / 12), .int .i64 (n % 12 + 1), .int .i64 1] w fun e w' => e = .returned (.tuple #[.int .i64 0, .int .i64 2]) ∧ Below w.heap.size w w' from fun w => by
    have := dayOf_any (n / 12) (n % 12 + 1) 1 w
    rwa [dayOfR_far h] at this)
  clear h
  go_enter Try.func104, Try.ntmps104
  go_wp2_with (first | (go_at_call 108; refine (HD.out _).mono ?_; rintro e w' ⟨rfl, hbl⟩; obtain ⟨os1, n1, rfl⟩ := below_plus hbl; clear hbl))
  go_returns
  exact ⟨rfl, (by repeat (first | exact Below.refl _ _ | refine bl_plus ?_ | refine bl_alloc ?_ _ | refine bl_drew ?_ | refine bl_drewN ?_ _))⟩

set_option maxHeartbeats 3200000 in
set_option maxRecDepth 100000 in
theorem weekDays_any (r : Rul) (h : r.Ok) (hu : r.u = 2) (k : Nat) (hk : k ≤ 100001) (v : Value) (w : World) (hr : RulAt w r v) :
    Calls Try.prog 84 #[v, .int .i64 k] w (UnitOut r k w) := by
  obtain ⟨A, B, C, a, b, c, rfl, h1, h2, h3, h4, h5, h6⟩ := hr.ex
  unfold maxLen at h4 h5 h6
  have hpl := r.pl_weeks h hu k
  have hblk : r.blk k = r.f - r.f % 7 + 7 * ((k : Int) * r.e) := by unfold Rul.blk; rw [if_neg (by omega), if_pos hu]
  have hm := k_mul hk h.e
  have hf := h.f
  have hwb := r.wds_in h
  have hlen : r.wds.length ≤ 1000 := by
    have := pairwise_len (lo := 0) (N := 7) (r.wds_rising h) (fun x hx => by have := hwb x hx; omega)
    omega
  have HPO : Hid ((∀ w' A c, r.blk k ≤ 100000 → IntsAt w' A (r.pl k) → (0 < (r.pl k).length → ∀ a, A = some a → w.heap.size ≤ a.block) → Below w.heap.size w w' → UnitOut r k w (.returned (.tuple #[.slice A r.wds.length c, .bool true])) w') ∧
      (∀ w' A n c, 100000 < r.blk k → Below w.heap.size w w' → UnitOut r k w (.returned (.tuple #[.slice A n c, .bool false])) w')) :=
    hide ⟨fun w' A c ha hi hn hb => by have := unit_yes (c := c) ha rfl hi hn (by rw [hpl, List.length_map]; exact hlen) hb; rwa [hpl, List.length_map] at this, fun w' A n c ha hb => unit_no ha hb⟩
  generalize UnitOut r k w = PO at *
  rw [hpl] at HPO
  have HI0 := hide h1
  have HWS := hide (rfl : r.wds = r.wds)
  have hWS : r.wds = if r.wd = [] then [r.f % 7] else r.wd := rfl
  have HWB := hide hwb
  clear hpl h1 h2 h3 h hr hwb HWS
  have HWS := hide hWS
  clear hWS
  generalize r.wds = ws at *
  obtain ⟨u, e, f, t, cc, n, wd, da, sk⟩ := r
  simp only at *
  obtain ⟨hm1, hm2⟩ := hm
  obtain ⟨hf1, hf2⟩ := hf
  have hmul : IntKind.i64.wrap (7 * (k : Int) * e) = 7 * ((k : Int) * e) := by rw [Int.mul_assoc]; exact IntWalk.i64_in _ (by omega)
  generalize hq : (k : Int) * e = q at *
  clear hq hu
  generalize Rul.blk _ k = m at *
  obtain ⟨m1, m2⟩ : 0 ≤ m ∧ m ≤ 1000000000 := by omega
  have hmf : f - f % 7 + 7 * q = m := hblk.symm
  have HMF := hide hmf
  clear hblk hmf
  by_cases hw : wd = []
  · subst hw
    have hwds : (if ([] : List Int) = [] then [f % 7] else []) = [f % 7] := if_pos rfl
    go_enter Try.func84, Try.ntmps84
    go_upto_region 5 with (fail)
    rw [HMF.out]
    clear HI0
    have hi0 : IntsAt ((w.alloc (.cells #[.int .i64 u, .int .i64 e, .int .i64 f, .int .i64 t, .int .i64 cc, .slice A 0 a, .slice B da.length b, .int .i64 n, .slice C sk.length c] 35)).alloc (.cells #[.int .i64 (f % 7)] 3)) (some ⟨w.heap.size + 1, 0, none⟩) [f % 7] := ints_one (by first | rfl | simp [go_sem])
    have HVS := hide (show w.heap.size ≤ ((w.alloc (.cells #[.int .i64 u, .int .i64 e, .int .i64 f, .int .i64 t, .int .i64 cc, .slice A 0 a, .slice B da.length b, .int .i64 n, .slice C sk.length c] 35)).alloc (.cells #[.int .i64 (f % 7)] 3)).heap.size by simp only [World.size_alloc]; omega)
    have HBV := hide (show Below w.heap.size w ((w.alloc (.cells #[.int .i64 u, .int .i64 e, .int .i64 f, .int .i64 t, .int .i64 cc, .slice A 0 a, .slice B da.length b, .int .i64 n, .slice C sk.length c] 35)).alloc (.cells #[.int .i64 (f % 7)] 3)) from (by repeat (first | exact Below.refl _ _ | refine bl_plus ?_ | refine bl_alloc ?_ _ | refine bl_drew ?_ | refine bl_drewN ?_ _)))
    generalize ((w.alloc (.cells #[.int .i64 u, .int .i64 e, .int .i64 f, .int .i64 t, .int .i64 cc, .slice A 0 a, .slice B da.length b, .int .i64 n, .slice C sk.length c] 35)).alloc (.cells #[.int .i64 (f % 7)] 3)) = V at *
    have hwl : (1 : Nat) = ws.length := by have := HWS.out; rw [if_pos rfl] at this; rw [this]; rfl
    have hi1 : IntsAt V (some ⟨w.heap.size + 1, 0, none⟩) ws := by have := HWS.out; rw [if_pos rfl] at this; rw [this]; exact hi0
    have HI := hide hi1
    have HWL := hide hwl
    clear hi0 hi1 hwl hwds HWS
    generalize (some ⟨w.heap.size + 1, 0, none⟩ : Option Addr) = A1 at *
    have hl1 : ((ws.length : Nat) : Int) = 1 := by have := HWL.out; omega
    go_wp2
    go_loopw [8, 34] (fun o i wr => ∃ (j : Nat) (os : Array Obj) (n : Nat), j ≤ ws.length ∧ i = .int .i64 j ∧ wr = plus V os n ∧ wr.ownsRow V.heap.size 3 1 o j (((ws.take j).map (fun x => m + x)).map (Value.int .i64))) (fun _ i _ => ws.length - (intOf i).toNat)
    case atStart => exact ⟨0, #[], _, Nat.zero_le _, rfl, plus_nil.symm, own_none⟩
    case round =>
      obtain ⟨j, os, n', hj, rfl, rfl, hown⟩ := hrel
      by_cases hlt : j < ws.length
      · obtain ⟨b', off, rfl, hb', hcell⟩ := HI.out (by omega)
        have c0 := hcell j hlt
        have hwj := HWB.out ws[j] (List.getElem_mem hlt)
        have hts := List.take_succ_eq_append_getElem hlt
        have HTS := hide hts
        obtain ⟨x1, x2⟩ := hwj
        clear hcell hts
        have i1 : (j : Int) < 1 := by have := HWL.out; omega
        generalize ws[j] = x at *
        have HOWN := hide hown
        clear hown
        go_wp2_with (at_builtin; refine wpList_append_int rfl (.tmp 38) (.tmp 42) rfl V.heap.size j _ ((ws.take j).map (fun x => m + x)) (m + x) _ rfl HOWN.out rfl (by simp [plus_size]) (by omega) (by simp [plus_size]) ?_; intro v' w1 hown1 hb1; obtain ⟨os3, n3, rfl⟩ := over_plus (L := V) rfl (by repeat (first | exact Below.refl _ _ | refine bl_plus ?_ | refine bl_alloc ?_ _ | refine bl_drew ?_ | refine bl_drewN ?_ _)) hb1; have HO2 := hide hown1; clear hb1 hown1)
        go_roundw
        case rel => exact ⟨j + 1, _, _, hlt, by go_num, rfl, by rw [HTS.out, List.map_append]; exact HO2.out⟩
        case measure => simp [intOf]; omega
      · have hjl : j = ws.length := by omega
        subst hjl
        rw [List.take_length] at hown
        obtain ⟨B2, c2, rfl, hnc, _, _⟩ := own_form hown
        have HR1 := hide (intsAt_of_own hown)
        have HR2 := hide (own_addr hown)
        clear hown
        by_cases hd : m ≤ 100000
        · go_wp2
          exact HPO.out.1 _ _ _ hd HR1.out (fun _ a ha => Nat.le_trans HVS.out (HR2.out a ha)) (HBV.out.trans (Below.mono (by repeat (first | exact Below.refl _ _ | refine bl_plus ?_ | refine bl_alloc ?_ _ | refine bl_drew ?_ | refine bl_drewN ?_ _)) HVS.out))
        · go_wp2
          exact HPO.out.2 _ _ _ _ (by omega) (HBV.out.trans (Below.mono (by repeat (first | exact Below.refl _ _ | refine bl_plus ?_ | refine bl_alloc ?_ _ | refine bl_drew ?_ | refine bl_drewN ?_ _)) HVS.out))
  · have hw2 : 0 < wd.length := by
      rcases wd with _ | ⟨x, y⟩
      · exact absurd rfl hw
      · simp
    have hwds : ws = wd := HWS.out.trans (if_neg hw)
    subst hwds
    go_enter Try.func84, Try.ntmps84
    go_upto_region 5 with (fail)
    rw [HMF.out]
    have HVS := hide (show w.heap.size ≤ (w.alloc (.cells #[.int .i64 u, .int .i64 e, .int .i64 f, .int .i64 t, .int .i64 cc, .slice A ws.length a, .slice B da.length b, .int .i64 n, .slice C sk.length c] 35)).heap.size by simp only [World.size_alloc]; omega)
    have HBV := hide (show Below w.heap.size w (w.alloc (.cells #[.int .i64 u, .int .i64 e, .int .i64 f, .int .i64 t, .int .i64 cc, .slice A ws.length a, .slice B da.length b, .int .i64 n, .slice C sk.length c] 35)) from (by repeat (first | exact Below.refl _ _ | refine bl_plus ?_ | refine bl_alloc ?_ _ | refine bl_drew ?_ | refine bl_drewN ?_ _)))
    have HI := hide (show IntsAt (w.alloc (.cells #[.int .i64 u, .int .i64 e, .int .i64 f, .int .i64 t, .int .i64 cc, .slice A ws.length a, .slice B da.length b, .int .i64 n, .slice C sk.length c] 35)) A ws from HI0.out.alloc _)
    generalize (w.alloc (.cells #[.int .i64 u, .int .i64 e, .int .i64 f, .int .i64 t, .int .i64 cc, .slice A ws.length a, .slice B da.length b, .int .i64 n, .slice C sk.length c] 35)) = V at *
    clear HI0 HWS hw hw2
    generalize ((ws.length : Int) == 0) = bz at *
    obtain rfl : bz = false := by assumption
    go_wp2
    go_loopw [8, 34] (fun o i wr => ∃ (j : Nat) (os : Array Obj) (n : Nat), j ≤ ws.length ∧ i = .int .i64 j ∧ wr = plus V os n ∧ wr.ownsRow V.heap.size 3 1 o j (((ws.take j).map (fun x => m + x)).map (Value.int .i64))) (fun _ i _ => ws.length - (intOf i).toNat)
    case atStart => exact ⟨0, #[], _, Nat.zero_le _, rfl, plus_nil.symm, own_none⟩
    case round =>
      obtain ⟨j, os, n', hj, rfl, rfl, hown⟩ := hrel
      by_cases hlt : j < ws.length
      · obtain ⟨b', off, rfl, hb', hcell⟩ := HI.out (by omega)
        have c0 := hcell j hlt
        have hwj := HWB.out ws[j] (List.getElem_mem hlt)
        have hts := List.take_succ_eq_append_getElem hlt
        have HTS := hide hts
        obtain ⟨x1, x2⟩ := hwj
        clear hcell hts
        have i1 : (j : Int) < (ws.length : Int) := by omega
        generalize ws[j] = x at *
        have HOWN := hide hown
        clear hown
        go_wp2_with (at_builtin; refine wpList_append_int rfl (.tmp 38) (.tmp 42) rfl V.heap.size j _ ((ws.take j).map (fun x => m + x)) (m + x) _ rfl HOWN.out rfl (by simp [plus_size]) (by omega) (by simp [plus_size]) ?_; intro v' w1 hown1 hb1; obtain ⟨os3, n3, rfl⟩ := over_plus (L := V) rfl (by repeat (first | exact Below.refl _ _ | refine bl_plus ?_ | refine bl_alloc ?_ _ | refine bl_drew ?_ | refine bl_drewN ?_ _)) hb1; have HO2 := hide hown1; clear hb1 hown1)
        go_roundw
        case rel => exact ⟨j + 1, _, _, hlt, by go_num, rfl, by rw [HTS.out, List.map_append]; exact HO2.out⟩
        case measure => simp [intOf]; omega
      · have hjl : j = ws.length := by omega
        subst hjl
        rw [List.take_length] at hown
        obtain ⟨B2, c2, rfl, hnc, _, _⟩ := own_form hown
        have HR1 := hide (intsAt_of_own hown)
        have HR2 := hide (own_addr hown)
        clear hown
        by_cases hd : m ≤ 100000
        · go_wp2
          exact HPO.out.1 _ _ _ hd HR1.out (fun _ a ha => Nat.le_trans HVS.out (HR2.out a ha)) (HBV.out.trans (Below.mono (by repeat (first | exact Below.refl _ _ | refine bl_plus ?_ | refine bl_alloc ?_ _ | refine bl_drew ?_ | refine bl_drewN ?_ _)) HVS.out))
        · go_wp2
          exact HPO.out.2 _ _ _ _ (by omega) (HBV.out.trans (Below.mono (by repeat (first | exact Below.refl _ _ | refine bl_plus ?_ | refine bl_alloc ?_ _ | refine bl_drew ?_ | refine bl_drewN ?_ _)) HVS.out))

end Go.Proofs.Ytpbkidjbbhkjnaa
