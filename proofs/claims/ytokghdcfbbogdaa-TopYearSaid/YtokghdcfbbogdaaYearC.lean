/-
  WALKS: TopYear.
-/
import Derived.Test.YtokghdcfbbogdaaYearA
import Derived.Test.YtokghdcfbbogdaaYearB
import Derived.Test.YtokghdcfbbogdaaSimD
import Derived.Test.YtokghdcfbbogdaaTopA
import Derived.StillTailTactics
namespace Go.Proofs.Ytokghdcfbbogdaa
open Go.RowKit

theorem simulate_zero {xs : List St} {gs : List Int} {fr days bn ba : Int} (h : (simulate xs gs fr days bn ba).2 = 0) : statesErr xs = 0 ∧ simErr gs fr days bn ba = 0 := by
  unfold simulate at h
  split at h
  · rename_i h1
    split at h
    · rename_i h2; exact ⟨h1, h2⟩
    · rename_i h2; exact absurd h h2
  · rename_i h1; exact absurd h h1

/-- The closure of TopYear: more than the bound. -/
theorem more_any (k ba : Int) (g : Nat) (w : World) (hc : w.cell? ⟨g, 1, none⟩ = some (.int .i64 ba)) (h : k ≤ ba) :
    Calls Try.prog 52 #[.int .i64 k, .pointer (some ⟨g, 0, none⟩)] w fun e w' => e = .returned (.bool false) ∧ w = w' := by
  go_enter Try.func52, Try.ntmps52
  go_wp2
  go_ret
  exact ⟨by simp; omega, rfl⟩

set_option maxHeartbeats 1600000 in
set_option maxRecDepth 100000 in
theorem indexMore_any (A : Option Addr) (c : Nat) (l : List Int) (ba : Int) (g : Nat) (w : World) (hA : IntsAt w A l) (hc : w.cell? ⟨g, 1, none⟩ = some (.int .i64 ba)) (hl : l.length ≤ 1000000) (h : ∀ k ∈ l, k ≤ ba) :
    Calls Try.prog 89 #[.slice A l.length c, .func (.func 52) #[] #[.pointer (some ⟨g, 0, none⟩)]] w fun e w' => e = .returned (.int .i64 (-1)) ∧ w = w' := by
  have HA := hide hA
  have HB := hide (fun (j : Nat) (hj : j < l.length) => h l[j] (List.getElem_mem hj))
  have HM := hide (fun k h => more_any k ba g w hc h)
  clear hA h hc
  go_enter Try.func89, Try.ntmps89
  go_wp2
  go_loop [8] (fun i => ∃ k : Nat, k ≤ l.length ∧ i = .int .i64 k) (fun i => l.length - (intOf i).toNat)
  case atStart => exact ⟨0, Nat.zero_le _, rfl⟩
  case round =>
    obtain ⟨k, hk, rfl⟩ := hrel
    by_cases hlt : k < l.length
    · obtain ⟨b, off, rfl, hb, hcell⟩ := HA.out (by omega)
      have hc0 := hcell k hlt
      have hm := HB.out k hlt
      clear hcell
      generalize l[k] = x at hc0 hm
      have HX := hide (HM.out x hm)
      clear hm
      go_wp2_with (go_at_call 52; refine HX.out.mono ?_; rintro e w' ⟨rfl, rfl⟩)
      go_round
      case rel => exact ⟨k + 1, hlt, by go_num⟩
      case measure => simp [intOf]; omega
    · go_wp2
      go_ret
      exact ⟨rfl, rfl⟩

set_option maxHeartbeats 800000 in
set_option maxRecDepth 100000 in
theorem containsMore_any (A : Option Addr) (c : Nat) (l : List Int) (ba : Int) (g : Nat) (w : World) (hA : IntsAt w A l) (hc : w.cell? ⟨g, 1, none⟩ = some (.int .i64 ba)) (hl : l.length ≤ 1000000) (h : ∀ k ∈ l, k ≤ ba) :
    Calls Try.prog 51 #[.slice A l.length c, .func (.func 52) #[] #[.pointer (some ⟨g, 0, none⟩)]] w fun e w' => e = .returned (.bool false) ∧ w = w' := by
  have HI := hide (indexMore_any A c l ba g w hA hc hl h)
  clear hA hc h
  go_enter Try.func51, Try.ntmps51
  go_wp2_with (go_at_call 89; refine HI.out.mono ?_; rintro e w' ⟨rfl, rfl⟩)
  go_ret
  exact ⟨rfl, rfl⟩

theorem StsAt.nil_of {w : World} {A : Option Addr} {xs : List St} (h : StsAt w A xs) (e : A = none) : xs = [] := by
  rcases Nat.eq_zero_or_pos xs.length with h0 | h0
  · exact List.length_eq_zero_iff.1 h0
  · obtain ⟨b, off, hA, _⟩ := h h0
    rw [e] at hA; cases hA
theorem IntsAt.nil_of {w : World} {A : Option Addr} {l : List Int} (h : IntsAt w A l) (e : A = none) : l = [] := by
  rcases Nat.eq_zero_or_pos l.length with h0 | h0
  · exact List.length_eq_zero_iff.1 h0
  · obtain ⟨b, off, hA, _⟩ := h h0
    rw [e] at hA; cases hA
theorem equalInts_len (A B : Option Addr) (k k' c c' : Nat) (ns : List Int) (w : World) (e : ns.length = k) (e' : ns.length = k') (hA : IntsAt w A ns) (hB : IntsAt w B ns) (hm : ns.length ≤ maxLen) :
    Calls Try.prog 19 #[.slice A k c, .slice B k' c'] w fun e w' => e = .returned (.bool true) ∧ Below w.heap.size w w' := by
  subst e e'
  exact equalInts_same A B c c' ns w hA hB hm
theorem ints_drop {w : World} {b off r : Nat} {l : List Int} (h : b < w.heap.size ∧ ∀ j (h : j < l.length), w.cell? ⟨b, off + j, none⟩ = some (.int .i64 l[j])) : IntsAt w (some ⟨b, off + r, none⟩) (l.drop r) := fun hp => by
  refine ⟨b, off + r, rfl, h.1, fun j hj => ?_⟩
  rw [List.length_drop] at hj
  rw [Nat.add_assoc, h.2 (r + j) (by omega), List.getElem_drop]
theorem ints_take {w : World} {b off r : Nat} {l : List Int} (h : b < w.heap.size ∧ ∀ j (h : j < l.length), w.cell? ⟨b, off + j, none⟩ = some (.int .i64 l[j])) : IntsAt w (some ⟨b, off, none⟩) (l.take r) := fun hp => by
  refine ⟨b, off, rfl, h.1, fun j hj => ?_⟩
  rw [List.length_take] at hj
  rw [h.2 j (by omega), List.getElem_take]

set_option maxHeartbeats 12800000 in
set_option maxRecDepth 100000 in
theorem topYear_main (A A2 : Option Addr) (c c2 : Nat) (xs : List St) (gs : List Int) (fr : Int) (N1 N2 : Nat) (bn ba : Int) (w : World) (hA : StsAt w A xs) (hnil : A = none → xs = [] ∧ c = 0) (hG : IntsAt w A2 gs) (hc2 : gs.length ≤ c2)
    (hN : N1 + N2 ≤ 1500) (hz : (simulate xs gs fr ((N1 + N2 : Nat) : Int) bn ba).2 = 0) :
    Calls Try.prog 12 #[.slice A xs.length c, .slice A2 gs.length c2, .int .i64 fr, .int .i64 N1, .int .i64 N2, .agg #[.int .i64 bn, .int .i64 ba]] w fun e w' => e = .returned (.bool true) ∧ Below w.heap.size w w' := by
  obtain ⟨hx, hs⟩ := simulate_zero hz
  obtain ⟨h0, hgl, hgk, hfr, _, hfN, hbd⟩ := simErr_zero hs
  have hxl := len_of_statesErr hx
  obtain ⟨⟨⟨all, counts⟩, r⟩, hq⟩ : ∃ q, simulate xs gs fr ((N1 + N2 : Nat) : Int) bn ba = q := ⟨_, rfl⟩
  rw [hq] at hz
  obtain rfl : r = 0 := hz
  obtain ⟨one, n, m, q1, hnl, hs20, hn0, q2, hnm, hml, hcb, hall⟩ := simulate_two hq hx hs h0 hgl hgk hfr hN hfN hbd
  have hC1 := fun w h h' => simulate_any A A2 c c2 xs gs fr ((N1 + N2 : Nat) : Int) bn ba w h hnil h'
  rw [hq] at hC1
  have hC2 := fun w h h' => simulate_any A A2 c c2 xs gs fr N1 bn ba w h hnil h'
  rw [q1] at hC2
  have hC3 := fun A A2 c c2 w h hn h' => simulate_any A A2 c c2 one (gs.drop (sumN n % gs.length) ++ gs.take (sumN n % gs.length)) (fr + N1) N2 bn ba w h hn h'
  rw [q2] at hC3
  have hr : sumN n % gs.length < gs.length := Nat.mod_lt _ h0
  have hg2 : ((sumN n : Nat) : Int).tmod (gs.length : Int) = ((sumN n % gs.length : Nat) : Int) := by rw [Int.tmod_eq_emod_of_nonneg (by omega)]; omega
  generalize sumN n % gs.length = r at hr hg2 hC3 q2
  have hcl : counts.length ≤ 1500 := by rw [← hnm, List.length_append]; omega
  obtain ⟨rest, hrest⟩ : ∃ rest, rest = gs.drop r ++ gs.take r := ⟨_, rfl⟩
  rw [← hrest] at hC3
  have HREST := hide hrest
  have HNM := hide hnm
  clear hrest hnm
  subst hnl
  have HS := hide (fun k => sumN_le n k)
  have HSS := hide (fun k h => sumN_snoc n k h)
  have HFULL : Hid (sumN (n.take n.length) = sumN n) := by show _ = _; rw [List.take_length]
  have HN0 := hide (fun (j : Nat) (h : j < n.length) => hn0 n[j] (List.getElem_mem h))
  have HCB := hide hcb
  have HC1 := hide hC1
  have HC2 := hide hC2
  have HC3 := hide hC3
  have HA := hide hA
  have HG := hide hG
  have HML := hide hml
  have HALL := hide hall
  have hm1500 : m.length ≤ 1500 := by omega
  have hr0 : (0 : Int) ≤ ((r : Nat) : Int) := by omega
  have hrz : ((r : Nat) : Int) ≤ (gs.length : Int) := by omega
  have hrt : ((r : Nat) : Int).toNat = r := by omega
  have hcr : ¬ c2 = r := by omega
  have hcr2 : ((r : Nat) : Int) ≤ (c2 : Int) := by omega
  have hrn : r ≤ gs.length := by omega
  have hrc : r ≤ c2 := by omega
  have hal5 : all.length ≤ maxLen := by unfold maxLen; omega
  have HAL5 := hide hal5
  have hg0 : ¬ (gs.length : Int) = 0 := by omega
  have hg1 : ¬ gs = [] := by intro e; rw [e] at h0; simp at h0
  clear hcb hC1 hC2 hC3 hA hG hml hall hal5 hx hs hq q1 q2 hn0 hnil hgk hbd hfN
  go_enter Try.func12, Try.ntmps12
  go_upto_region 4 with (first | (go_at_call 41; refine (awake_any _).mono ?_; rintro e w' ⟨rfl, hb⟩; obtain ⟨os0, n0, rfl⟩ := below_plus hb; clear hb) | (go_at_call 37; refine (HC1.out _ (HA.out.below (by repeat (first | exact Below.refl _ _ | refine bl_plus ?_ | refine bl_alloc ?_ _ | refine bl_drew ?_))) (HG.out.below (by repeat (first | exact Below.refl _ _ | refine bl_plus ?_ | refine bl_alloc ?_ _ | refine bl_drew ?_)))).mono ?_; rintro e w' ⟨A3, c3, B3, d3, rfl, hS, hI, hzz, hb⟩; obtain ⟨os1, n1, rfl⟩ := below_plus hb; have S1 := hide hS; have I1 := hide hI; clear hb hS hI hzz))
  go_upto_region 9 with (go_at_call 37; refine (HC2.out _ (HA.out.below (by repeat (first | exact Below.refl _ _ | refine bl_plus ?_ | refine bl_alloc ?_ _ | refine bl_drew ?_))) (HG.out.below (by repeat (first | exact Below.refl _ _ | refine bl_plus ?_ | refine bl_alloc ?_ _ | refine bl_drew ?_)))).mono ?_; rintro e w' ⟨A4, c4, B4, d4, rfl, hS, hI, hzz, hb⟩; obtain ⟨os2, n2, rfl⟩ := below_plus hb; have S2 := hide hS; have I2 := hide hI; have Z2 := hide hzz; clear hb hS hI hzz)
  have hw1 : (plus (plus (plus (w.alloc (.cells #[.int .i64 bn, .int .i64 ba] 43)) os0 n0) os1 n1) os2 n2).cell? ⟨w.heap.size, 0, none⟩ = some (.int .i64 bn) ∧ (plus (plus (plus (w.alloc (.cells #[.int .i64 bn, .int .i64 ba] 43)) os0 n0) os1 n1) os2 n2).cell? ⟨w.heap.size, 1, none⟩ = some (.int .i64 ba) := by
    rw [plus_cell (by simp only [plus_size, World.size_alloc]; omega), plus_cell (by simp only [plus_size, World.size_alloc]; omega), plus_cell (by rw [World.size_alloc]; omega), plus_cell (by simp only [plus_size, World.size_alloc]; omega), plus_cell (by simp only [plus_size, World.size_alloc]; omega), plus_cell (by rw [World.size_alloc]; omega)]
    simp
  have hwl : w.heap.size < (plus (plus (plus (w.alloc (.cells #[.int .i64 bn, .int .i64 ba] 43)) os0 n0) os1 n1) os2 n2).heap.size := by simp only [plus_size, World.size_alloc]; omega
  have T1 := hide (S1.out.plus os2 n2)
  have J1 := hide (I1.out.plus os2 n2)
  have hVb : Below w.heap.size w (plus (plus (plus (w.alloc (.cells #[.int .i64 bn, .int .i64 ba] 43)) os0 n0) os1 n1) os2 n2) := by repeat (first | exact Below.refl _ _ | refine bl_plus ?_ | refine bl_alloc ?_ _ | refine bl_drew ?_)
  clear S1 I1
  generalize (plus (plus (plus (w.alloc (.cells #[.int .i64 bn, .int .i64 ba] 43)) os0 n0) os1 n1) os2 n2) = V at hw1 hwl T1 J1 S2 I2 hVb ⊢
  obtain ⟨hw0, hw1⟩ := hw1
  have HV := hide hVb
  clear hVb
  go_wp2
  go_loop [18, 68] (fun g i => ∃ k : Nat, k ≤ n.length ∧ i = .int .i64 k ∧ g = .int .i64 ((sumN (n.take k) : Nat) : Int)) (fun _ i => n.length - (intOf i).toNat)
  case atStart => exact ⟨0, Nat.zero_le _, rfl, rfl⟩
  case round =>
    obtain ⟨k, hk, rfl, rfl⟩ := hrel
    by_cases hlt : k < n.length
    · obtain ⟨b, off, rfl, hb, hcell⟩ := I2.out (by show 0 < n.length; omega)
      have hc0 : V.cell? ⟨b, off + k, none⟩ = some (.int .i64 n[k]) := hcell k hlt
      have hnn := HN0.out k hlt
      have hsl := HS.out k
      have hs1 := HSS.out k hlt
      have hsl2 := HS.out (k + 1)
      have HS1 : Hid (sumN (n.take (k + 1)) = sumN (n.take k) + n[k].toNat) := hs1
      obtain ⟨q, hq⟩ : ∃ q : Nat, n[k] = (q : Int) := ⟨n[k].toNat, by omega⟩
      rw [hq] at hc0 HS1
      have hq2 : sumN (n.take k) + q ≤ 20000 := by have := HS1.out; simp only [Int.toNat_natCast] at this; omega
      clear hcell hnn hsl hs1 hsl2 hq
      have HE : Hid ((sumN (n.take (k + 1)) : Int) = ((sumN (n.take k) : Nat) : Int) + (q : Int)) := by have := HS1.out; simp only [Int.toNat_natCast] at this; show _ = _; omega
      generalize sumN (n.take k) = s at hq2 HE HS1
      go_wp2
      go_round
      case rel => exact ⟨k + 1, hlt, by go_num, by rw [HE.out]⟩
      case measure => simp [intOf]; omega
    · have hkn : k = n.length := by omega
      subst hkn
      obtain ⟨bg, og, rfl, hbg, hgc⟩ := HG.out h0
      have HGV : Hid (IntsAt V (some ⟨bg, og + r, none⟩) (gs.drop r) ∧ IntsAt V (some ⟨bg, og, none⟩) (gs.take r)) := by
        have hg3 : bg < V.heap.size ∧ ∀ j (h : j < gs.length), V.cell? ⟨bg, og + j, none⟩ = some (.int .i64 gs[j]) := ⟨by have := HV.out.size; omega, fun j hj => by rw [HV.out.cell (p := ⟨bg, _, none⟩) hbg]; exact hgc j hj⟩
        exact ⟨ints_drop hg3, ints_take hg3⟩
      clear hgc hbg
      have hg4 := hg2
      rw [← HFULL.out] at hg4
      have hss := hs20
      rw [← HFULL.out] at hss
      clear hg2 hs20 HS HSS HN0
      generalize sumN (n.take n.length) = s at hg4 hss ⊢
      go_upto_region 15 with (fail)
      go_still_tail 12, (by kernel_rfl)
      change wpList _ _ _ _ _ V.drew
      go_wp2_with (go_at_call 50; have hcc := concat_len (some ⟨bg, og + r, none⟩) (some ⟨bg, og, none⟩) (gs.length - r) r (c2 - r) c2 (gs.drop r) (gs.take r) _ _ (by simp) (by simp; omega) (Blk.new V.drew 31 #[.slice (some ⟨bg, og + r, none⟩) (gs.length - r) (c2 - r), .slice (some ⟨bg, og, none⟩) r c2]) (HGV.out.1.below (by repeat (first | exact Below.refl _ _ | refine bl_plus ?_ | refine bl_alloc ?_ _ | refine bl_drew ?_))) (HGV.out.2.below (by repeat (first | exact Below.refl _ _ | refine bl_plus ?_ | refine bl_alloc ?_ _ | refine bl_drew ?_))) (fun h => by cases h) (fun h => by cases h) (by simp; omega); rw [← HREST.out] at hcc; refine hcc.mono ?_; rintro e w' ⟨A5, c5, rfl, _, hI, _, hb⟩; obtain ⟨os5, n5, rfl⟩ := below_plus hb; have I5 := hide hI; clear hb hI hcc)
      go_upto_region 17 with (go_at_call 37; refine (HC3.out _ _ _ _ _ (S2.out.below (by repeat (first | exact Below.refl _ _ | refine bl_plus ?_ | refine bl_alloc ?_ _ | refine bl_drew ?_))) (fun h => ⟨S2.out.nil_of h, Z2.out.1 h⟩) (I5.out.below (by repeat (first | exact Below.refl _ _ | refine bl_plus ?_ | refine bl_alloc ?_ _ | refine bl_drew ?_)))).mono ?_; rintro e w' ⟨A6, c6, B6, d6, rfl, hS, hI, hzz, hb⟩; obtain ⟨os6, n6, rfl⟩ := below_plus hb; have S6 := hide hS; have I6 := hide hI; have Z6 := hide hzz; clear hb hS hI hzz)
      go_wp2_with (go_at_call 24; refine (equalSts_same _ _ _ _ all _ (S6.out.below (by repeat (first | exact Below.refl _ _ | refine bl_plus ?_ | refine bl_alloc ?_ _ | refine bl_drew ?_))) (T1.out.below (by repeat (first | exact Below.refl _ _ | refine bl_plus ?_ | refine bl_alloc ?_ _ | refine bl_drew ?_))) HAL5.out).mono ?_; rintro e w' ⟨rfl, hb⟩; obtain ⟨os7, n7, rfl⟩ := below_plus hb; clear hb)
      go_wp2_with (go_at_call 50; refine (concat_to B4 B6 n.length m.length d4 d6 n m counts _ _ (by simp only [plus_size, World.size_alloc]) HNM.out rfl rfl (I2.out.below (by repeat (first | exact Below.refl _ _ | refine bl_plus ?_ | refine bl_alloc ?_ _ | refine bl_drew ?_))) (I6.out.below (by repeat (first | exact Below.refl _ _ | refine bl_plus ?_ | refine bl_alloc ?_ _ | refine bl_drew ?_))) (fun h => ⟨I2.out.nil_of h, Z2.out.2 h⟩) (fun h => ⟨I6.out.nil_of h, Z6.out.2 h⟩) (by omega)).mono ?_; rintro e w' ⟨A8, c8, rfl, _, hI, _, hb⟩; obtain ⟨os8, n8, rfl⟩ := below_plus hb; have I8 := hide hI; clear hb hI)
      go_wp2_with (go_at_call 19; refine (equalInts_len _ _ _ _ _ _ counts _ rfl rfl (I8.out.below (by repeat (first | exact Below.refl _ _ | refine bl_plus ?_ | refine bl_alloc ?_ _ | refine bl_drew ?_))) (J1.out.below (by repeat (first | exact Below.refl _ _ | refine bl_plus ?_ | refine bl_alloc ?_ _ | refine bl_drew ?_))) (by unfold maxLen; omega)).mono ?_; rintro e w' ⟨rfl, hb⟩; obtain ⟨os9, n9, rfl⟩ := below_plus hb; clear hb)
      go_wp2_with (go_at_call 51; refine (containsMore_any _ _ counts ba w.heap.size _ (J1.out.below (by repeat (first | exact Below.refl _ _ | refine bl_plus ?_ | refine bl_alloc ?_ _ | refine bl_drew ?_))) (((show Below V.heap.size V _ by repeat (first | exact Below.refl _ _ | refine bl_plus ?_ | refine bl_alloc ?_ _ | refine bl_drew ?_)).cell (p := ⟨w.heap.size, 1, none⟩) hwl).trans hw1) (by omega) HCB.out).mono ?_; rintro e w' ⟨rfl, rfl⟩)
      go_returns
      exact ⟨rfl, (by repeat (first | exact HV.out | exact Below.refl _ _ | refine bl_plus ?_ | refine bl_alloc ?_ _ | refine bl_drew ?_))⟩

end Go.Proofs.Ytokghdcfbbogdaa
