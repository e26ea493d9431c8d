/-
  WALK: a list of types is right, in the reference.
-/
import Derived.Test.YtpbkidjbbhkjnaaDoorPpf
namespace Go.Proofs.YtpbkidjbbhkjnaaDoor
open Go.RowKit Go.Lib

set_option maxHeartbeats 25600000 in
set_option maxRecDepth 100000 in
theorem typesFault_any (l : List TY) (A : Option Addr) (c : Nat) (w : World) (hA : TsAt w A l) (hcap : l.length ≤ c) :
    Calls Tryd.prog 9 #[.slice A l.length c] w fun e w' => e = .returned (.int .i64 (typesErr l)) ∧ Below w.heap.size w w' := by
  have hm := hA.1
  unfold maxLen at hm
  by_cases h40 : 40 < l.length
  · rw [typesErr_large h40]
    have hn : (40 : Int) < (l.length : Int) := by omega
    clear hA
    go_enter Tryd.func9, Tryd.ntmps9
    go_wp2
    go_ret
    exact ⟨rfl, (by repeat (first | exact Below.refl _ _ | refine bl_plus ?_ | refine bl_alloc ?_ _ | refine bl_drew ?_ | refine bl_drewN ?_ _))⟩
  have HN := hide (fun h => typesErr_none (l := l) h (by omega))
  have HF := hide (fun k hk h hne => typesErr_first (l := l) (k := k) (by omega) hk h hne)
  have HA := hide hA
  clear hA
  generalize typesErr l = R at *
  have hn : ¬ (40 : Int) < (l.length : Int) := by omega
  go_enter Tryd.func9, Tryd.ntmps9
  go_wp2
  clear h40 hn
  go_loopw [12] (fun i wr => ∃ (k : Nat) (os : Array Obj) (n : Nat), k ≤ l.length ∧ i = .int .i64 k ∧ Hid (∀ j, j < k → tyErrAt l j = 0) ∧ wr = plus w os n) (fun i _ => l.length - (intOf i).toNat)
  case atStart => exact ⟨0, #[], _, Nat.zero_le _, rfl, hide (fun j hj => by omega), plus_nil.symm⟩
  case round =>
    obtain ⟨q, os, n, hq, rfl, HK, rfl⟩ := hrel
    by_cases hlt : q < l.length
    · obtain ⟨b, o, rfl, hb, hv⟩ := HA.out.2 (by omega)
      have hf := HF.out q hlt HK.out
      have hqc : (q : Int) ≤ (c : Int) := by omega
      have HNXT := hide (fun (h : tyErrAt l q = 0) j (hj : j < q + 1) => (by
        rcases Nat.lt_or_ge j q with g | g
        · exact HK.out j g
        · obtain rfl : j = q := by omega
          exact h : tyErrAt l j = 0))
      obtain ⟨c0, hns, c1, c2, c4, c5, A2, e2, c3, hS, hcap2⟩ := hv q hlt
      unfold maxLen at hns
      have hcs := tyErr_cases hlt
      have HCN := hide (fun w => isName_any l[q].n w hns)
      have HT := hide (fun g W (hbw : Below w.heap.size w W) (hx : W.cell? ⟨g, 0, none⟩ = some (.string l[q].n)) (hg : g < W.heap.size) => containsTy_any 25 (some ⟨b, o, none⟩) c q (l.take q) g l[q].n W (by rw [List.length_take]; omega) ((HA.out.take q).below hbw) hx hg (.inr rfl))
      have hm2 := hS.1
      unfold maxLen at hm2
      have HS := hide hS
      have hte := l[q].err_cases
      have HN2 := hide (fun (h : ∀ j, j < l[q].ch.length → chErrAt l[q].ch j = 0) => firstErr_none (f := chErrAt l[q].ch) (n := l[q].ch.length) h)
      have HF2 := hide (fun (k : Nat) (h : ∀ j, j < k → chErrAt l[q].ch j = 0) (hk : chErrAt l[q].ch k ≠ 0) (hn : k < l[q].ch.length) => firstErr_first (f := chErrAt l[q].ch) (k := k) h hk (n := l[q].ch.length) hn)
      clear hv hS HK HA HN HF hns
      generalize tyErrAt l q = E at *
      have hne2 := nameErr_cases l[q].n
      generalize nameErr l[q].n = NE at *
      generalize hbn : isName l[q].n.data.toList = NB at *
      clear hbn
      generalize l[q].err = TE at *
      generalize hasTy (l.take q) l[q].n = HB at *
      unfold chErr at hte
      generalize firstErr (chErrAt l[q].ch) l[q].ch.length = R2 at *
      generalize l[q] = x at *
      obtain ⟨xn, xk, xb, xc, xl, xh⟩ := x
      simp only [] at *
      rcases hcs with ⟨hN, hE⟩ | ⟨hN, ⟨hT, hE⟩ | ⟨hT, hE⟩⟩
      all_goals (subst hN; rcases hne2 with ⟨g1, g2⟩ | ⟨g1, g2⟩ <;> (try (exfalso; omega)); subst g2; clear g1)
      · subst hE
        obtain rfl := hf (by decide)
        clear HNXT HS hte
        go_wp2_with (first | (go_at_call 24; refine (HCN.out _).mono ?_; rintro e w' ⟨rfl, hbl⟩; obtain ⟨os1, n1, rfl⟩ := below_plus hbl; clear hbl) | (go_at_call 21; refine (HT.out _ _ ?hbw ?hx ?hg).mono ?_; (case hbw => repeat (first | exact Below.refl _ _ | refine bl_plus ?_ | refine bl_alloc ?_ _ | refine bl_drew ?_ | refine bl_drewN ?_ _)); (case hx => (go_simp)); (case hg => (go_simp)); rintro e w' ⟨rfl, hbl⟩; obtain ⟨os2, n2, rfl⟩ := below_plus hbl; clear hbl))
        go_ret
        exact ⟨rfl, (by repeat (first | exact Below.refl _ _ | refine bl_plus ?_ | refine bl_alloc ?_ _ | refine bl_drew ?_ | refine bl_drewN ?_ _))⟩
      · subst hE hT
        obtain rfl := hf (by decide)
        clear HNXT HS hte
        go_wp2_with (first | (go_at_call 24; refine (HCN.out _).mono ?_; rintro e w' ⟨rfl, hbl⟩; obtain ⟨os1, n1, rfl⟩ := below_plus hbl; clear hbl) | (go_at_call 21; refine (HT.out _ _ ?hbw ?hx ?hg).mono ?_; (case hbw => repeat (first | exact Below.refl _ _ | refine bl_plus ?_ | refine bl_alloc ?_ _ | refine bl_drew ?_ | refine bl_drewN ?_ _)); (case hx => (go_simp)); (case hg => (go_simp)); rintro e w' ⟨rfl, hbl⟩; obtain ⟨os2, n2, rfl⟩ := below_plus hbl; clear hbl))
        go_ret
        exact ⟨rfl, (by repeat (first | exact Below.refl _ _ | refine bl_plus ?_ | refine bl_alloc ?_ _ | refine bl_drew ?_ | refine bl_drewN ?_ _))⟩
      · subst hE hT
        rcases hte with ⟨h | h, rfl⟩ | ⟨⟨g1, g7⟩, hte⟩
        · have i1 : decide (xk < 1) = true := decide_eq_true h
          obtain rfl := hf (by decide)
          clear HNXT HS
          go_wp2_with (first | (go_at_call 24; refine (HCN.out _).mono ?_; rintro e w' ⟨rfl, hbl⟩; obtain ⟨os1, n1, rfl⟩ := below_plus hbl; clear hbl) | (go_at_call 21; refine (HT.out _ _ ?hbw ?hx ?hg).mono ?_; (case hbw => repeat (first | exact Below.refl _ _ | refine bl_plus ?_ | refine bl_alloc ?_ _ | refine bl_drew ?_ | refine bl_drewN ?_ _)); (case hx => (go_simp)); (case hg => (go_simp)); rintro e w' ⟨rfl, hbl⟩; obtain ⟨os2, n2, rfl⟩ := below_plus hbl; clear hbl))
          go_ret
          exact ⟨rfl, (by repeat (first | exact Below.refl _ _ | refine bl_plus ?_ | refine bl_alloc ?_ _ | refine bl_drew ?_ | refine bl_drewN ?_ _))⟩
        · have i1 : decide (xk < 1) = false := decide_eq_false (by omega)
          have i2 : decide (7 < xk) = true := decide_eq_true h
          obtain rfl := hf (by decide)
          clear HNXT HS
          go_wp2_with (first | (go_at_call 24; refine (HCN.out _).mono ?_; rintro e w' ⟨rfl, hbl⟩; obtain ⟨os1, n1, rfl⟩ := below_plus hbl; clear hbl) | (go_at_call 21; refine (HT.out _ _ ?hbw ?hx ?hg).mono ?_; (case hbw => repeat (first | exact Below.refl _ _ | refine bl_plus ?_ | refine bl_alloc ?_ _ | refine bl_drew ?_ | refine bl_drewN ?_ _)); (case hx => (go_simp)); (case hg => (go_simp)); rintro e w' ⟨rfl, hbl⟩; obtain ⟨os2, n2, rfl⟩ := below_plus hbl; clear hbl))
          go_ret
          exact ⟨rfl, (by repeat (first | exact Below.refl _ _ | refine bl_plus ?_ | refine bl_alloc ?_ _ | refine bl_drew ?_ | refine bl_drewN ?_ _))⟩
        have k1 : decide (xk < 1) = false := decide_eq_false (by omega)
        have k7 : decide (7 < xk) = false := decide_eq_false (by omega)
        rcases hte with ⟨h1, h2, rfl⟩ | ⟨h2, ⟨h1, h3, rfl⟩ | ⟨h1, h3, h4, rfl⟩ | ⟨h3, hcs⟩⟩
        · have i1 : decide (0 < xc.length) = true := decide_eq_true h2
          have i3 : (xk != 3) = true := bne_iff_ne.2 h1
          obtain rfl := hf (by decide)
          clear HNXT HS
          go_wp2_with (first | (go_at_call 24; refine (HCN.out _).mono ?_; rintro e w' ⟨rfl, hbl⟩; obtain ⟨os1, n1, rfl⟩ := below_plus hbl; clear hbl) | (go_at_call 21; refine (HT.out _ _ ?hbw ?hx ?hg).mono ?_; (case hbw => repeat (first | exact Below.refl _ _ | refine bl_plus ?_ | refine bl_alloc ?_ _ | refine bl_drew ?_ | refine bl_drewN ?_ _)); (case hx => (go_simp)); (case hg => (go_simp)); rintro e w' ⟨rfl, hbl⟩; obtain ⟨os2, n2, rfl⟩ := below_plus hbl; clear hbl))
          go_ret
          exact ⟨rfl, (by repeat (first | exact Below.refl _ _ | refine bl_plus ?_ | refine bl_alloc ?_ _ | refine bl_drew ?_ | refine bl_drewN ?_ _))⟩
        · have i2 : (xk != 2) = true := bne_iff_ne.2 h1
          have i4 : (xl != 0) = true := bne_iff_ne.2 h3
          rcases Nat.eq_zero_or_pos xc.length with hz | hz
          · have i1 : decide (0 < xc.length) = false := decide_eq_false (by omega)
            obtain rfl := hf (by decide)
            clear HNXT HS
            go_wp2_with (first | (go_at_call 24; refine (HCN.out _).mono ?_; rintro e w' ⟨rfl, hbl⟩; obtain ⟨os1, n1, rfl⟩ := below_plus hbl; clear hbl) | (go_at_call 21; refine (HT.out _ _ ?hbw ?hx ?hg).mono ?_; (case hbw => repeat (first | exact Below.refl _ _ | refine bl_plus ?_ | refine bl_alloc ?_ _ | refine bl_drew ?_ | refine bl_drewN ?_ _)); (case hx => (go_simp)); (case hg => (go_simp)); rintro e w' ⟨rfl, hbl⟩; obtain ⟨os2, n2, rfl⟩ := below_plus hbl; clear hbl))
            go_ret
            exact ⟨rfl, (by repeat (first | exact Below.refl _ _ | refine bl_plus ?_ | refine bl_alloc ?_ _ | refine bl_drew ?_ | refine bl_drewN ?_ _))⟩
          · have i1 : decide (0 < xc.length) = true := decide_eq_true hz
            obtain rfl : xk = 3 := by omega
            obtain rfl := hf (by decide)
            clear HNXT HS
            go_wp2_with (first | (go_at_call 24; refine (HCN.out _).mono ?_; rintro e w' ⟨rfl, hbl⟩; obtain ⟨os1, n1, rfl⟩ := below_plus hbl; clear hbl) | (go_at_call 21; refine (HT.out _ _ ?hbw ?hx ?hg).mono ?_; (case hbw => repeat (first | exact Below.refl _ _ | refine bl_plus ?_ | refine bl_alloc ?_ _ | refine bl_drew ?_ | refine bl_drewN ?_ _)); (case hx => (go_simp)); (case hg => (go_simp)); rintro e w' ⟨rfl, hbl⟩; obtain ⟨os2, n2, rfl⟩ := below_plus hbl; clear hbl))
            go_ret
            exact ⟨rfl, (by repeat (first | exact Below.refl _ _ | refine bl_plus ?_ | refine bl_alloc ?_ _ | refine bl_drew ?_ | refine bl_drewN ?_ _))⟩
        · have i2 : (xk != 2) = true := bne_iff_ne.2 h1
          have i4 : (xh != 0) = true := bne_iff_ne.2 h4
          subst h3
          rcases Nat.eq_zero_or_pos xc.length with hz | hz
          · have i1 : decide (0 < xc.length) = false := decide_eq_false (by omega)
            obtain rfl := hf (by decide)
            clear HNXT HS
            go_wp2_with (first | (go_at_call 24; refine (HCN.out _).mono ?_; rintro e w' ⟨rfl, hbl⟩; obtain ⟨os1, n1, rfl⟩ := below_plus hbl; clear hbl) | (go_at_call 21; refine (HT.out _ _ ?hbw ?hx ?hg).mono ?_; (case hbw => repeat (first | exact Below.refl _ _ | refine bl_plus ?_ | refine bl_alloc ?_ _ | refine bl_drew ?_ | refine bl_drewN ?_ _)); (case hx => (go_simp)); (case hg => (go_simp)); rintro e w' ⟨rfl, hbl⟩; obtain ⟨os2, n2, rfl⟩ := below_plus hbl; clear hbl))
            go_ret
            exact ⟨rfl, (by repeat (first | exact Below.refl _ _ | refine bl_plus ?_ | refine bl_alloc ?_ _ | refine bl_drew ?_ | refine bl_drewN ?_ _))⟩
          · have i1 : decide (0 < xc.length) = true := decide_eq_true hz
            obtain rfl : xk = 3 := by omega
            obtain rfl := hf (by decide)
            clear HNXT HS
            go_wp2_with (first | (go_at_call 24; refine (HCN.out _).mono ?_; rintro e w' ⟨rfl, hbl⟩; obtain ⟨os1, n1, rfl⟩ := below_plus hbl; clear hbl) | (go_at_call 21; refine (HT.out _ _ ?hbw ?hx ?hg).mono ?_; (case hbw => repeat (first | exact Below.refl _ _ | refine bl_plus ?_ | refine bl_alloc ?_ _ | refine bl_drew ?_ | refine bl_drewN ?_ _)); (case hx => (go_simp)); (case hg => (go_simp)); rintro e w' ⟨rfl, hbl⟩; obtain ⟨os2, n2, rfl⟩ := below_plus hbl; clear hbl))
            go_ret
            exact ⟨rfl, (by repeat (first | exact Below.refl _ _ | refine bl_plus ?_ | refine bl_alloc ?_ _ | refine bl_drew ?_ | refine bl_drewN ?_ _))⟩
        · rcases hcs with ⟨h20, rfl⟩ | ⟨h20, hcs⟩
          · have i20 : (20 : Int) < (xc.length : Int) := by omega
            have i1 : decide (0 < xc.length) = true := decide_eq_true (by omega)
            obtain rfl : xk = 3 := by omega
            obtain ⟨rfl, rfl⟩ : xl = 0 ∧ xh = 0 := by omega
            obtain rfl := hf (by decide)
            clear HNXT HS
            go_wp2_with (first | (go_at_call 24; refine (HCN.out _).mono ?_; rintro e w' ⟨rfl, hbl⟩; obtain ⟨os1, n1, rfl⟩ := below_plus hbl; clear hbl) | (go_at_call 21; refine (HT.out _ _ ?hbw ?hx ?hg).mono ?_; (case hbw => repeat (first | exact Below.refl _ _ | refine bl_plus ?_ | refine bl_alloc ?_ _ | refine bl_drew ?_ | refine bl_drewN ?_ _)); (case hx => (go_simp)); (case hg => (go_simp)); rintro e w' ⟨rfl, hbl⟩; obtain ⟨os2, n2, rfl⟩ := below_plus hbl; clear hbl))
            go_ret
            exact ⟨rfl, (by repeat (first | exact Below.refl _ _ | refine bl_plus ?_ | refine bl_alloc ?_ _ | refine bl_drew ?_ | refine bl_drewN ?_ _))⟩
          have i20 : ¬ (20 : Int) < (xc.length : Int) := by omega
          rcases Nat.eq_zero_or_pos xc.length with hz | hz
          · have i1 : decide (0 < xc.length) = false := decide_eq_false (by omega)
            have i0n : ¬ 0 < xc.length := by omega
            clear hz
            by_cases hl : xl = 0
            · by_cases hh : xh = 0
              · subst hl hh
                clear h3 h2
                go_wp2_with (first | (go_at_call 24; refine (HCN.out _).mono ?_; rintro e w' ⟨rfl, hbl⟩; obtain ⟨os1, n1, rfl⟩ := below_plus hbl; clear hbl) | (go_at_call 21; refine (HT.out _ _ ?hbw ?hx ?hg).mono ?_; (case hbw => repeat (first | exact Below.refl _ _ | refine bl_plus ?_ | refine bl_alloc ?_ _ | refine bl_drew ?_ | refine bl_drewN ?_ _)); (case hx => (go_simp)); (case hg => (go_simp)); rintro e w' ⟨rfl, hbl⟩; obtain ⟨os2, n2, rfl⟩ := below_plus hbl; clear hbl))
                go_loop [68] (fun i => ∃ i' : Nat, i' ≤ xc.length ∧ i = .int .i64 i' ∧ Hid (∀ j, j < i' → chErrAt xc j = 0)) (fun i => xc.length - (intOf i).toNat)
                case atStart => exact ⟨0, Nat.zero_le _, rfl, hide (fun j hj => by omega)⟩
                case round =>
                  obtain ⟨i, hi, rfl, HK2⟩ := hrel
                  by_cases hil : i < xc.length
                  · exfalso; omega
                  · have hR : R2 = 0 := HN2.out (fun j hj => HK2.out j (by omega))
                    subst hR
                    obtain rfl : i = xc.length := by omega
                    rcases hcs with ⟨h0, _⟩ | ⟨_, ⟨h0, _⟩ | ⟨h0, hE⟩⟩
                    · exact absurd rfl h0
                    · exact absurd h0 (by decide)
                    · subst hE
                      clear h0
                      go_wp2
                      go_roundw
                      case rel => exact ⟨q + 1, _, _, hlt, by go_num, hide (HNXT.out (by trivial)), by first | rfl | (rw [plus_alloc, plus_plus, plus_plus])⟩
                      case measure => simp [intOf]; omega
              · have i4 : (xh != 0) = true := bne_iff_ne.2 hh
                obtain rfl : xk = 2 := by omega
                subst hl
                clear h3 h2
                go_wp2_with (first | (go_at_call 24; refine (HCN.out _).mono ?_; rintro e w' ⟨rfl, hbl⟩; obtain ⟨os1, n1, rfl⟩ := below_plus hbl; clear hbl) | (go_at_call 21; refine (HT.out _ _ ?hbw ?hx ?hg).mono ?_; (case hbw => repeat (first | exact Below.refl _ _ | refine bl_plus ?_ | refine bl_alloc ?_ _ | refine bl_drew ?_ | refine bl_drewN ?_ _)); (case hx => (go_simp)); (case hg => (go_simp)); rintro e w' ⟨rfl, hbl⟩; obtain ⟨os2, n2, rfl⟩ := below_plus hbl; clear hbl))
                go_loop [68] (fun i => ∃ i' : Nat, i' ≤ xc.length ∧ i = .int .i64 i' ∧ Hid (∀ j, j < i' → chErrAt xc j = 0)) (fun i => xc.length - (intOf i).toNat)
                case atStart => exact ⟨0, Nat.zero_le _, rfl, hide (fun j hj => by omega)⟩
                case round =>
                  obtain ⟨i, hi, rfl, HK2⟩ := hrel
                  by_cases hil : i < xc.length
                  · exfalso; omega
                  · have hR : R2 = 0 := HN2.out (fun j hj => HK2.out j (by omega))
                    subst hR
                    obtain rfl : i = xc.length := by omega
                    rcases hcs with ⟨h0, _⟩ | ⟨_, ⟨h0, hE⟩ | ⟨h0, hE⟩⟩
                    · exact absurd rfl h0
                    · subst hE
                      obtain rfl := hf (by decide)
                      go_wp2
                      go_ret
                      exact ⟨rfl, (by repeat (first | exact Below.refl _ _ | refine bl_plus ?_ | refine bl_alloc ?_ _ | refine bl_drew ?_ | refine bl_drewN ?_ _))⟩
                    · subst hE
                      have h00 : ¬ xh < 0 := by omega
                      go_wp2
                      go_roundw
                      case rel => exact ⟨q + 1, _, _, hlt, by go_num, hide (HNXT.out (by trivial)), by first | rfl | (rw [plus_alloc, plus_plus, plus_plus])⟩
                      case measure => simp [intOf]; omega
            · have i4 : (xl != 0) = true := bne_iff_ne.2 hl
              obtain rfl : xk = 2 := by omega
              clear h3 h2
              go_wp2_with (first | (go_at_call 24; refine (HCN.out _).mono ?_; rintro e w' ⟨rfl, hbl⟩; obtain ⟨os1, n1, rfl⟩ := below_plus hbl; clear hbl) | (go_at_call 21; refine (HT.out _ _ ?hbw ?hx ?hg).mono ?_; (case hbw => repeat (first | exact Below.refl _ _ | refine bl_plus ?_ | refine bl_alloc ?_ _ | refine bl_drew ?_ | refine bl_drewN ?_ _)); (case hx => (go_simp)); (case hg => (go_simp)); rintro e w' ⟨rfl, hbl⟩; obtain ⟨os2, n2, rfl⟩ := below_plus hbl; clear hbl))
              go_loop [68] (fun i => ∃ i' : Nat, i' ≤ xc.length ∧ i = .int .i64 i' ∧ Hid (∀ j, j < i' → chErrAt xc j = 0)) (fun i => xc.length - (intOf i).toNat)
              case atStart => exact ⟨0, Nat.zero_le _, rfl, hide (fun j hj => by omega)⟩
              case round =>
                obtain ⟨i, hi, rfl, HK2⟩ := hrel
                by_cases hil : i < xc.length
                · exfalso; omega
                · have hR : R2 = 0 := HN2.out (fun j hj => HK2.out j (by omega))
                  subst hR
                  obtain rfl : i = xc.length := by omega
                  rcases hcs with ⟨h0, _⟩ | ⟨_, ⟨h0, hE⟩ | ⟨h0, hE⟩⟩
                  · exact absurd rfl h0
                  · subst hE
                    obtain rfl := hf (by decide)
                    go_wp2
                    go_ret
                    exact ⟨rfl, (by repeat (first | exact Below.refl _ _ | refine bl_plus ?_ | refine bl_alloc ?_ _ | refine bl_drew ?_ | refine bl_drewN ?_ _))⟩
                  · subst hE
                    have h00 : ¬ xh < xl := by omega
                    go_wp2
                    go_roundw
                    case rel => exact ⟨q + 1, _, _, hlt, by go_num, hide (HNXT.out (by trivial)), by first | rfl | (rw [plus_alloc, plus_plus, plus_plus])⟩
                    case measure => simp [intOf]; omega
          · have i1 : decide (0 < xc.length) = true := decide_eq_true hz
            obtain rfl : xk = 3 := by omega
            obtain ⟨rfl, rfl⟩ : xl = 0 ∧ xh = 0 := by omega
            clear h3 h2
            go_wp2_with (first | (go_at_call 24; refine (HCN.out _).mono ?_; rintro e w' ⟨rfl, hbl⟩; obtain ⟨os1, n1, rfl⟩ := below_plus hbl; clear hbl) | (go_at_call 21; refine (HT.out _ _ ?hbw ?hx ?hg).mono ?_; (case hbw => repeat (first | exact Below.refl _ _ | refine bl_plus ?_ | refine bl_alloc ?_ _ | refine bl_drew ?_ | refine bl_drewN ?_ _)); (case hx => (go_simp)); (case hg => (go_simp)); rintro e w' ⟨rfl, hbl⟩; obtain ⟨os2, n2, rfl⟩ := below_plus hbl; clear hbl))
            go_loop [68] (fun i => ∃ i' : Nat, i' ≤ xc.length ∧ i = .int .i64 i' ∧ Hid (∀ j, j < i' → chErrAt xc j = 0)) (fun i => xc.length - (intOf i).toNat)
            case atStart => exact ⟨0, Nat.zero_le _, rfl, hide (fun j hj => by omega)⟩
            case round =>
              obtain ⟨i, hi, rfl, HK2⟩ := hrel
              by_cases hil : i < xc.length
              · obtain ⟨b2, o2, rfl, hb2, hv2⟩ := HS.out.2 (by omega)
                have d0 := hv2 i hil
                have hfi := HF2.out i HK2.out
                have hic : (i : Int) ≤ (e2 : Int) := by omega
                have HNXT2 := hide (fun (h : chErrAt xc i = 0) j (hj : j < i + 1) => (by
                  rcases Nat.lt_or_ge j i with g | g
                  · exact HK2.out j g
                  · obtain rfl : j = i := by omega
                    exact h : chErrAt xc j = 0))
                have hce := chErr_cases hil
                have HS2 := hide (fun W (hbw : Below w.heap.size w W) => containsS_any _ e2 (xc.take i) xc[i] i W (by rw [List.length_take]; omega) ((HS.out.take i).below hbw))
                clear hv2 HK2
                generalize chErrAt xc i = CE at *
                generalize hasS (xc.take i) xc[i] = HB2 at *
                generalize xc[i] = y at *
                rcases hce with ⟨i1, hce⟩ | ⟨i1, ⟨i2, hce⟩ | ⟨i2, hce⟩⟩
                · have i3 : (2000 : Int) < (y.size : Int) := by omega
                  subst hce
                  have hR := hfi (by decide) hil
                  subst hR
                  rcases hcs with ⟨_, hE⟩ | ⟨hcs, _⟩ <;> (try (exfalso; omega))
                  obtain rfl := hf (by omega)
                  subst hE
                  go_wp2
                  go_ret
                  exact ⟨rfl, (by repeat (first | exact Below.refl _ _ | refine bl_plus ?_ | refine bl_alloc ?_ _ | refine bl_drew ?_ | refine bl_drewN ?_ _))⟩
                · have i3 : ¬ (2000 : Int) < (y.size : Int) := by omega
                  subst hce i2
                  have hR := hfi (by decide) hil
                  subst hR
                  rcases hcs with ⟨_, hE⟩ | ⟨hcs, _⟩ <;> (try (exfalso; omega))
                  obtain rfl := hf (by omega)
                  subst hE
                  go_wp2_with (go_at_call 19; refine (HS2.out _ ?hbw).mono ?_; (case hbw => repeat (first | exact Below.refl _ _ | refine bl_plus ?_ | refine bl_alloc ?_ _ | refine bl_drew ?_ | refine bl_drewN ?_ _)); rintro e w' ⟨rfl, rfl⟩)
                  go_ret
                  exact ⟨rfl, (by repeat (first | exact Below.refl _ _ | refine bl_plus ?_ | refine bl_alloc ?_ _ | refine bl_drew ?_ | refine bl_drewN ?_ _))⟩
                · have i3 : ¬ (2000 : Int) < (y.size : Int) := by omega
                  subst hce i2
                  clear hfi
                  go_wp2_with (go_at_call 19; refine (HS2.out _ ?hbw).mono ?_; (case hbw => repeat (first | exact Below.refl _ _ | refine bl_plus ?_ | refine bl_alloc ?_ _ | refine bl_drew ?_ | refine bl_drewN ?_ _)); rintro e w' ⟨rfl, rfl⟩)
                  go_round
                  case rel => exact ⟨i + 1, hil, by go_num, hide (HNXT2.out (by trivial))⟩
                  case measure => simp [intOf]; omega
              · have hR : R2 = 0 := HN2.out (fun j hj => HK2.out j (by omega))
                subst hR
                obtain rfl : i = xc.length := by omega
                rcases hcs with ⟨h0, _⟩ | ⟨_, ⟨h0, _⟩ | ⟨h0, hE⟩⟩
                · exact absurd rfl h0
                · exact absurd h0 (by decide)
                · subst hE
                  clear h0
                  go_wp2
                  go_roundw
                  case rel => exact ⟨q + 1, _, _, hlt, by go_num, hide (HNXT.out (by trivial)), by first | rfl | (rw [plus_alloc, plus_plus, plus_plus])⟩
                  case measure => simp [intOf]; omega
    · have hR : R = 0 := HN.out (fun j hj => HK.out j (by omega))
      subst hR
      obtain rfl : q = l.length := by omega
      go_wp2
      go_ret
      exact ⟨rfl, (by repeat (first | exact Below.refl _ _ | refine bl_plus ?_ | refine bl_alloc ?_ _ | refine bl_drew ?_ | refine bl_drewN ?_ _))⟩

end Go.Proofs.YtpbkidjbbhkjnaaDoor
