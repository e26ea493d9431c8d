/-
  PLAIN AND WALK: what is wrong with a type, by itself, in the program.
-/
import Derived.Test.YtpbkidjbbhkjnaaDoorPpd
import Derived.Test.YtpbkidjbbhkjnaaDoorDayA
namespace Go.Proofs.YtpbkidjbbhkjnaaDoor
open Go.RowKit Go.Lib

def chErrAt (ch : List ByteArray) (i : Nat) : Int := match ch[i]? with
  | none => 0
  | some s => if 2000 < s.size then 4 else if hasS (ch.take i) s = true then 6 else 0
theorem chErr_cases {ch : List ByteArray} {i : Nat} (h : i < ch.length) : (2000 < ch[i].size ∧ chErrAt ch i = 4) ∨ (ch[i].size ≤ 2000 ∧ ((hasS (ch.take i) ch[i] = true ∧ chErrAt ch i = 6) ∨ (hasS (ch.take i) ch[i] = false ∧ chErrAt ch i = 0))) := by
  unfold chErrAt
  rw [List.getElem?_eq_getElem h]
  simp only []
  by_cases h1 : 2000 < ch[i].size
  · exact .inl ⟨h1, if_pos h1⟩
  · refine .inr ⟨by omega, ?_⟩
    rw [if_neg h1]
    by_cases h2 : hasS (ch.take i) ch[i] = true
    · exact .inl ⟨h2, if_pos h2⟩
    · exact .inr ⟨by simpa using h2, if_neg h2⟩
def chErr (ch : List ByteArray) : Int := firstErr (chErrAt ch) ch.length
def TY.formBad (t : TY) : Prop := (0 < t.ch.length ∧ t.k ≠ 3) ∨ ((t.lo ≠ 0 ∨ t.hi ≠ 0) ∧ t.k ≠ 2)
instance (t : TY) : Decidable t.formBad := by unfold TY.formBad; infer_instance
def TY.err (t : TY) : Int :=
  if t.k < 1 ∨ 7 < t.k then 10 else if t.formBad then 1 else if 20 < t.ch.length then 4 else if chErr t.ch ≠ 0 then chErr t.ch else if t.hi < t.lo then 5 else 0
/-- The tests of a type, in order: the kind, the form, how many choices. -/
theorem TY.err_cases (t : TY) : ((t.k < 1 ∨ 7 < t.k) ∧ t.err = 10) ∨ ((1 ≤ t.k ∧ t.k ≤ 7) ∧ ((t.k ≠ 3 ∧ 0 < t.ch.length ∧ t.err = 1) ∨ ((t.k = 3 ∨ t.ch.length = 0) ∧ ((t.k ≠ 2 ∧ t.lo ≠ 0 ∧ t.err = 1) ∨ (t.k ≠ 2 ∧ t.lo = 0 ∧ t.hi ≠ 0 ∧ t.err = 1) ∨
    ((t.k = 2 ∨ (t.lo = 0 ∧ t.hi = 0)) ∧ ((20 < t.ch.length ∧ t.err = 4) ∨ (t.ch.length ≤ 20 ∧ ((chErr t.ch ≠ 0 ∧ t.err = chErr t.ch) ∨ (chErr t.ch = 0 ∧ ((t.hi < t.lo ∧ t.err = 5) ∨ (t.lo ≤ t.hi ∧ t.err = 0)))))))))))  := by
  unfold TY.err
  by_cases h1 : t.k < 1 ∨ 7 < t.k
  · exact .inl ⟨h1, if_pos h1⟩
  refine .inr ⟨by omega, ?_⟩
  rw [if_neg h1]
  by_cases h2 : 0 < t.ch.length ∧ t.k ≠ 3
  · exact .inl ⟨h2.2, h2.1, if_pos (.inl h2)⟩
  refine .inr ⟨by omega, ?_⟩
  by_cases h3 : t.k ≠ 2 ∧ t.lo ≠ 0
  · exact .inl ⟨h3.1, h3.2, if_pos (.inr ⟨.inl h3.2, h3.1⟩)⟩
  by_cases h4 : t.k ≠ 2 ∧ t.hi ≠ 0
  · exact .inr (.inl ⟨h4.1, by omega, h4.2, if_pos (.inr ⟨.inr h4.2, h4.1⟩)⟩)
  refine .inr (.inr ⟨by omega, ?_⟩)
  rw [if_neg (by rintro (h | ⟨h | h, h'⟩); exact h2 h; exact h3 ⟨h', h⟩; exact h4 ⟨h', h⟩)]
  by_cases h5 : 20 < t.ch.length
  · exact .inl ⟨h5, if_pos h5⟩
  refine .inr ⟨by omega, ?_⟩
  rw [if_neg h5]
  by_cases h6 : chErr t.ch = 0
  · refine .inr ⟨h6, ?_⟩
    rw [if_neg (by omega)]
    by_cases h7 : t.hi < t.lo
    · exact .inl ⟨h7, if_pos h7⟩
    · exact .inr ⟨by omega, if_neg h7⟩
  · exact .inl ⟨h6, if_pos h6⟩

set_option maxHeartbeats 12800000 in
set_option maxRecDepth 100000 in
theorem checkType_any (t : TY) (A : Option Addr) (c : Nat) (w : World) (hA : SAt w A t.ch) (hcap : t.ch.length ≤ c) :
    Calls Tryd.prog 23 #[t.arg A c] w fun e w' => e = .returned (.int .i64 t.err) ∧ Below w.heap.size w w' := by
  have hm := hA.1
  unfold maxLen at hm
  have hcs := t.err_cases
  have HN := hide (fun h => firstErr_none (f := chErrAt t.ch) (n := t.ch.length) h)
  have HF := hide (fun k h hk hn => firstErr_first (f := chErrAt t.ch) (k := k) h hk (n := t.ch.length) hn)
  have HA := hide hA
  clear hA
  generalize t.err = E at *
  unfold chErr at hcs
  generalize firstErr (chErrAt t.ch) t.ch.length = R at *
  obtain ⟨tn, k, need, ch, lo, hi⟩ := t
  simp only [TY.arg] at *
  have hk : k = 3 ∨ k = 2 ∨ ((k != 3) = true ∧ (k != 2) = true ∧ k ≠ 3 ∧ k ≠ 2) := by
    by_cases h3 : k = 3
    · exact .inl h3
    · by_cases h2 : k = 2
      · exact .inr (.inl h2)
      · exact .inr (.inr ⟨bne_iff_ne.2 h3, bne_iff_ne.2 h2, h3, h2⟩)
  rcases hcs with ⟨h, rfl⟩ | ⟨⟨g1, g7⟩, ⟨h1, h2, rfl⟩ | ⟨h2, ⟨h1, h3, rfl⟩ | ⟨h1, h3, h4, rfl⟩ | ⟨h3, hcs⟩⟩⟩
  · clear hk
    go_enter Tryd.func23, Tryd.ntmps23
    go_wp2_with (go_at_call 26; (with_reducible refine Calls.mono (outsideP_yes _ _ _ _ (by omega)) ?_); rintro e w' ⟨rfl, rfl⟩)
    go_ret
    exact ⟨rfl, (by repeat (first | exact Below.refl _ _ | refine bl_plus ?_ | refine bl_alloc ?_ _ | refine bl_drew ?_ | refine bl_drewN ?_ _))⟩
  · have i1 : (0 : Int) < (ch.length : Int) := by omega
    rcases hk with hk | rfl | ⟨k3, k2, -, -⟩
    · exact absurd hk h1
    all_goals
      go_enter Tryd.func23, Tryd.ntmps23
      go_wp2_with (go_at_call 26; (with_reducible refine Calls.mono (outsideP_no _ _ _ _ (by omega) (by omega)) ?_); rintro e w' ⟨rfl, rfl⟩)
      go_ret
      exact ⟨rfl, (by repeat (first | exact Below.refl _ _ | refine bl_plus ?_ | refine bl_alloc ?_ _ | refine bl_drew ?_ | refine bl_drewN ?_ _))⟩
  · have i3 : (lo != 0) = true := bne_iff_ne.2 h3
    rcases hk with rfl | hk | ⟨k3, k2, n3, n2⟩
    · go_enter Tryd.func23, Tryd.ntmps23
      go_wp2_with (go_at_call 26; (with_reducible refine Calls.mono (outsideP_no _ _ _ _ (by omega) (by omega)) ?_); rintro e w' ⟨rfl, rfl⟩)
      go_ret
      exact ⟨rfl, (by repeat (first | exact Below.refl _ _ | refine bl_plus ?_ | refine bl_alloc ?_ _ | refine bl_drew ?_ | refine bl_drewN ?_ _))⟩
    · exact absurd hk h1
    · have i1 : decide (0 < ch.length) = false := decide_eq_false (by omega)
      go_enter Tryd.func23, Tryd.ntmps23
      go_wp2_with (go_at_call 26; (with_reducible refine Calls.mono (outsideP_no _ _ _ _ (by omega) (by omega)) ?_); rintro e w' ⟨rfl, rfl⟩)
      go_ret
      exact ⟨rfl, (by repeat (first | exact Below.refl _ _ | refine bl_plus ?_ | refine bl_alloc ?_ _ | refine bl_drew ?_ | refine bl_drewN ?_ _))⟩
  · have i3 : (hi != 0) = true := bne_iff_ne.2 h4
    subst h3
    rcases hk with rfl | hk | ⟨k3, k2, n3, n2⟩
    · go_enter Tryd.func23, Tryd.ntmps23
      go_wp2_with (go_at_call 26; (with_reducible refine Calls.mono (outsideP_no _ _ _ _ (by omega) (by omega)) ?_); rintro e w' ⟨rfl, rfl⟩)
      go_ret
      exact ⟨rfl, (by repeat (first | exact Below.refl _ _ | refine bl_plus ?_ | refine bl_alloc ?_ _ | refine bl_drew ?_ | refine bl_drewN ?_ _))⟩
    · exact absurd hk h1
    · have i1 : decide (0 < ch.length) = false := decide_eq_false (by omega)
      go_enter Tryd.func23, Tryd.ntmps23
      go_wp2_with (go_at_call 26; (with_reducible refine Calls.mono (outsideP_no _ _ _ _ (by omega) (by omega)) ?_); rintro e w' ⟨rfl, rfl⟩)
      go_ret
      exact ⟨rfl, (by repeat (first | exact Below.refl _ _ | refine bl_plus ?_ | refine bl_alloc ?_ _ | refine bl_drew ?_ | refine bl_drewN ?_ _))⟩
  · rcases hcs with ⟨h20, rfl⟩ | ⟨h20, hcs⟩
    · have i20 : (20 : Int) < (ch.length : Int) := by omega
      have i0 : (0 : Int) < (ch.length : Int) := by omega
      obtain rfl : k = 3 := by omega
      obtain ⟨rfl, rfl⟩ : lo = 0 ∧ hi = 0 := by omega
      clear hk
      go_enter Tryd.func23, Tryd.ntmps23
      go_wp2_with (go_at_call 26; (with_reducible refine Calls.mono (outsideP_no _ _ _ _ (by omega) (by omega)) ?_); rintro e w' ⟨rfl, rfl⟩)
      go_ret
      exact ⟨rfl, (by repeat (first | exact Below.refl _ _ | refine bl_plus ?_ | refine bl_alloc ?_ _ | refine bl_drew ?_ | refine bl_drewN ?_ _))⟩
    · have i20 : ¬ (20 : Int) < (ch.length : Int) := by omega
      rcases hk with rfl | rfl | ⟨k3, k2, n3, n2⟩
      · obtain ⟨rfl, rfl⟩ : lo = 0 ∧ hi = 0 := by omega
        clear h2 h3
        rcases Nat.eq_zero_or_pos ch.length with hz | hz
        · have i0 : decide (0 < ch.length) = false := decide_eq_false (by omega)
          have i0n : ¬ 0 < ch.length := by omega
          clear hz
          go_enter Tryd.func23, Tryd.ntmps23
          go_wp2_with (go_at_call 26; (with_reducible refine Calls.mono (outsideP_no _ _ _ _ (by omega) (by omega)) ?_); rintro e w' ⟨rfl, rfl⟩)
          go_loop [42] (fun i => ∃ q : Nat, q ≤ ch.length ∧ i = .int .i64 q ∧ Hid (∀ j, j < q → chErrAt ch j = 0)) (fun i => ch.length - (intOf i).toNat)
          case atStart => exact ⟨0, Nat.zero_le _, rfl, hide (fun j hj => by omega)⟩
          case round =>
            obtain ⟨q, hq, rfl, HK⟩ := hrel
            by_cases hlt : q < ch.length
            · exfalso; omega
            · have hR : R = 0 := HN.out (fun j hj => HK.out j (by omega))
              subst hR
              obtain rfl : q = ch.length := by omega
              rcases hcs with ⟨h0, _⟩ | ⟨_, ⟨h0, _⟩ | ⟨h0, rfl⟩⟩
              · exact absurd rfl h0
              · exact absurd h0 (by decide)
              · clear h0
                go_wp2
                go_ret
                exact ⟨rfl, (by repeat (first | exact Below.refl _ _ | refine bl_plus ?_ | refine bl_alloc ?_ _ | refine bl_drew ?_ | refine bl_drewN ?_ _))⟩
        · have i0 : (0 : Int) < (ch.length : Int) := by omega
          clear hz
          go_enter Tryd.func23, Tryd.ntmps23
          go_wp2_with (go_at_call 26; (with_reducible refine Calls.mono (outsideP_no _ _ _ _ (by omega) (by omega)) ?_); rintro e w' ⟨rfl, rfl⟩)
          go_loop [42] (fun i => ∃ q : Nat, q ≤ ch.length ∧ i = .int .i64 q ∧ Hid (∀ j, j < q → chErrAt ch j = 0)) (fun i => ch.length - (intOf i).toNat)
          case atStart => exact ⟨0, Nat.zero_le _, rfl, hide (fun j hj => by omega)⟩
          case round =>
            obtain ⟨q, hq, rfl, HK⟩ := hrel
            by_cases hlt : q < ch.length
            · obtain ⟨b, o, rfl, hb, hv⟩ := HA.out.2 (by omega)
              have c0 := hv q hlt
              have hf := HF.out q HK.out
              have hqc : (q : Int) ≤ (c : Int) := by omega
              have HNXT := hide (fun (h : chErrAt ch q = 0) j (hj : j < q + 1) => (by
                rcases Nat.lt_or_ge j q with g | g
                · exact HK.out j g
                · obtain rfl : j = q := by omega
                  exact h : chErrAt ch j = 0))
              have hce := chErr_cases hlt
              have HS := hide (fun W (hbw : Below w.heap.size w W) => containsS_any _ c (ch.take q) ch[q] q W (by rw [List.length_take]; omega) ((HA.out.take q).below hbw))
              clear hv HK
              generalize chErrAt ch q = CE at *
              generalize hasS (ch.take q) ch[q] = HB at *
              generalize ch[q] = y at *
              rcases hce with ⟨i1, hce⟩ | ⟨i1, ⟨i2, hce⟩ | ⟨i2, hce⟩⟩
              · have i3 : (2000 : Int) < (y.size : Int) := by omega
                subst hce
                have hR := hf (by decide) hlt
                subst hR
                rcases hcs with ⟨_, rfl⟩ | ⟨hcs, _⟩ <;> (try (exfalso; omega))
                go_wp2
                go_ret
                exact ⟨rfl, (by repeat (first | exact Below.refl _ _ | refine bl_plus ?_ | refine bl_alloc ?_ _ | refine bl_drew ?_ | refine bl_drewN ?_ _))⟩
              · have i3 : ¬ (2000 : Int) < (y.size : Int) := by omega
                subst hce i2
                have hR := hf (by decide) hlt
                subst hR
                rcases hcs with ⟨_, rfl⟩ | ⟨hcs, _⟩ <;> (try (exfalso; omega))
                go_wp2_with (go_at_call 19; refine (HS.out _ ?hbw).mono ?_; (case hbw => repeat (first | exact Below.refl _ _ | refine bl_plus ?_ | refine bl_alloc ?_ _ | refine bl_drew ?_ | refine bl_drewN ?_ _)); rintro e w' ⟨rfl, rfl⟩)
                go_ret
                exact ⟨rfl, (by repeat (first | exact Below.refl _ _ | refine bl_plus ?_ | refine bl_alloc ?_ _ | refine bl_drew ?_ | refine bl_drewN ?_ _))⟩
              · have i3 : ¬ (2000 : Int) < (y.size : Int) := by omega
                subst hce i2
                clear hf
                go_wp2_with (go_at_call 19; refine (HS.out _ ?hbw).mono ?_; (case hbw => repeat (first | exact Below.refl _ _ | refine bl_plus ?_ | refine bl_alloc ?_ _ | refine bl_drew ?_ | refine bl_drewN ?_ _)); rintro e w' ⟨rfl, rfl⟩)
                go_round
                case rel => exact ⟨q + 1, hlt, by go_num, hide (HNXT.out (by trivial))⟩
                case measure => simp [intOf]; omega
            · have hR : R = 0 := HN.out (fun j hj => HK.out j (by omega))
              subst hR
              obtain rfl : q = ch.length := by omega
              rcases hcs with ⟨h0, _⟩ | ⟨_, ⟨h0, _⟩ | ⟨h0, rfl⟩⟩
              · exact absurd rfl h0
              · exact absurd h0 (by decide)
              · clear h0
                go_wp2
                go_ret
                exact ⟨rfl, (by repeat (first | exact Below.refl _ _ | refine bl_plus ?_ | refine bl_alloc ?_ _ | refine bl_drew ?_ | refine bl_drewN ?_ _))⟩
      · have i0 : decide (0 < ch.length) = false := decide_eq_false (by omega)
        have i0n : ¬ 0 < ch.length := by omega
        clear h2 h3
        go_enter Tryd.func23, Tryd.ntmps23
        go_wp2_with (go_at_call 26; (with_reducible refine Calls.mono (outsideP_no _ _ _ _ (by omega) (by omega)) ?_); rintro e w' ⟨rfl, rfl⟩)
        go_loop [42] (fun i => ∃ q : Nat, q ≤ ch.length ∧ i = .int .i64 q ∧ Hid (∀ j, j < q → chErrAt ch j = 0)) (fun i => ch.length - (intOf i).toNat)
        case atStart => exact ⟨0, Nat.zero_le _, rfl, hide (fun j hj => by omega)⟩
        case round =>
          obtain ⟨q, hq, rfl, HK⟩ := hrel
          by_cases hlt : q < ch.length
          · exfalso; omega
          · have hR : R = 0 := HN.out (fun j hj => HK.out j (by omega))
            subst hR
            obtain rfl : q = ch.length := by omega
            rcases hcs with ⟨h0, _⟩ | ⟨_, ⟨h0, rfl⟩ | ⟨h0, rfl⟩⟩
            · exact absurd rfl h0
            · go_wp2
              go_ret
              exact ⟨rfl, (by repeat (first | exact Below.refl _ _ | refine bl_plus ?_ | refine bl_alloc ?_ _ | refine bl_drew ?_ | refine bl_drewN ?_ _))⟩
            · have h00 : ¬ hi < lo := by omega
              go_wp2
              go_ret
              exact ⟨rfl, (by repeat (first | exact Below.refl _ _ | refine bl_plus ?_ | refine bl_alloc ?_ _ | refine bl_drew ?_ | refine bl_drewN ?_ _))⟩
      · have i0 : decide (0 < ch.length) = false := decide_eq_false (by omega)
        have i0n : ¬ 0 < ch.length := by omega
        obtain ⟨rfl, rfl⟩ : lo = 0 ∧ hi = 0 := by omega
        clear n3 n2 h2 h3
        go_enter Tryd.func23, Tryd.ntmps23
        go_wp2_with (go_at_call 26; (with_reducible refine Calls.mono (outsideP_no _ _ _ _ (by omega) (by omega)) ?_); rintro e w' ⟨rfl, rfl⟩)
        go_loop [42] (fun i => ∃ q : Nat, q ≤ ch.length ∧ i = .int .i64 q ∧ Hid (∀ j, j < q → chErrAt ch j = 0)) (fun i => ch.length - (intOf i).toNat)
        case atStart => exact ⟨0, Nat.zero_le _, rfl, hide (fun j hj => by omega)⟩
        case round =>
          obtain ⟨q, hq, rfl, HK⟩ := hrel
          by_cases hlt : q < ch.length
          · exfalso; omega
          · have hR : R = 0 := HN.out (fun j hj => HK.out j (by omega))
            subst hR
            obtain rfl : q = ch.length := by omega
            rcases hcs with ⟨h0, _⟩ | ⟨_, ⟨h0, _⟩ | ⟨h0, rfl⟩⟩
            · exact absurd rfl h0
            · exact absurd h0 (by decide)
            · clear h0
              go_wp2
              go_ret
              exact ⟨rfl, (by repeat (first | exact Below.refl _ _ | refine bl_plus ?_ | refine bl_alloc ?_ _ | refine bl_drew ?_ | refine bl_drewN ?_ _))⟩

end Go.Proofs.YtpbkidjbbhkjnaaDoor
