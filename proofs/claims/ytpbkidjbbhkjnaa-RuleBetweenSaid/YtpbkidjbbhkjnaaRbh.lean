/-
  WALKS: the units of a rule: years; what unitOf hands back.
-/
import Derived.Test.YtpbkidjbbhkjnaaRbg
import Derived.Laws.EntriesVeiled
namespace Go.Proofs.Ytpbkidjbbhkjnaa
open Go.RowKit Cal

set_option maxHeartbeats 3200000 in
set_option maxRecDepth 100000 in
theorem yearDays_any (r : Rul) (h : r.Ok) (hu : r.u = 4) (k : Nat) (hk : k ≤ 100001) (v : Value) (w : World) (hr : RulAt w r v) :
    Calls Try.prog 86 #[v, .int .i64 k] w (UnitOut r k w) := by
  obtain ⟨A, B, C, a, b, c, rfl, h1, h2, h3, h4, h5, h6⟩ := hr.ex
  unfold maxLen at h4 h5 h6
  have hpl := r.pl_years h hu k
  have hblk : r.blk k = yd (r.yy k) := by unfold Rul.blk Rul.yy; rw [if_neg (by omega), if_neg (by omega), if_neg (by omega)]
  have hm := k_mul hk h.e
  have hf := h.f
  have hyb := year_bd hf.1 (show r.f ≤ 200000 by omega)
  obtain ⟨⟨p1, p2, p3, p4⟩, _⟩ := parts_ok r.f
  have hDD := fun w => dateOfDay_any r.f w hf.1 hf.2
  have HDD := hide hDD
  have HPO : Hid ((∀ w' A c (l : List Int), r.blk k ≤ 100000 → r.pl k = l → l.length ≤ 1000 → IntsAt w' A l → (0 < l.length → ∀ a, A = some a → w.heap.size ≤ a.block) → Below w.heap.size w w' → UnitOut r k w (.returned (.tuple #[.slice A l.length c, .bool true])) w') ∧
      (∀ w' A n c, 100000 < r.blk k → Below w.heap.size w w' → UnitOut r k w (.returned (.tuple #[.slice A n c, .bool false])) w')) :=
    hide ⟨fun w' A c l ha hl hm hi hn hb => unit_yes (c := c) ha hl hi hn hm hb, fun w' A n c ha hb => unit_no ha hb⟩
  generalize UnitOut r k w = PO at *
  rw [hblk] at HPO
  have hPd : (parts r.f).d ≤ 31 := by have := mlen_bd (parts r.f).y (parts r.f).m; omega
  have hyy : r.yy k = (parts r.f).y + (k : Int) * r.e := rfl
  rw [hyy] at HPO hpl
  have HPL := hide hpl
  obtain ⟨f0, f1⟩ := hf
  obtain ⟨y0, y1⟩ := hyb
  obtain ⟨q1, q2⟩ := hm
  clear hpl hblk hyy h1 h2 h3 h hr hDD p4
  generalize r.pl k = PL at *
  obtain ⟨u, e, f, t, cc, n, wd, da, sk⟩ := r
  simp only at *
  generalize parts f = P at *
  generalize hq : (k : Int) * e = q at *
  have HQ := hide hq
  clear hq hu
  have hmul : IntKind.i64.wrap ((k : Int) * e) = q := by rw [HQ.out]; exact IntWalk.i64_in _ (by omega)
  obtain ⟨Y, M, D⟩ := P
  simp only at *
  have hnum1 : num (Y + q) 1 1 = yd (Y + q) := by unfold num; rw [cum_1]; omega
  have HNUM := hide hnum1
  clear hnum1
  by_cases hfar : 100000 < yd (Y + q)
  · have H1 := hide (show ∀ w, Calls Try.prog 108 #[.int .i64 (Y + q), .int .i64 1, .int .i64 1] w fun e w' => e = .returned (.tuple #[.int .i64 0, .int .i64 2]) ∧ Below w.heap.size w w' from fun w => by
      have := dayOf_any (Y + q) 1 1 w
      rwa [dayOfR_far (by rw [HNUM.out]; exact hfar)] at this)
    have HF := hide (HPO.out.2 · · · · hfar)
    clear HPO HPL hfar
    go_enter Try.func86, Try.ntmps86
    go_wp2_with (first | (go_at_call 103; (with_reducible refine (HDD.out _).mono ?_); rintro e w' ⟨rfl, hbl⟩; obtain ⟨os1, n1, rfl⟩ := below_plus hbl; clear hbl) | (go_at_call 108; (with_reducible refine (H1.out _).mono ?_); rintro e w' ⟨rfl, hbl⟩; obtain ⟨os2, n2, rfl⟩ := below_plus hbl; clear hbl))
    exact HF.out _ _ _ _ (by repeat (first | exact Below.refl _ _ | refine bl_plus ?_ | refine bl_alloc ?_ _ | refine bl_drew ?_ | refine bl_drewN ?_ _))
  · have hy3 := yd_year (y := Y + q) (by omega)
    have H1 := hide (show ∀ w, Calls Try.prog 108 #[.int .i64 (Y + q), .int .i64 1, .int .i64 1] w fun e w' => e = .returned (.tuple #[.int .i64 (num (Y + q) 1 1), .int .i64 0]) ∧ Below w.heap.size w w' from fun w => by
      have := dayOf_any (Y + q) 1 1 w
      rwa [dayOfR_yes (by omega) (by omega) (by omega) (by omega) (by have := mlen_bd (Y + q) 1; omega) (by rw [HNUM.out]; omega)] at this)
    have HF := hide (HPO.out.1 · · · · (by omega))
    clear HPO
    by_cases hh : D ≤ mlen (Y + q) M
    · have H2 := hide (fun w => has_yes (Y + q) M D w (by omega) (by omega) p3 hPd hh)
      by_cases hn : num (Y + q) M D ≤ 100000
      · have H3 := hide (show ∀ w, Calls Try.prog 108 #[.int .i64 (Y + q), .int .i64 M, .int .i64 D] w fun e w' => e = .returned (.tuple #[.int .i64 (num (Y + q) M D), .int .i64 0]) ∧ Below w.heap.size w w' from fun w => by
          have := dayOf_any (Y + q) M D w
          rwa [dayOfR_yes (by omega) (by omega) (by omega) (by omega) hh hn] at this)
        have HL := hide (HPL.out.trans (if_pos ⟨hh, hn⟩))
        clear hfar hh hn HPL
        generalize num (Y + q) M D = X at *
        generalize num (Y + q) 1 1 = X1 at *
        go_enter Try.func86, Try.ntmps86
        go_wp2_with (first | (go_at_call 103; (with_reducible refine (HDD.out _).mono ?_); rintro e w' ⟨rfl, hbl⟩; obtain ⟨os1, n1, rfl⟩ := below_plus hbl; clear hbl) | (go_at_call 108; (with_reducible refine (H1.out _).mono ?_); rintro e w' ⟨rfl, hbl⟩; obtain ⟨os2, n2, rfl⟩ := below_plus hbl; clear hbl) | (go_at_call 108; (with_reducible refine (H3.out _).mono ?_); rintro e w' ⟨rfl, hbl⟩; obtain ⟨os3, n3, rfl⟩ := below_plus hbl; clear hbl) | (go_at_call 109; (with_reducible refine (H2.out _).mono ?_); rintro e w' ⟨rfl, rfl⟩))
        refine HF.out _ _ _ [X] HL.out (by simp) (ints_one (by first | rfl | simp [go_sem])) (fun _ a ha => ?_) (by repeat (first | exact Below.refl _ _ | refine bl_plus ?_ | refine bl_alloc ?_ _ | refine bl_drew ?_ | refine bl_drewN ?_ _))
        injection ha with ha
        subst ha
        simp
        omega
      · have H3 := hide (show ∀ w, Calls Try.prog 108 #[.int .i64 (Y + q), .int .i64 M, .int .i64 D] w fun e w' => e = .returned (.tuple #[.int .i64 0, .int .i64 2]) ∧ Below w.heap.size w w' from fun w => by
          have := dayOf_any (Y + q) M D w
          rwa [dayOfR_far (by omega)] at this)
        have HL := hide (HPL.out.trans (if_neg (fun h => hn h.2)))
        clear hfar hh hn HPL
        generalize num (Y + q) 1 1 = X1 at *
        go_enter Try.func86, Try.ntmps86
        go_wp2_with (first | (go_at_call 103; (with_reducible refine (HDD.out _).mono ?_); rintro e w' ⟨rfl, hbl⟩; obtain ⟨os1, n1, rfl⟩ := below_plus hbl; clear hbl) | (go_at_call 108; (with_reducible refine (H1.out _).mono ?_); rintro e w' ⟨rfl, hbl⟩; obtain ⟨os2, n2, rfl⟩ := below_plus hbl; clear hbl) | (go_at_call 108; (with_reducible refine (H3.out _).mono ?_); rintro e w' ⟨rfl, hbl⟩; obtain ⟨os3, n3, rfl⟩ := below_plus hbl; clear hbl) | (go_at_call 109; (with_reducible refine (H2.out _).mono ?_); rintro e w' ⟨rfl, rfl⟩))
        exact HF.out _ _ _ [] HL.out (by simp) IntsAt.nil (fun h => absurd h (by simp)) (by repeat (first | exact Below.refl _ _ | refine bl_plus ?_ | refine bl_alloc ?_ _ | refine bl_drew ?_ | refine bl_drewN ?_ _))
    · have H2 := hide (fun w => has_no (Y + q) M D w (by omega) (by omega) p3 hPd (by omega))
      have HL := hide (HPL.out.trans (if_neg (fun h => hh h.1)))
      clear hfar hh HPL
      generalize num (Y + q) 1 1 = X1 at *
      go_enter Try.func86, Try.ntmps86
      go_wp2_with (first | (go_at_call 103; (with_reducible refine (HDD.out _).mono ?_); rintro e w' ⟨rfl, hbl⟩; obtain ⟨os1, n1, rfl⟩ := below_plus hbl; clear hbl) | (go_at_call 108; (with_reducible refine (H1.out _).mono ?_); rintro e w' ⟨rfl, hbl⟩; obtain ⟨os2, n2, rfl⟩ := below_plus hbl; clear hbl) | (go_at_call 109; (with_reducible refine (H2.out _).mono ?_); rintro e w' ⟨rfl, rfl⟩))
      exact HF.out _ _ _ [] HL.out (by simp) IntsAt.nil (fun h => absurd h (by simp)) (by repeat (first | exact Below.refl _ _ | refine bl_plus ?_ | refine bl_alloc ?_ _ | refine bl_drew ?_ | refine bl_drewN ?_ _))

/-- What unitOf hands back: a function that hands back the days of a period. -/
theorem unit_any (r : Rul) (h : r.Ok) : ∃ fid, (∀ args w, (callFunc fid args).run Try.prog w = .ok (.enter fid args) w) ∧
    (∀ v w, RulAt w r v → Calls Try.prog 60 #[v] w fun e w' => e = .returned (.agg #[.func (.func fid) #[] #[]]) ∧ Below w.heap.size w w') ∧
    (∀ k, k ≤ 100001 → ∀ v w, RulAt w r v → Calls Try.prog fid #[v, .int .i64 (k : Nat)] w (UnitOut r k w)) := by
  have hu4 : r.u = 1 ∨ r.u = 2 ∨ r.u = 3 ∨ r.u = 4 := by have := h.u; omega
  rcases hu4 with hu | hu | hu | hu
  · refine ⟨83, fun args w => Go.Proofs.enters_of Try.func83 (by kernel_rfl) rfl args w, fun v w hr => ?_, fun k hk v w hr => daysOf_any r h hu k hk v w hr⟩
    obtain ⟨A, B, C, a, b, c, rfl, h1, h2, h3, h4, h5, h6⟩ := hr.ex
    clear hr h1 h2 h3 h4 h5 h6 h
    obtain ⟨u, e, f, t, cc, n, wd, da, sk⟩ := r
    simp only at *
    subst hu
    go_enter Try.func60, Try.ntmps60
    go_wp2
    go_returns
    exact ⟨rfl, (by repeat (first | exact Below.refl _ _ | refine bl_plus ?_ | refine bl_alloc ?_ _ | refine bl_drew ?_ | refine bl_drewN ?_ _))⟩
  · refine ⟨84, fun args w => Go.Proofs.enters_of Try.func84 (by kernel_rfl) rfl args w, fun v w hr => ?_, fun k hk v w hr => weekDays_any r h hu k hk v w hr⟩
    obtain ⟨A, B, C, a, b, c, rfl, h1, h2, h3, h4, h5, h6⟩ := hr.ex
    clear hr h1 h2 h3 h4 h5 h6 h
    obtain ⟨u, e, f, t, cc, n, wd, da, sk⟩ := r
    simp only at *
    subst hu
    go_enter Try.func60, Try.ntmps60
    go_wp2
    go_returns
    exact ⟨rfl, (by repeat (first | exact Below.refl _ _ | refine bl_plus ?_ | refine bl_alloc ?_ _ | refine bl_drew ?_ | refine bl_drewN ?_ _))⟩
  · refine ⟨85, fun args w => Go.Proofs.enters_of Try.func85 (by kernel_rfl) rfl args w, fun v w hr => ?_, fun k hk v w hr => monthDays_any r h hu k hk v w hr⟩
    obtain ⟨A, B, C, a, b, c, rfl, h1, h2, h3, h4, h5, h6⟩ := hr.ex
    clear hr h1 h2 h3 h4 h5 h6 h
    obtain ⟨u, e, f, t, cc, n, wd, da, sk⟩ := r
    simp only at *
    subst hu
    go_enter Try.func60, Try.ntmps60
    go_wp2
    go_returns
    exact ⟨rfl, (by repeat (first | exact Below.refl _ _ | refine bl_plus ?_ | refine bl_alloc ?_ _ | refine bl_drew ?_ | refine bl_drewN ?_ _))⟩
  · refine ⟨86, fun args w => Go.Proofs.enters_of Try.func86 (by kernel_rfl) rfl args w, fun v w hr => ?_, fun k hk v w hr => yearDays_any r h hu k hk v w hr⟩
    obtain ⟨A, B, C, a, b, c, rfl, h1, h2, h3, h4, h5, h6⟩ := hr.ex
    clear hr h1 h2 h3 h4 h5 h6 h
    obtain ⟨u, e, f, t, cc, n, wd, da, sk⟩ := r
    simp only at *
    subst hu
    go_enter Try.func60, Try.ntmps60
    go_wp2
    go_returns
    exact ⟨rfl, (by repeat (first | exact Below.refl _ _ | refine bl_plus ?_ | refine bl_alloc ?_ _ | refine bl_drew ?_ | refine bl_drewN ?_ _))⟩

end Go.Proofs.Ytpbkidjbbhkjnaa
