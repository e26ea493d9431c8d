/-
  WALKS: the reference's next day on which a rule occurs.
-/
import Derived.Test.YtpbkidjbbhkjnaaRbn
namespace Go.Proofs.Ytpbkidjbbhkjnaa
open Go.RowKit Cal
attribute [local go_sem high] run_min_i run_max_i

theorem nx_start (r : Rul) (d : Int) : ∀ y, d < y → y < max (d + 1) r.f → r.hit y = false := by
  intro y h1 h2
  cases hh : r.hit y with
  | false => rfl
  | true => have := (r.hit_in hh).1; omega
theorem nx_step {r : Rul} {d x : Int} (h : ∀ y, d < y → y < x → r.hit y = false) (hx : r.hit x = false) : ∀ y, d < y → y < x + 1 → r.hit y = false := by
  intro y h1 h2
  by_cases e : y = x
  · rw [e]; exact hx
  · exact h y h1 (by omega)
theorem hit_sk {r : Rul} {x : Int} (hs : x ∈ r.sk) : r.hit x = false := by unfold Rul.hit; rw [List.contains_iff_mem.2 hs]; simp
theorem nx_cnt_no {r : Rul} {x : Int} {m : Nat} (h : r.c = 0 ∨ m = r.cnt x) (hc : r.cand x = false) : r.c = 0 ∨ m = r.cnt (x + 1) := by rw [r.cnt_no hc]; exact h
theorem nx_cnt_yes {r : Rul} {x : Int} {m : Nat} (h : r.c = 0 ∨ m = r.cnt x) (hc : r.cand x = true) : r.c = 0 ∨ m + 1 = r.cnt (x + 1) := by rw [r.cnt_yes hc]; omega
theorem nx_m {r : Rul} {x : Int} {m : Nat} (h : r.c = 0 ∨ m = r.cnt x) (hc : 0 < r.c) : (r.cnt x : Int) = m := by omega
theorem nx_late {r : Rul} {d x y : Int} (h : ∀ y, d < y → y < x → r.hit y = false) (hl : r.last < x) (hy : d < y) : r.hit y = false := by
  cases hh : r.hit y with
  | false => rfl
  | true =>
    have := r.hit_in hh
    rw [h y hy (by omega)] at hh
    cases hh
theorem nx_full {r : Rul} {d x y : Int} {m : Nat} (h : r.c = 0 ∨ m = r.cnt x) (hc : 0 < r.c) (hm : r.c ≤ (m : Int)) (hn : ∀ y, d < y → y < x → r.hit y = false) (hy : d < y) : r.hit y = false := by
  cases hh : r.hit y with
  | false => rfl
  | true =>
    have := hit_late (x := x) hc (by have := nx_m h hc; omega) hh
    rw [hn y hy this] at hh
    cases hh

set_option maxHeartbeats 12800000 in
set_option maxRecDepth 100000 in
theorem nextOf_any (r : Rul) (h : r.Ok) (v : Value) (d : Int) (w : World) (hr : RulAt w r v) (d0 : 0 ≤ d) (d1 : d ≤ 100000) :
    Calls Try.prog 42 #[v, .int .i64 d] w fun e w' => e = .returned (.int .i64 ((r.nxt d).getD (-1))) ∧ Below w.heap.size w w' := by
  have HR := hide hr
  have HOK := hide h
  obtain ⟨A, B, C, a, b, c, rfl, h1, h2, h3, h4, h5, h6⟩ := hr.ex
  unfold maxLen at h4 h5 h6
  have hff := h.f
  obtain ⟨f0, f1⟩ := hff
  have hcc := h.c
  obtain ⟨cc0, cc1⟩ := hcc
  have htt := h.t
  obtain ⟨tt0, tt1⟩ := htt
  have hskl := h.skl
  have hll := h.last_le
  have HC := hide h3
  generalize hPO : (fun e w' => e = Ending.returned (.int .i64 ((r.nxt d).getD (-1))) ∧ Below w.heap.size w w') = PO
  have HPO : Hid ((∀ w' x, r.nxt d = some x → Below w.heap.size w w' → PO (Ending.returned (.int .i64 x)) w') ∧ (∀ w', r.nxt d = none → Below w.heap.size w w' → PO (Ending.returned (.int .i64 (-1))) w')) :=
    hide ⟨fun w' x hx hb => by rw [← hPO, hx]; exact ⟨rfl, hb⟩, fun w' hx hb => by rw [← hPO, hx]; exact ⟨rfl, hb⟩⟩
  clear hPO h1 h2 h3 hr h
  have hT : (r.t < 0 ∧ r.last = 100000) ∨ (0 ≤ r.t ∧ r.last = r.t) := by
    unfold Rul.last
    by_cases h : 0 ≤ r.t
    · rw [if_pos h]; exact .inr ⟨h, rfl⟩
    · rw [if_neg h]; exact .inl ⟨by omega, rfl⟩
  by_cases hc0 : r.c = 0
  · have hcb : (r.c == 0) = true := by simpa using hc0
    have hcn0 : ¬ 0 < r.c := by omega
    have HC0 := hide hc0
    clear hc0
    rcases hT with ⟨t2, hla⟩ | ⟨t2, hla⟩
    · have HLA := hide hla
      clear hla
      go_enter Try.func42, Try.ntmps42
      go_upto_region 1 with (fail)
      have HVB := hide (show Below w.heap.size w (w.alloc (.cells #[.int .i64 r.u, .int .i64 r.e, .int .i64 r.f, .int .i64 r.t, .int .i64 r.c, .slice A r.wd.length a, .slice B r.da.length b, .int .i64 r.n, .slice C r.sk.length c] 35)) from (by repeat (first | exact Below.refl _ _ | refine bl_plus ?_ | refine bl_alloc ?_ _ | refine bl_drew ?_ | refine bl_drewN ?_ _)))
      have HVR := hide (show Blk (w.alloc (.cells #[.int .i64 r.u, .int .i64 r.e, .int .i64 r.f, .int .i64 r.t, .int .i64 r.c, .slice A r.wd.length a, .slice B r.da.length b, .int .i64 r.n, .slice C r.sk.length c] 35)) w.heap.size 35 #[.int .i64 r.u, .int .i64 r.e, .int .i64 r.f, .int .i64 r.t, .int .i64 r.c, .slice A r.wd.length a, .slice B r.da.length b, .int .i64 r.n, .slice C r.sk.length c] from Blk.new ..)
      generalize (w.alloc (.cells #[.int .i64 r.u, .int .i64 r.e, .int .i64 r.f, .int .i64 r.t, .int .i64 r.c, .slice A r.wd.length a, .slice B r.da.length b, .int .i64 r.n, .slice C r.sk.length c] 35)) = V at *
      obtain ⟨b0, b1, b2, b3, b4, b5, b6, b7, b8, b9, b10⟩ := HVR.out.nine
      go_wp2
      have HS0 := hide (nx_start r d)
      have hM1 : d < max (d + 1) r.f := by omega
      have hM2 : r.f ≤ max (d + 1) r.f := by omega
      have HM0 := hide (show r.c = 0 ∨ 0 = r.cnt (max (d + 1) r.f) from .inl HC0.out)
      generalize max (d + 1) r.f = M at *
      go_loopw [5, 7] (fun ns xs wr => ∃ (x : Int) (m : Nat) (os : Array Obj) (n : Nat), d < x ∧ r.f ≤ x ∧ (m : Int) ≤ x ∧ xs = .int .i64 x ∧ ns = .int .i64 m ∧ wr = plus V os n ∧ Hid (r.c = 0 ∨ m = r.cnt x) ∧ Hid (∀ y, d < y → y < x → r.hit y = false)) (fun _ xs _ => (100002 - intOf xs).toNat)
      case atStart => exact ⟨M, 0, #[], _, hM1, hM2, by omega, rfl, rfl, plus_nil.symm, HM0, HS0⟩
      case round =>
        clear HS0 HM0
        obtain ⟨x, m, os, n, hxd, hfx, hmx, rfl, rfl, rfl, HM, HNO⟩ := hrel
        have x0 : 0 ≤ x := by omega
        have HR2 := hide (HR.out.below (HVB.out.trans ((show Below V.heap.size V (plus V os n) from (by repeat (first | exact Below.refl _ _ | refine bl_plus ?_ | refine bl_alloc ?_ _ | refine bl_drew ?_ | refine bl_drewN ?_ _))).mono HVB.out.size)))
        have HC2 := hide (HC.out.below (HVB.out.trans ((show Below V.heap.size V (plus V os n) from (by repeat (first | exact Below.refl _ _ | refine bl_plus ?_ | refine bl_alloc ?_ _ | refine bl_drew ?_ | refine bl_drewN ?_ _))).mono HVB.out.size)))
        by_cases hin : x ≤ 100000
        · have x1 : x ≤ 100000 := by omega
          cases hcd : r.cand x with
          | false =>
            have HCA := hide (candidate_is r HOK.out _ x _ HR2.out (by omega) x0 hcd)
            have HNX := hide (nx_step HNO.out (by unfold Rul.hit; rw [hcd]; rfl))
            have HMN := hide (nx_cnt_no HM.out hcd)
            clear hcd
            go_wp2_with (first | (go_at_call 59; (with_reducible refine HCA.out.mono ?_); rintro e w' ⟨rfl, hbl⟩; obtain ⟨os3, n3, rfl⟩ := below_plus hbl; clear hbl))
            go_roundw
            case rel => exact ⟨x + 1, m, os ++ os3, n3, by omega, by omega, by omega, by go_num, rfl, by rw [plus_plus], HMN, HNX⟩
            case measure => simp [intOf]; omega
          | true =>
            have HCA := hide (candidate_is r HOK.out _ x _ HR2.out (by omega) x0 hcd)
            have HMN := hide (nx_cnt_yes HM.out hcd)
            by_cases hsk : x ∈ r.sk
            · have HCN := hide (fun w' hb => containsI_any C c r.sk x w' (HC2.out.below (bl_trans (by repeat (first | exact Below.refl _ _ | refine bl_plus ?_ | refine bl_alloc ?_ _ | refine bl_drew ?_ | refine bl_drewN ?_ _)) hb)) (by omega))
              rw [decide_eq_true hsk] at HCN
              have HNX := hide (nx_step HNO.out (hit_sk hsk))
              clear hcd hsk
              go_wp2_with (first | (go_at_call 59; (with_reducible refine HCA.out.mono ?_); rintro e w' ⟨rfl, hbl⟩; obtain ⟨os3, n3, rfl⟩ := below_plus hbl; clear hbl) | (go_at_call 40; (with_reducible refine (HCN.out _ (by repeat (first | exact Below.refl _ _ | refine bl_plus ?_ | refine bl_alloc ?_ _ | refine bl_drew ?_ | refine bl_drewN ?_ _))).mono ?_); rintro e w' ⟨rfl, rfl⟩))
              go_roundw
              case rel => exact ⟨x + 1, m + 1, os ++ os3, n3, by omega, by omega, by omega, by go_num, by go_num, by rw [plus_plus], HMN, HNX⟩
              case measure => simp [intOf]; omega
            · have HCN := hide (fun w' hb => containsI_any C c r.sk x w' (HC2.out.below (bl_trans (by repeat (first | exact Below.refl _ _ | refine bl_plus ?_ | refine bl_alloc ?_ _ | refine bl_drew ?_ | refine bl_drewN ?_ _)) hb)) (by omega))
              rw [decide_eq_false hsk] at HCN
              have HFN := hide (show r.nxt d = some x from r.nxt_some (hit_yes hcd hsk (.inl HC0.out)) (by omega) HNO.out)
              clear hcd hsk
              go_wp2_with (first | (go_at_call 59; (with_reducible refine HCA.out.mono ?_); rintro e w' ⟨rfl, hbl⟩; obtain ⟨os3, n3, rfl⟩ := below_plus hbl; clear hbl) | (go_at_call 40; (with_reducible refine (HCN.out _ (by repeat (first | exact Below.refl _ _ | refine bl_plus ?_ | refine bl_alloc ?_ _ | refine bl_drew ?_ | refine bl_drewN ?_ _))).mono ?_); rintro e w' ⟨rfl, rfl⟩))
              exact HPO.out.1 _ x HFN.out (HVB.out.trans (Below.mono (by repeat (first | exact Below.refl _ _ | refine bl_plus ?_ | refine bl_alloc ?_ _ | refine bl_drew ?_ | refine bl_drewN ?_ _)) HVB.out.size))
        · have HFN := hide (show r.nxt d = none from r.nxt_none (fun y hy => nx_late HNO.out (by have := HLA.out; omega) hy))
          go_wp2
          exact HPO.out.2 _ HFN.out (HVB.out.trans (Below.mono (by repeat (first | exact Below.refl _ _ | refine bl_plus ?_ | refine bl_alloc ?_ _ | refine bl_drew ?_ | refine bl_drewN ?_ _)) HVB.out.size))

    · have HLA := hide hla
      clear hla
      go_enter Try.func42, Try.ntmps42
      go_upto_region 1 with (fail)
      have HVB := hide (show Below w.heap.size w (w.alloc (.cells #[.int .i64 r.u, .int .i64 r.e, .int .i64 r.f, .int .i64 r.t, .int .i64 r.c, .slice A r.wd.length a, .slice B r.da.length b, .int .i64 r.n, .slice C r.sk.length c] 35)) from (by repeat (first | exact Below.refl _ _ | refine bl_plus ?_ | refine bl_alloc ?_ _ | refine bl_drew ?_ | refine bl_drewN ?_ _)))
      have HVR := hide (show Blk (w.alloc (.cells #[.int .i64 r.u, .int .i64 r.e, .int .i64 r.f, .int .i64 r.t, .int .i64 r.c, .slice A r.wd.length a, .slice B r.da.length b, .int .i64 r.n, .slice C r.sk.length c] 35)) w.heap.size 35 #[.int .i64 r.u, .int .i64 r.e, .int .i64 r.f, .int .i64 r.t, .int .i64 r.c, .slice A r.wd.length a, .slice B r.da.length b, .int .i64 r.n, .slice C r.sk.length c] from Blk.new ..)
      generalize (w.alloc (.cells #[.int .i64 r.u, .int .i64 r.e, .int .i64 r.f, .int .i64 r.t, .int .i64 r.c, .slice A r.wd.length a, .slice B r.da.length b, .int .i64 r.n, .slice C r.sk.length c] 35)) = V at *
      obtain ⟨b0, b1, b2, b3, b4, b5, b6, b7, b8, b9, b10⟩ := HVR.out.nine
      go_wp2
      have HS0 := hide (nx_start r d)
      have hM1 : d < max (d + 1) r.f := by omega
      have hM2 : r.f ≤ max (d + 1) r.f := by omega
      have HM0 := hide (show r.c = 0 ∨ 0 = r.cnt (max (d + 1) r.f) from .inl HC0.out)
      generalize max (d + 1) r.f = M at *
      go_loopw [5, 7] (fun ns xs wr => ∃ (x : Int) (m : Nat) (os : Array Obj) (n : Nat), d < x ∧ r.f ≤ x ∧ (m : Int) ≤ x ∧ xs = .int .i64 x ∧ ns = .int .i64 m ∧ wr = plus V os n ∧ Hid (r.c = 0 ∨ m = r.cnt x) ∧ Hid (∀ y, d < y → y < x → r.hit y = false)) (fun _ xs _ => (100002 - intOf xs).toNat)
      case atStart => exact ⟨M, 0, #[], _, hM1, hM2, by omega, rfl, rfl, plus_nil.symm, HM0, HS0⟩
      case round =>
        clear HS0 HM0
        obtain ⟨x, m, os, n, hxd, hfx, hmx, rfl, rfl, rfl, HM, HNO⟩ := hrel
        have x0 : 0 ≤ x := by omega
        have HR2 := hide (HR.out.below (HVB.out.trans ((show Below V.heap.size V (plus V os n) from (by repeat (first | exact Below.refl _ _ | refine bl_plus ?_ | refine bl_alloc ?_ _ | refine bl_drew ?_ | refine bl_drewN ?_ _))).mono HVB.out.size)))
        have HC2 := hide (HC.out.below (HVB.out.trans ((show Below V.heap.size V (plus V os n) from (by repeat (first | exact Below.refl _ _ | refine bl_plus ?_ | refine bl_alloc ?_ _ | refine bl_drew ?_ | refine bl_drewN ?_ _))).mono HVB.out.size)))
        by_cases hin : x ≤ r.t
        · have x1 : x ≤ 100000 := by omega
          cases hcd : r.cand x with
          | false =>
            have HCA := hide (candidate_is r HOK.out _ x _ HR2.out (by omega) x0 hcd)
            have HNX := hide (nx_step HNO.out (by unfold Rul.hit; rw [hcd]; rfl))
            have HMN := hide (nx_cnt_no HM.out hcd)
            clear hcd
            go_wp2_with (first | (go_at_call 59; (with_reducible refine HCA.out.mono ?_); rintro e w' ⟨rfl, hbl⟩; obtain ⟨os3, n3, rfl⟩ := below_plus hbl; clear hbl))
            go_roundw
            case rel => exact ⟨x + 1, m, os ++ os3, n3, by omega, by omega, by omega, by go_num, rfl, by rw [plus_plus], HMN, HNX⟩
            case measure => simp [intOf]; omega
          | true =>
            have HCA := hide (candidate_is r HOK.out _ x _ HR2.out (by omega) x0 hcd)
            have HMN := hide (nx_cnt_yes HM.out hcd)
            by_cases hsk : x ∈ r.sk
            · have HCN := hide (fun w' hb => containsI_any C c r.sk x w' (HC2.out.below (bl_trans (by repeat (first | exact Below.refl _ _ | refine bl_plus ?_ | refine bl_alloc ?_ _ | refine bl_drew ?_ | refine bl_drewN ?_ _)) hb)) (by omega))
              rw [decide_eq_true hsk] at HCN
              have HNX := hide (nx_step HNO.out (hit_sk hsk))
              clear hcd hsk
              go_wp2_with (first | (go_at_call 59; (with_reducible refine HCA.out.mono ?_); rintro e w' ⟨rfl, hbl⟩; obtain ⟨os3, n3, rfl⟩ := below_plus hbl; clear hbl) | (go_at_call 40; (with_reducible refine (HCN.out _ (by repeat (first | exact Below.refl _ _ | refine bl_plus ?_ | refine bl_alloc ?_ _ | refine bl_drew ?_ | refine bl_drewN ?_ _))).mono ?_); rintro e w' ⟨rfl, rfl⟩))
              go_roundw
              case rel => exact ⟨x + 1, m + 1, os ++ os3, n3, by omega, by omega, by omega, by go_num, by go_num, by rw [plus_plus], HMN, HNX⟩
              case measure => simp [intOf]; omega
            · have HCN := hide (fun w' hb => containsI_any C c r.sk x w' (HC2.out.below (bl_trans (by repeat (first | exact Below.refl _ _ | refine bl_plus ?_ | refine bl_alloc ?_ _ | refine bl_drew ?_ | refine bl_drewN ?_ _)) hb)) (by omega))
              rw [decide_eq_false hsk] at HCN
              have HFN := hide (show r.nxt d = some x from r.nxt_some (hit_yes hcd hsk (.inl HC0.out)) (by omega) HNO.out)
              clear hcd hsk
              go_wp2_with (first | (go_at_call 59; (with_reducible refine HCA.out.mono ?_); rintro e w' ⟨rfl, hbl⟩; obtain ⟨os3, n3, rfl⟩ := below_plus hbl; clear hbl) | (go_at_call 40; (with_reducible refine (HCN.out _ (by repeat (first | exact Below.refl _ _ | refine bl_plus ?_ | refine bl_alloc ?_ _ | refine bl_drew ?_ | refine bl_drewN ?_ _))).mono ?_); rintro e w' ⟨rfl, rfl⟩))
              exact HPO.out.1 _ x HFN.out (HVB.out.trans (Below.mono (by repeat (first | exact Below.refl _ _ | refine bl_plus ?_ | refine bl_alloc ?_ _ | refine bl_drew ?_ | refine bl_drewN ?_ _)) HVB.out.size))
        · by_cases hin2 : x ≤ 100000
          · have HFN := hide (show r.nxt d = none from r.nxt_none (fun y hy => nx_late HNO.out (by have := HLA.out; omega) hy))
            go_wp2
            exact HPO.out.2 _ HFN.out (HVB.out.trans (Below.mono (by repeat (first | exact Below.refl _ _ | refine bl_plus ?_ | refine bl_alloc ?_ _ | refine bl_drew ?_ | refine bl_drewN ?_ _)) HVB.out.size))
          · have HFN := hide (show r.nxt d = none from r.nxt_none (fun y hy => nx_late HNO.out (by have := HLA.out; omega) hy))
            go_wp2
            exact HPO.out.2 _ HFN.out (HVB.out.trans (Below.mono (by repeat (first | exact Below.refl _ _ | refine bl_plus ?_ | refine bl_alloc ?_ _ | refine bl_drew ?_ | refine bl_drewN ?_ _)) HVB.out.size))

  · have hcb : (r.c == 0) = false := by simpa using hc0
    have hcp : 0 < r.c := by omega
    clear hc0
    rcases hT with ⟨t2, hla⟩ | ⟨t2, hla⟩
    · have HLA := hide hla
      clear hla
      go_enter Try.func42, Try.ntmps42
      go_upto_region 1 with (fail)
      have HVB := hide (show Below w.heap.size w (w.alloc (.cells #[.int .i64 r.u, .int .i64 r.e, .int .i64 r.f, .int .i64 r.t, .int .i64 r.c, .slice A r.wd.length a, .slice B r.da.length b, .int .i64 r.n, .slice C r.sk.length c] 35)) from (by repeat (first | exact Below.refl _ _ | refine bl_plus ?_ | refine bl_alloc ?_ _ | refine bl_drew ?_ | refine bl_drewN ?_ _)))
      have HVR := hide (show Blk (w.alloc (.cells #[.int .i64 r.u, .int .i64 r.e, .int .i64 r.f, .int .i64 r.t, .int .i64 r.c, .slice A r.wd.length a, .slice B r.da.length b, .int .i64 r.n, .slice C r.sk.length c] 35)) w.heap.size 35 #[.int .i64 r.u, .int .i64 r.e, .int .i64 r.f, .int .i64 r.t, .int .i64 r.c, .slice A r.wd.length a, .slice B r.da.length b, .int .i64 r.n, .slice C r.sk.length c] from Blk.new ..)
      generalize (w.alloc (.cells #[.int .i64 r.u, .int .i64 r.e, .int .i64 r.f, .int .i64 r.t, .int .i64 r.c, .slice A r.wd.length a, .slice B r.da.length b, .int .i64 r.n, .slice C r.sk.length c] 35)) = V at *
      obtain ⟨b0, b1, b2, b3, b4, b5, b6, b7, b8, b9, b10⟩ := HVR.out.nine
      go_wp2
      go_loopw [5, 6] (fun ns xs wr => ∃ (x : Int) (os : Array Obj) (n : Nat), r.f ≤ x ∧ (x ≤ d + 1 ∨ x = r.f) ∧ xs = .int .i64 x ∧ ns = .int .i64 (r.cnt x) ∧ wr = plus V os n) (fun _ xs _ => (100002 - intOf xs).toNat)
      case atStart => exact ⟨r.f, #[], _, Int.le_refl _, .inr rfl, rfl, by rw [r.cnt_of_le (Int.le_refl _)]; rfl, plus_nil.symm⟩
      case round =>
        obtain ⟨x, os, n, hfx, hxt, rfl, rfl, rfl⟩ := hrel
        have x0 : 0 ≤ x := by omega
        have hcl := cnt_le (r := r) hfx
        have HR2 := hide (HR.out.below (HVB.out.trans ((show Below V.heap.size V (plus V os n) from (by repeat (first | exact Below.refl _ _ | refine bl_plus ?_ | refine bl_alloc ?_ _ | refine bl_drew ?_ | refine bl_drewN ?_ _))).mono HVB.out.size)))
        have HC2 := hide (HC.out.below (HVB.out.trans ((show Below V.heap.size V (plus V os n) from (by repeat (first | exact Below.refl _ _ | refine bl_plus ?_ | refine bl_alloc ?_ _ | refine bl_drew ?_ | refine bl_drewN ?_ _))).mono HVB.out.size)))
        by_cases hx : x ≤ d
        · cases hcd : r.cand x with
          | false =>
            have HCA := hide (candidate_is r HOK.out _ x _ HR2.out (by omega) x0 hcd)
            have HST := hide (r.cnt_no hcd)
            clear hcd
            go_wp2_with (first | (go_at_call 59; (with_reducible refine HCA.out.mono ?_); rintro e w' ⟨rfl, hbl⟩; obtain ⟨os3, n3, rfl⟩ := below_plus hbl; clear hbl))
            go_roundw
            case rel => exact ⟨x + 1, os ++ os3, n3, by omega, by omega, by go_num, by rw [HST.out], by rw [plus_plus]⟩
            case measure => simp [intOf]; omega
          | true =>
            have HCA := hide (candidate_is r HOK.out _ x _ HR2.out (by omega) x0 hcd)
            have HST := hide (r.cnt_yes hcd)
            clear hcd
            go_wp2_with (first | (go_at_call 59; (with_reducible refine HCA.out.mono ?_); rintro e w' ⟨rfl, hbl⟩; obtain ⟨os3, n3, rfl⟩ := below_plus hbl; clear hbl))
            go_roundw
            case rel => exact ⟨x + 1, os ++ os3, n3, by omega, by omega, by go_num, by rw [HST.out]; go_num, by rw [plus_plus]⟩
            case measure => simp [intOf]; omega
        · have hM : max (d + 1) r.f = x := by omega
          have hs0 := nx_start r d
          rw [hM] at hs0
          have HS0 := hide hs0
          have HMX := hide hM
          clear hs0 hM HR2 HC2
          generalize hcx : r.cnt x = m0 at *
          have HM0 := hide (show r.c = 0 ∨ m0 = r.cnt x from .inr hcx.symm)
          clear hcx
          go_wp2
          rw [HMX.out]
          go_loopw [5, 7] (fun ns xs wr => ∃ (x : Int) (m : Nat) (os : Array Obj) (n : Nat), d < x ∧ r.f ≤ x ∧ (m : Int) ≤ x ∧ xs = .int .i64 x ∧ ns = .int .i64 m ∧ wr = plus V os n ∧ Hid (r.c = 0 ∨ m = r.cnt x) ∧ Hid (∀ y, d < y → y < x → r.hit y = false)) (fun _ xs _ => (100002 - intOf xs).toNat)
          case atStart => exact ⟨x, m0, os, n, by omega, hfx, by omega, rfl, rfl, rfl, HM0, HS0⟩
          case round =>
            clear HS0 HM0
            obtain ⟨x, m, os, n, hxd, hfx, hmx, rfl, rfl, rfl, HM, HNO⟩ := hrel
            have x0 : 0 ≤ x := by omega
            have HR2 := hide (HR.out.below (HVB.out.trans ((show Below V.heap.size V (plus V os n) from (by repeat (first | exact Below.refl _ _ | refine bl_plus ?_ | refine bl_alloc ?_ _ | refine bl_drew ?_ | refine bl_drewN ?_ _))).mono HVB.out.size)))
            have HC2 := hide (HC.out.below (HVB.out.trans ((show Below V.heap.size V (plus V os n) from (by repeat (first | exact Below.refl _ _ | refine bl_plus ?_ | refine bl_alloc ?_ _ | refine bl_drew ?_ | refine bl_drewN ?_ _))).mono HVB.out.size)))
            by_cases hin : x ≤ 100000
            · have x1 : x ≤ 100000 := by omega
              by_cases hcn : (m : Int) < r.c
              · cases hcd : r.cand x with
                | false =>
                  have HCA := hide (candidate_is r HOK.out _ x _ HR2.out (by omega) x0 hcd)
                  have HNX := hide (nx_step HNO.out (by unfold Rul.hit; rw [hcd]; rfl))
                  have HMN := hide (nx_cnt_no HM.out hcd)
                  clear hcd
                  go_wp2_with (first | (go_at_call 59; (with_reducible refine HCA.out.mono ?_); rintro e w' ⟨rfl, hbl⟩; obtain ⟨os3, n3, rfl⟩ := below_plus hbl; clear hbl))
                  go_roundw
                  case rel => exact ⟨x + 1, m, os ++ os3, n3, by omega, by omega, by omega, by go_num, rfl, by rw [plus_plus], HMN, HNX⟩
                  case measure => simp [intOf]; omega
                | true =>
                  have HCA := hide (candidate_is r HOK.out _ x _ HR2.out (by omega) x0 hcd)
                  have HMN := hide (nx_cnt_yes HM.out hcd)
                  by_cases hsk : x ∈ r.sk
                  · have HCN := hide (fun w' hb => containsI_any C c r.sk x w' (HC2.out.below (bl_trans (by repeat (first | exact Below.refl _ _ | refine bl_plus ?_ | refine bl_alloc ?_ _ | refine bl_drew ?_ | refine bl_drewN ?_ _)) hb)) (by omega))
                    rw [decide_eq_true hsk] at HCN
                    have HNX := hide (nx_step HNO.out (hit_sk hsk))
                    clear hcd hsk
                    go_wp2_with (first | (go_at_call 59; (with_reducible refine HCA.out.mono ?_); rintro e w' ⟨rfl, hbl⟩; obtain ⟨os3, n3, rfl⟩ := below_plus hbl; clear hbl) | (go_at_call 40; (with_reducible refine (HCN.out _ (by repeat (first | exact Below.refl _ _ | refine bl_plus ?_ | refine bl_alloc ?_ _ | refine bl_drew ?_ | refine bl_drewN ?_ _))).mono ?_); rintro e w' ⟨rfl, rfl⟩))
                    go_roundw
                    case rel => exact ⟨x + 1, m + 1, os ++ os3, n3, by omega, by omega, by omega, by go_num, by go_num, by rw [plus_plus], HMN, HNX⟩
                    case measure => simp [intOf]; omega
                  · have HCN := hide (fun w' hb => containsI_any C c r.sk x w' (HC2.out.below (bl_trans (by repeat (first | exact Below.refl _ _ | refine bl_plus ?_ | refine bl_alloc ?_ _ | refine bl_drew ?_ | refine bl_drewN ?_ _)) hb)) (by omega))
                    rw [decide_eq_false hsk] at HCN
                    have HFN := hide (show r.nxt d = some x from r.nxt_some (hit_yes hcd hsk (.inr (by rw [nx_m HM.out hcp]; exact hcn))) (by omega) HNO.out)
                    clear hcd hsk
                    go_wp2_with (first | (go_at_call 59; (with_reducible refine HCA.out.mono ?_); rintro e w' ⟨rfl, hbl⟩; obtain ⟨os3, n3, rfl⟩ := below_plus hbl; clear hbl) | (go_at_call 40; (with_reducible refine (HCN.out _ (by repeat (first | exact Below.refl _ _ | refine bl_plus ?_ | refine bl_alloc ?_ _ | refine bl_drew ?_ | refine bl_drewN ?_ _))).mono ?_); rintro e w' ⟨rfl, rfl⟩))
                    exact HPO.out.1 _ x HFN.out (HVB.out.trans (Below.mono (by repeat (first | exact Below.refl _ _ | refine bl_plus ?_ | refine bl_alloc ?_ _ | refine bl_drew ?_ | refine bl_drewN ?_ _)) HVB.out.size))
              · have HFN := hide (show r.nxt d = none from r.nxt_none (fun y hy => nx_full HM.out hcp (by omega) HNO.out hy))
                go_wp2
                exact HPO.out.2 _ HFN.out (HVB.out.trans (Below.mono (by repeat (first | exact Below.refl _ _ | refine bl_plus ?_ | refine bl_alloc ?_ _ | refine bl_drew ?_ | refine bl_drewN ?_ _)) HVB.out.size))
            · have HFN := hide (show r.nxt d = none from r.nxt_none (fun y hy => nx_late HNO.out (by have := HLA.out; omega) hy))
              go_wp2
              exact HPO.out.2 _ HFN.out (HVB.out.trans (Below.mono (by repeat (first | exact Below.refl _ _ | refine bl_plus ?_ | refine bl_alloc ?_ _ | refine bl_drew ?_ | refine bl_drewN ?_ _)) HVB.out.size))

    · have HLA := hide hla
      clear hla
      go_enter Try.func42, Try.ntmps42
      go_upto_region 1 with (fail)
      have HVB := hide (show Below w.heap.size w (w.alloc (.cells #[.int .i64 r.u, .int .i64 r.e, .int .i64 r.f, .int .i64 r.t, .int .i64 r.c, .slice A r.wd.length a, .slice B r.da.length b, .int .i64 r.n, .slice C r.sk.length c] 35)) from (by repeat (first | exact Below.refl _ _ | refine bl_plus ?_ | refine bl_alloc ?_ _ | refine bl_drew ?_ | refine bl_drewN ?_ _)))
      have HVR := hide (show Blk (w.alloc (.cells #[.int .i64 r.u, .int .i64 r.e, .int .i64 r.f, .int .i64 r.t, .int .i64 r.c, .slice A r.wd.length a, .slice B r.da.length b, .int .i64 r.n, .slice C r.sk.length c] 35)) w.heap.size 35 #[.int .i64 r.u, .int .i64 r.e, .int .i64 r.f, .int .i64 r.t, .int .i64 r.c, .slice A r.wd.length a, .slice B r.da.length b, .int .i64 r.n, .slice C r.sk.length c] from Blk.new ..)
      generalize (w.alloc (.cells #[.int .i64 r.u, .int .i64 r.e, .int .i64 r.f, .int .i64 r.t, .int .i64 r.c, .slice A r.wd.length a, .slice B r.da.length b, .int .i64 r.n, .slice C r.sk.length c] 35)) = V at *
      obtain ⟨b0, b1, b2, b3, b4, b5, b6, b7, b8, b9, b10⟩ := HVR.out.nine
      go_wp2
      go_loopw [5, 6] (fun ns xs wr => ∃ (x : Int) (os : Array Obj) (n : Nat), r.f ≤ x ∧ (x ≤ d + 1 ∨ x = r.f) ∧ xs = .int .i64 x ∧ ns = .int .i64 (r.cnt x) ∧ wr = plus V os n) (fun _ xs _ => (100002 - intOf xs).toNat)
      case atStart => exact ⟨r.f, #[], _, Int.le_refl _, .inr rfl, rfl, by rw [r.cnt_of_le (Int.le_refl _)]; rfl, plus_nil.symm⟩
      case round =>
        obtain ⟨x, os, n, hfx, hxt, rfl, rfl, rfl⟩ := hrel
        have x0 : 0 ≤ x := by omega
        have hcl := cnt_le (r := r) hfx
        have HR2 := hide (HR.out.below (HVB.out.trans ((show Below V.heap.size V (plus V os n) from (by repeat (first | exact Below.refl _ _ | refine bl_plus ?_ | refine bl_alloc ?_ _ | refine bl_drew ?_ | refine bl_drewN ?_ _))).mono HVB.out.size)))
        have HC2 := hide (HC.out.below (HVB.out.trans ((show Below V.heap.size V (plus V os n) from (by repeat (first | exact Below.refl _ _ | refine bl_plus ?_ | refine bl_alloc ?_ _ | refine bl_drew ?_ | refine bl_drewN ?_ _))).mono HVB.out.size)))
        by_cases hx : x ≤ d
        · cases hcd : r.cand x with
          | false =>
            have HCA := hide (candidate_is r HOK.out _ x _ HR2.out (by omega) x0 hcd)
            have HST := hide (r.cnt_no hcd)
            clear hcd
            go_wp2_with (first | (go_at_call 59; (with_reducible refine HCA.out.mono ?_); rintro e w' ⟨rfl, hbl⟩; obtain ⟨os3, n3, rfl⟩ := below_plus hbl; clear hbl))
            go_roundw
            case rel => exact ⟨x + 1, os ++ os3, n3, by omega, by omega, by go_num, by rw [HST.out], by rw [plus_plus]⟩
            case measure => simp [intOf]; omega
          | true =>
            have HCA := hide (candidate_is r HOK.out _ x _ HR2.out (by omega) x0 hcd)
            have HST := hide (r.cnt_yes hcd)
            clear hcd
            go_wp2_with (first | (go_at_call 59; (with_reducible refine HCA.out.mono ?_); rintro e w' ⟨rfl, hbl⟩; obtain ⟨os3, n3, rfl⟩ := below_plus hbl; clear hbl))
            go_roundw
            case rel => exact ⟨x + 1, os ++ os3, n3, by omega, by omega, by go_num, by rw [HST.out]; go_num, by rw [plus_plus]⟩
            case measure => simp [intOf]; omega
        · have hM : max (d + 1) r.f = x := by omega
          have hs0 := nx_start r d
          rw [hM] at hs0
          have HS0 := hide hs0
          have HMX := hide hM
          clear hs0 hM HR2 HC2
          generalize hcx : r.cnt x = m0 at *
          have HM0 := hide (show r.c = 0 ∨ m0 = r.cnt x from .inr hcx.symm)
          clear hcx
          go_wp2
          rw [HMX.out]
          go_loopw [5, 7] (fun ns xs wr => ∃ (x : Int) (m : Nat) (os : Array Obj) (n : Nat), d < x ∧ r.f ≤ x ∧ (m : Int) ≤ x ∧ xs = .int .i64 x ∧ ns = .int .i64 m ∧ wr = plus V os n ∧ Hid (r.c = 0 ∨ m = r.cnt x) ∧ Hid (∀ y, d < y → y < x → r.hit y = false)) (fun _ xs _ => (100002 - intOf xs).toNat)
          case atStart => exact ⟨x, m0, os, n, by omega, hfx, by omega, rfl, rfl, rfl, HM0, HS0⟩
          case round =>
            clear HS0 HM0
            obtain ⟨x, m, os, n, hxd, hfx, hmx, rfl, rfl, rfl, HM, HNO⟩ := hrel
            have x0 : 0 ≤ x := by omega
            have HR2 := hide (HR.out.below (HVB.out.trans ((show Below V.heap.size V (plus V os n) from (by repeat (first | exact Below.refl _ _ | refine bl_plus ?_ | refine bl_alloc ?_ _ | refine bl_drew ?_ | refine bl_drewN ?_ _))).mono HVB.out.size)))
            have HC2 := hide (HC.out.below (HVB.out.trans ((show Below V.heap.size V (plus V os n) from (by repeat (first | exact Below.refl _ _ | refine bl_plus ?_ | refine bl_alloc ?_ _ | refine bl_drew ?_ | refine bl_drewN ?_ _))).mono HVB.out.size)))
            by_cases hin : x ≤ r.t
            · have x1 : x ≤ 100000 := by omega
              by_cases hcn : (m : Int) < r.c
              · cases hcd : r.cand x with
                | false =>
                  have HCA := hide (candidate_is r HOK.out _ x _ HR2.out (by omega) x0 hcd)
                  have HNX := hide (nx_step HNO.out (by unfold Rul.hit; rw [hcd]; rfl))
                  have HMN := hide (nx_cnt_no HM.out hcd)
                  clear hcd
                  go_wp2_with (first | (go_at_call 59; (with_reducible refine HCA.out.mono ?_); rintro e w' ⟨rfl, hbl⟩; obtain ⟨os3, n3, rfl⟩ := below_plus hbl; clear hbl))
                  go_roundw
                  case rel => exact ⟨x + 1, m, os ++ os3, n3, by omega, by omega, by omega, by go_num, rfl, by rw [plus_plus], HMN, HNX⟩
                  case measure => simp [intOf]; omega
                | true =>
                  have HCA := hide (candidate_is r HOK.out _ x _ HR2.out (by omega) x0 hcd)
                  have HMN := hide (nx_cnt_yes HM.out hcd)
                  by_cases hsk : x ∈ r.sk
                  · have HCN := hide (fun w' hb => containsI_any C c r.sk x w' (HC2.out.below (bl_trans (by repeat (first | exact Below.refl _ _ | refine bl_plus ?_ | refine bl_alloc ?_ _ | refine bl_drew ?_ | refine bl_drewN ?_ _)) hb)) (by omega))
                    rw [decide_eq_true hsk] at HCN
                    have HNX := hide (nx_step HNO.out (hit_sk hsk))
                    clear hcd hsk
                    go_wp2_with (first | (go_at_call 59; (with_reducible refine HCA.out.mono ?_); rintro e w' ⟨rfl, hbl⟩; obtain ⟨os3, n3, rfl⟩ := below_plus hbl; clear hbl) | (go_at_call 40; (with_reducible refine (HCN.out _ (by repeat (first | exact Below.refl _ _ | refine bl_plus ?_ | refine bl_alloc ?_ _ | refine bl_drew ?_ | refine bl_drewN ?_ _))).mono ?_); rintro e w' ⟨rfl, rfl⟩))
                    go_roundw
                    case rel => exact ⟨x + 1, m + 1, os ++ os3, n3, by omega, by omega, by omega, by go_num, by go_num, by rw [plus_plus], HMN, HNX⟩
                    case measure => simp [intOf]; omega
                  · have HCN := hide (fun w' hb => containsI_any C c r.sk x w' (HC2.out.below (bl_trans (by repeat (first | exact Below.refl _ _ | refine bl_plus ?_ | refine bl_alloc ?_ _ | refine bl_drew ?_ | refine bl_drewN ?_ _)) hb)) (by omega))
                    rw [decide_eq_false hsk] at HCN
                    have HFN := hide (show r.nxt d = some x from r.nxt_some (hit_yes hcd hsk (.inr (by rw [nx_m HM.out hcp]; exact hcn))) (by omega) HNO.out)
                    clear hcd hsk
                    go_wp2_with (first | (go_at_call 59; (with_reducible refine HCA.out.mono ?_); rintro e w' ⟨rfl, hbl⟩; obtain ⟨os3, n3, rfl⟩ := below_plus hbl; clear hbl) | (go_at_call 40; (with_reducible refine (HCN.out _ (by repeat (first | exact Below.refl _ _ | refine bl_plus ?_ | refine bl_alloc ?_ _ | refine bl_drew ?_ | refine bl_drewN ?_ _))).mono ?_); rintro e w' ⟨rfl, rfl⟩))
                    exact HPO.out.1 _ x HFN.out (HVB.out.trans (Below.mono (by repeat (first | exact Below.refl _ _ | refine bl_plus ?_ | refine bl_alloc ?_ _ | refine bl_drew ?_ | refine bl_drewN ?_ _)) HVB.out.size))
              · have HFN := hide (show r.nxt d = none from r.nxt_none (fun y hy => nx_full HM.out hcp (by omega) HNO.out hy))
                go_wp2
                exact HPO.out.2 _ HFN.out (HVB.out.trans (Below.mono (by repeat (first | exact Below.refl _ _ | refine bl_plus ?_ | refine bl_alloc ?_ _ | refine bl_drew ?_ | refine bl_drewN ?_ _)) HVB.out.size))
            · by_cases hin2 : x ≤ 100000
              · have HFN := hide (show r.nxt d = none from r.nxt_none (fun y hy => nx_late HNO.out (by have := HLA.out; omega) hy))
                go_wp2
                exact HPO.out.2 _ HFN.out (HVB.out.trans (Below.mono (by repeat (first | exact Below.refl _ _ | refine bl_plus ?_ | refine bl_alloc ?_ _ | refine bl_drew ?_ | refine bl_drewN ?_ _)) HVB.out.size))
              · have HFN := hide (show r.nxt d = none from r.nxt_none (fun y hy => nx_late HNO.out (by have := HLA.out; omega) hy))
                go_wp2
                exact HPO.out.2 _ HFN.out (HVB.out.trans (Below.mono (by repeat (first | exact Below.refl _ _ | refine bl_plus ?_ | refine bl_alloc ?_ _ | refine bl_drew ?_ | refine bl_drewN ?_ _)) HVB.out.size))


end Go.Proofs.Ytpbkidjbbhkjnaa
