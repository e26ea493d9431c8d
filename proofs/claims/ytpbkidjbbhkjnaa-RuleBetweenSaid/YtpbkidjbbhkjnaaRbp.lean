/-
  WALKS: the reference's Occurs, Number, Before and Next.
-/
import Derived.Test.YtpbkidjbbhkjnaaRbo
namespace Go.Proofs.Ytpbkidjbbhkjnaa
open Go.RowKit Cal

theorem upTo_len (r : Rul) (h : r.Ok) (d : Int) : (upTo r d).length ≤ 100001 := Nat.le_trans (List.length_filter_le _ _) (occ_len r h)
theorem mem_upTo (r : Rul) (d : Int) : decide (d ∈ upTo r d) = hasDay r d := by
  unfold upTo hasDay
  rw [Bool.eq_iff_iff]
  simp
theorem upTo_last (r : Rul) (d : Int) : lastLt d r.occ = ((upTo r (d - 1)).getLast?).getD (-1) := by
  unfold lastLt upTo
  congr 2
  apply List.filter_congr
  intro x _
  rw [decide_eq_decide]
  omega
theorem upTo_ge (r : Rul) (h : r.Ok) (d : Int) : ∀ x ∈ upTo r d, 0 ≤ x := by
  intro x hx
  have h1 := (List.mem_filter.1 hx).1
  have h2 := r.hit_in ((r.mem_occ).1 h1)
  have h3 := h.f
  omega
theorem nxt_ge (r : Rul) (h : r.Ok) (d : Int) : ∀ x, r.nxt d = some x → 0 ≤ x := by
  intro x hx
  unfold Rul.nxt at hx
  have h1 := List.mem_of_find?_eq_some hx
  have h2 := r.hit_in ((r.mem_occ).1 h1)
  have h3 := h.f
  omega

set_option maxHeartbeats 3200000 in
set_option maxRecDepth 100000 in
theorem occursOf_any (r : Rul) (v : Value) (d : Int) (w : World) (hr : RulAt w r v) :
    Calls Try.prog 15 #[v, .int .i64 d] w fun e w' => e = .returned (.tuple #[.bool (occR r d).1, .int .i64 (occR r d).2]) ∧ Below w.heap.size w w' := by
  have HR := hide hr
  obtain ⟨A, B, C, a, b, c, rfl, h1, h2, h3, h4, h5, h6⟩ := hr.ex
  unfold maxLen at h4 h5 h6
  have HCA := hide (fun w' hb => ruleDay_any r _ d w' (HR.out.below hb))
  unfold occR
  by_cases hE : atErr r d = 0
  · obtain ⟨hok, d0, d1⟩ := atErr_ok hE
    rw [if_pos hE]
    rw [hE] at HCA
    have HOK := hide hok
    clear hE h1 h2 h3 hr
    have hlen := upTo_len r hok d
    have HOC := hide (fun w' hb => occurrencesR_any r hok _ d w' (HR.out.below hb) (by omega) d1)
    have HCN := hide (fun A c w hI => containsI_any A c (upTo r d) d w hI (by omega))
    rw [mem_upTo] at HCN
    clear hok
    generalize upTo r d = L at *
    go_enter Try.func15, Try.ntmps15
    go_wp2_with (first | (go_at_call 39; (with_reducible refine (HCA.out _ (by repeat (first | exact Below.refl _ _ | refine bl_plus ?_ | refine bl_alloc ?_ _ | refine bl_drew ?_ | refine bl_drewN ?_ _))).mono ?_); rintro e w' ⟨rfl, hbl⟩; obtain ⟨os1, n1, rfl⟩ := below_plus hbl; clear hbl) | (go_at_call 34; (with_reducible refine (HOC.out _ (by repeat (first | exact Below.refl _ _ | refine bl_plus ?_ | refine bl_alloc ?_ _ | refine bl_drew ?_ | refine bl_drewN ?_ _))).mono ?_); rintro e w' ⟨hbl, A1, c1, rfl, hown⟩; have HIN := hide (intsAt_of_own hown); obtain ⟨os2, n2, rfl⟩ := below_plus hbl; clear hbl hown) | (go_at_call 40; (with_reducible refine (HCN.out _ _ _ HIN.out).mono ?_); rintro e w' ⟨rfl, rfl⟩))
    go_returns
    exact ⟨rfl, (by repeat (first | exact Below.refl _ _ | refine bl_plus ?_ | refine bl_alloc ?_ _ | refine bl_drew ?_ | refine bl_drewN ?_ _))⟩
  · rw [if_neg hE]
    generalize atErr r d = X at *
    have hX : (X == 0) = false := by simp [hE]
    have hX2 : (X != 0) = true := by rw [bne, hX]; rfl
    clear hE h1 h2 h3 hr
    go_enter Try.func15, Try.ntmps15
    go_wp2_with (first | (go_at_call 39; (with_reducible refine (HCA.out _ (by repeat (first | exact Below.refl _ _ | refine bl_plus ?_ | refine bl_alloc ?_ _ | refine bl_drew ?_ | refine bl_drewN ?_ _))).mono ?_); rintro e w' ⟨rfl, hbl⟩; obtain ⟨os1, n1, rfl⟩ := below_plus hbl; clear hbl))
    go_returns
    exact ⟨rfl, (by repeat (first | exact Below.refl _ _ | refine bl_plus ?_ | refine bl_alloc ?_ _ | refine bl_drew ?_ | refine bl_drewN ?_ _))⟩

set_option maxHeartbeats 3200000 in
set_option maxRecDepth 100000 in
theorem numberOf_any (r : Rul) (v : Value) (d : Int) (w : World) (hr : RulAt w r v) :
    Calls Try.prog 21 #[v, .int .i64 d] w fun e w' => e = .returned (.tuple #[.int .i64 (numR r d).1, .int .i64 (numR r d).2]) ∧ Below w.heap.size w w' := by
  have HR := hide hr
  obtain ⟨A, B, C, a, b, c, rfl, h1, h2, h3, h4, h5, h6⟩ := hr.ex
  unfold maxLen at h4 h5 h6
  have HCA := hide (fun w' hb => ruleDay_any r _ d w' (HR.out.below hb))
  unfold numR
  by_cases hE : atErr r d = 0
  · obtain ⟨hok, d0, d1⟩ := atErr_ok hE
    rw [if_pos hE]
    rw [hE] at HCA
    have HOK := hide hok
    clear hE h1 h2 h3 hr
    have hlen := upTo_len r hok d
    have HOC := hide (fun w' hb => occurrencesR_any r hok _ d w' (HR.out.below hb) (by omega) d1)
    have HN := hide (show (upTo r d).length = cntLe d r.occ from rfl)
    clear hok
    rw [← HN.out]
    clear HN
    generalize upTo r d = L at *
    go_enter Try.func21, Try.ntmps21
    go_wp2_with (first | (go_at_call 39; (with_reducible refine (HCA.out _ (by repeat (first | exact Below.refl _ _ | refine bl_plus ?_ | refine bl_alloc ?_ _ | refine bl_drew ?_ | refine bl_drewN ?_ _))).mono ?_); rintro e w' ⟨rfl, hbl⟩; obtain ⟨os1, n1, rfl⟩ := below_plus hbl; clear hbl) | (go_at_call 34; (with_reducible refine (HOC.out _ (by repeat (first | exact Below.refl _ _ | refine bl_plus ?_ | refine bl_alloc ?_ _ | refine bl_drew ?_ | refine bl_drewN ?_ _))).mono ?_); rintro e w' ⟨hbl, A1, c1, rfl, hown⟩; have HIN := hide (intsAt_of_own hown); obtain ⟨os2, n2, rfl⟩ := below_plus hbl; clear hbl hown))
    go_returns
    exact ⟨rfl, (by repeat (first | exact Below.refl _ _ | refine bl_plus ?_ | refine bl_alloc ?_ _ | refine bl_drew ?_ | refine bl_drewN ?_ _))⟩
  · rw [if_neg hE]
    generalize atErr r d = X at *
    have hX : (X == 0) = false := by simp [hE]
    have hX2 : (X != 0) = true := by rw [bne, hX]; rfl
    clear hE h1 h2 h3 hr
    go_enter Try.func21, Try.ntmps21
    go_wp2_with (first | (go_at_call 39; (with_reducible refine (HCA.out _ (by repeat (first | exact Below.refl _ _ | refine bl_plus ?_ | refine bl_alloc ?_ _ | refine bl_drew ?_ | refine bl_drewN ?_ _))).mono ?_); rintro e w' ⟨rfl, hbl⟩; obtain ⟨os1, n1, rfl⟩ := below_plus hbl; clear hbl))
    go_returns
    exact ⟨rfl, (by repeat (first | exact Below.refl _ _ | refine bl_plus ?_ | refine bl_alloc ?_ _ | refine bl_drew ?_ | refine bl_drewN ?_ _))⟩

set_option maxHeartbeats 3200000 in
set_option maxRecDepth 100000 in
theorem beforeOf_any (r : Rul) (v : Value) (d : Int) (w : World) (hr : RulAt w r v) :
    Calls Try.prog 19 #[v, .int .i64 d] w fun e w' => e = .returned (.tuple #[.int .i64 (befR r d).1, .int .i64 (befR r d).2]) ∧ Below w.heap.size w w' := by
  have HR := hide hr
  obtain ⟨A, B, C, a, b, c, rfl, h1, h2, h3, h4, h5, h6⟩ := hr.ex
  unfold maxLen at h4 h5 h6
  have HCA := hide (fun w' hb => ruleDay_any r _ d w' (HR.out.below hb))
  unfold befR
  by_cases hE : atErr r d = 0
  · obtain ⟨hok, d0, d1⟩ := atErr_ok hE
    rw [if_pos hE]
    rw [hE] at HCA
    have HOK := hide hok
    clear hE h1 h2 h3 hr
    have hlen := upTo_len r hok (d - 1)
    have HOC := hide (fun w' hb => occurrencesR_any r hok _ (d - 1) w' (HR.out.below hb) (by omega) (by omega))
    have hlast := upTo_last r d
    have hge := upTo_ge r hok (d - 1)
    rw [hlast]
    clear hok hlast
    generalize upTo r (d - 1) = L at *
    unfold befF
    by_cases hl : L.length = 0
    · obtain rfl := List.length_eq_zero_iff.1 hl
      rw [if_pos (by simp)]
      simp only [List.length_nil] at HOC hlen
      clear hl hge
      go_enter Try.func19, Try.ntmps19
      go_wp2_with (first | (go_at_call 39; (with_reducible refine (HCA.out _ (by repeat (first | exact Below.refl _ _ | refine bl_plus ?_ | refine bl_alloc ?_ _ | refine bl_drew ?_ | refine bl_drewN ?_ _))).mono ?_); rintro e w' ⟨rfl, hbl⟩; obtain ⟨os1, n1, rfl⟩ := below_plus hbl; clear hbl) | (go_at_call 34; (with_reducible refine (HOC.out _ (by repeat (first | exact Below.refl _ _ | refine bl_plus ?_ | refine bl_alloc ?_ _ | refine bl_drew ?_ | refine bl_drewN ?_ _))).mono ?_); rintro e w' ⟨hbl, A1, c1, rfl, hown⟩; have HIN := hide (intsAt_of_own hown); obtain ⟨os2, n2, rfl⟩ := below_plus hbl; clear hbl hown))
      go_returns
      exact ⟨by simp, (by repeat (first | exact Below.refl _ _ | refine bl_plus ?_ | refine bl_alloc ?_ _ | refine bl_drew ?_ | refine bl_drewN ?_ _))⟩
    · obtain ⟨m, hm⟩ : ∃ m, L.length = m + 1 := ⟨L.length - 1, by omega⟩
      have hlt : m < L.length := by omega
      have hgl : L.getLast?.getD (-1) = L[m] := by rw [List.getLast?_eq_getElem?, hm, Nat.add_sub_cancel, List.getElem?_eq_getElem hlt]; rfl
      have hge2 := hge L[m] (List.getElem_mem hlt)
      rw [hgl, if_neg (by omega)]
      have HCE := hide (fun (w : World) (A : Option Addr) (hI : IntsAt w A L) => (by obtain ⟨b, off, h1, _, h3⟩ := hI (by omega); exact ⟨b, off, h1, h3 m hlt⟩ : ∃ b off, A = some ⟨b, off, none⟩ ∧ w.cell? ⟨b, off + m, none⟩ = some (.int .i64 L[m])))
      clear hgl hge hl
      generalize L[m] = x at *
      unfold OccOut at HOC
      rw [hm] at HOC
      clear hlt
      go_enter Try.func19, Try.ntmps19
      go_wp2_with (first | (go_at_call 39; (with_reducible refine (HCA.out _ (by repeat (first | exact Below.refl _ _ | refine bl_plus ?_ | refine bl_alloc ?_ _ | refine bl_drew ?_ | refine bl_drewN ?_ _))).mono ?_); rintro e w' ⟨rfl, hbl⟩; obtain ⟨os1, n1, rfl⟩ := below_plus hbl; clear hbl) | (go_at_call 34; (with_reducible refine (HOC.out _ (by repeat (first | exact Below.refl _ _ | refine bl_plus ?_ | refine bl_alloc ?_ _ | refine bl_drew ?_ | refine bl_drewN ?_ _))).mono ?_); rintro e w' ⟨hbl, A1, c1, rfl, hown⟩; obtain ⟨bb, off, rfl, hce⟩ := HCE.out _ _ (intsAt_of_own hown); obtain ⟨os2, n2, rfl⟩ := below_plus hbl; clear hbl hown))
      go_returns
      exact ⟨rfl, (by repeat (first | exact Below.refl _ _ | refine bl_plus ?_ | refine bl_alloc ?_ _ | refine bl_drew ?_ | refine bl_drewN ?_ _))⟩
  · rw [if_neg hE]
    generalize atErr r d = X at *
    have hX : (X == 0) = false := by simp [hE]
    have hX2 : (X != 0) = true := by rw [bne, hX]; rfl
    clear hE h1 h2 h3 hr
    go_enter Try.func19, Try.ntmps19
    go_wp2_with (first | (go_at_call 39; (with_reducible refine (HCA.out _ (by repeat (first | exact Below.refl _ _ | refine bl_plus ?_ | refine bl_alloc ?_ _ | refine bl_drew ?_ | refine bl_drewN ?_ _))).mono ?_); rintro e w' ⟨rfl, hbl⟩; obtain ⟨os1, n1, rfl⟩ := below_plus hbl; clear hbl))
    go_returns
    exact ⟨rfl, (by repeat (first | exact Below.refl _ _ | refine bl_plus ?_ | refine bl_alloc ?_ _ | refine bl_drew ?_ | refine bl_drewN ?_ _))⟩

set_option maxHeartbeats 3200000 in
set_option maxRecDepth 100000 in
theorem nextOfR_any (r : Rul) (v : Value) (d : Int) (w : World) (hr : RulAt w r v) :
    Calls Try.prog 17 #[v, .int .i64 d] w fun e w' => e = .returned (.tuple #[.int .i64 (nxR r d).1, .int .i64 (nxR r d).2]) ∧ Below w.heap.size w w' := by
  have HR := hide hr
  obtain ⟨A, B, C, a, b, c, rfl, h1, h2, h3, h4, h5, h6⟩ := hr.ex
  unfold maxLen at h4 h5 h6
  have HCA := hide (fun w' hb => ruleDay_any r _ d w' (HR.out.below hb))
  unfold nxR
  by_cases hE : atErr r d = 0
  · obtain ⟨hok, d0, d1⟩ := atErr_ok hE
    rw [if_pos hE]
    rw [hE] at HCA
    have HOK := hide hok
    clear hE h1 h2 h3 hr
    have HNX := hide (fun w' hb => nextOf_any r hok _ d w' (HR.out.below hb) d0 d1)
    have hge := nxt_ge r hok d
    clear hok
    generalize r.nxt d = X at *
    cases X with
    | none =>
      simp only [Option.getD_none] at HNX
      unfold nxF
      clear hge
      go_enter Try.func17, Try.ntmps17
      go_wp2_with (first | (go_at_call 39; (with_reducible refine (HCA.out _ (by repeat (first | exact Below.refl _ _ | refine bl_plus ?_ | refine bl_alloc ?_ _ | refine bl_drew ?_ | refine bl_drewN ?_ _))).mono ?_); rintro e w' ⟨rfl, hbl⟩; obtain ⟨os1, n1, rfl⟩ := below_plus hbl; clear hbl) | (go_at_call 42; (with_reducible refine (HNX.out _ (by repeat (first | exact Below.refl _ _ | refine bl_plus ?_ | refine bl_alloc ?_ _ | refine bl_drew ?_ | refine bl_drewN ?_ _))).mono ?_); rintro e w' ⟨rfl, hbl⟩; obtain ⟨os2, n2, rfl⟩ := below_plus hbl; clear hbl))
      go_returns
      exact ⟨rfl, (by repeat (first | exact Below.refl _ _ | refine bl_plus ?_ | refine bl_alloc ?_ _ | refine bl_drew ?_ | refine bl_drewN ?_ _))⟩
    | some x =>
      have hx := hge x rfl
      simp only [Option.getD_some] at HNX
      unfold nxF
      clear hge
      go_enter Try.func17, Try.ntmps17
      go_wp2_with (first | (go_at_call 39; (with_reducible refine (HCA.out _ (by repeat (first | exact Below.refl _ _ | refine bl_plus ?_ | refine bl_alloc ?_ _ | refine bl_drew ?_ | refine bl_drewN ?_ _))).mono ?_); rintro e w' ⟨rfl, hbl⟩; obtain ⟨os1, n1, rfl⟩ := below_plus hbl; clear hbl) | (go_at_call 42; (with_reducible refine (HNX.out _ (by repeat (first | exact Below.refl _ _ | refine bl_plus ?_ | refine bl_alloc ?_ _ | refine bl_drew ?_ | refine bl_drewN ?_ _))).mono ?_); rintro e w' ⟨rfl, hbl⟩; obtain ⟨os2, n2, rfl⟩ := below_plus hbl; clear hbl))
      go_returns
      exact ⟨rfl, (by repeat (first | exact Below.refl _ _ | refine bl_plus ?_ | refine bl_alloc ?_ _ | refine bl_drew ?_ | refine bl_drewN ?_ _))⟩
  · rw [if_neg hE]
    generalize atErr r d = X at *
    have hX : (X == 0) = false := by simp [hE]
    have hX2 : (X != 0) = true := by rw [bne, hX]; rfl
    clear hE h1 h2 h3 hr
    go_enter Try.func17, Try.ntmps17
    go_wp2_with (first | (go_at_call 39; (with_reducible refine (HCA.out _ (by repeat (first | exact Below.refl _ _ | refine bl_plus ?_ | refine bl_alloc ?_ _ | refine bl_drew ?_ | refine bl_drewN ?_ _))).mono ?_); rintro e w' ⟨rfl, hbl⟩; obtain ⟨os1, n1, rfl⟩ := below_plus hbl; clear hbl))
    go_returns
    exact ⟨rfl, (by repeat (first | exact Below.refl _ _ | refine bl_plus ?_ | refine bl_alloc ?_ _ | refine bl_drew ?_ | refine bl_drewN ?_ _))⟩

end Go.Proofs.Ytpbkidjbbhkjnaa
