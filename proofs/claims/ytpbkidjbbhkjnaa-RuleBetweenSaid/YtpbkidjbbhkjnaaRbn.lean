/-
  WALKS: the reference's days on which a rule occurs.
-/
import Derived.Test.YtpbkidjbbhkjnaaRbm
namespace Go.Proofs.Ytpbkidjbbhkjnaa
open Go.RowKit Cal
attribute [local go_sem high] run_min_i run_max_i

theorem Rul.Ok.last_le {r : Rul} (h : r.Ok) : r.last ≤ 100000 := by
  have := h.t
  unfold Rul.last
  split <;> omega
theorem candidate_any (r : Rul) (h : r.Ok) (v : Value) (d : Int) (w : World) (hr : RulAt w r v) (d1 : d ≤ 100000) :
    Calls Try.prog 59 #[v, .int .i64 d] w fun e w' => e = .returned (.bool (r.cand d)) ∧ Below w.heap.size w w' := by
  unfold Rul.cand Rul.last
  by_cases hf : r.f ≤ d
  · by_cases ht : 0 ≤ r.t
    · rw [if_pos ht]
      by_cases htd : d ≤ r.t
      · rw [decide_eq_true ⟨hf, htd⟩, Bool.true_and]
        exact candidate_in r h v d w hr d1 hf (fun _ => htd)
      · rw [decide_eq_false (fun h => htd h.2), Bool.false_and]
        exact candidate_out r h v d w hr (.inr ⟨hf, ht, by omega⟩)
    · rw [if_neg ht, decide_eq_true ⟨hf, d1⟩, Bool.true_and]
      exact candidate_in r h v d w hr d1 hf (fun h => absurd h ht)
  · rw [decide_eq_false (fun h => hf h.1), Bool.false_and]
    exact candidate_out r h v d w hr (.inl (by omega))
theorem candidate_is (r : Rul) (h : r.Ok) (v : Value) (d : Int) (w : World) (hr : RulAt w r v) (d1 : d ≤ 100000) {q : Bool} (_ : 0 ≤ d) (hq : r.cand d = q) :
    Calls Try.prog 59 #[v, .int .i64 d] w fun e w' => e = .returned (.bool q) ∧ Below w.heap.size w w' := by
  subst hq
  exact candidate_any r h v d w hr d1

/-- The occurrences up to a day. -/
def upTo (r : Rul) (to_ : Int) : List Int := r.occ.filter (fun x => decide (x ≤ to_))
theorem occ_upto (r : Rul) {x to_ : Int} (h : ∀ y, r.hit y = true → (y < x ↔ y ≤ to_)) : (days r.f x).filter r.hit = upTo r to_ := by
  unfold upTo
  refine rise_ext ((days_rising ..).filter _) (r.occ_rising.filter _) (fun y => ?_)
  rw [List.mem_filter, List.mem_filter, mem_days, r.mem_occ, decide_eq_true_eq]
  constructor
  · rintro ⟨⟨h1, h2⟩, h3⟩
    exact ⟨h3, (h y h3).1 h2⟩
  · rintro ⟨h1, h2⟩
    exact ⟨⟨(r.hit_in h1).1, (h y h1).2 h2⟩, h1⟩
theorem occ_no_cand {r : Rul} {x : Int} (h : r.f ≤ x) (hc : r.cand x = false) : (days r.f (x + 1)).filter r.hit = (days r.f x).filter r.hit ∧ r.cnt (x + 1) = r.cnt x := by
  refine ⟨?_, r.cnt_no hc⟩
  have hh : r.hit x = false := by unfold Rul.hit; rw [hc]; rfl
  rw [days_snoc h, List.filter_append]
  simp [hh]
theorem occ_skip {r : Rul} {x : Int} (h : r.f ≤ x) (hs : x ∈ r.sk) : (days r.f (x + 1)).filter r.hit = (days r.f x).filter r.hit := by
  have hh : r.hit x = false := by unfold Rul.hit; rw [List.contains_iff_mem.2 hs]; simp
  rw [days_snoc h, List.filter_append]
  simp [hh]
theorem hit_yes {r : Rul} {x : Int} (hc : r.cand x = true) (hs : x ∉ r.sk) (hn : r.c = 0 ∨ (r.cnt x : Int) < r.c) : r.hit x = true := by
  unfold Rul.hit
  rw [hc, decide_eq_true hn]
  simpa using hs
theorem occ_take {r : Rul} {x : Int} (h : r.f ≤ x) (hc : r.cand x = true) (hs : x ∉ r.sk) (hn : r.c = 0 ∨ (r.cnt x : Int) < r.c) : (days r.f (x + 1)).filter r.hit = (days r.f x).filter r.hit ++ [x] := by
  rw [days_snoc h, List.filter_append]
  simp [hit_yes hc hs hn]
theorem hit_late {r : Rul} {x y : Int} (hc : 0 < r.c) (hx : r.c ≤ (r.cnt x : Int)) (hy : r.hit y = true) : y < x := by
  rcases Int.lt_or_le y x with h | h
  · exact h
  · have := r.cnt_mono h
    unfold Rul.hit at hy
    rw [Bool.and_eq_true, Bool.and_eq_true, decide_eq_true_eq] at hy
    omega
theorem days_len (a b : Int) : (days a b).length = (b - a).toNat := by unfold days; simp
theorem cnt_le {r : Rul} {x : Int} (h : r.f ≤ x) : (r.cnt x : Int) ≤ x - r.f := by
  unfold Rul.cnt
  have := List.length_filter_le r.cand (days r.f x)
  rw [days_len] at this
  omega
theorem hitn_le {r : Rul} {x : Int} (h : r.f ≤ x) : (((days r.f x).filter r.hit).length : Int) ≤ x - r.f := by
  have := List.length_filter_le r.hit (days r.f x)
  rw [days_len] at this
  omega

/-- What the reference's occurrences hand back. -/
def OccOut (l : List Int) (w : World) (e : Ending) (w' : World) : Prop :=
  Below w.heap.size w w' ∧ ∃ A c, e = .returned (.slice A l.length c) ∧ w'.ownsRow w.heap.size 3 1 (.slice A l.length c) l.length (l.map (Value.int .i64))
theorem occOut {l l' : List Int} {w w' W : World} {v : Value} (h : w'.ownsRow W.heap.size 3 1 v l'.length (l'.map (Value.int .i64))) (hl : l' = l) (hb : Below w.heap.size w w') (hw : w.heap.size ≤ W.heap.size) : OccOut l w (.returned v) w' := by
  subst hl
  obtain ⟨A, c, rfl, _⟩ := own_form h
  refine ⟨hb, A, c, rfl, ?_⟩
  obtain ⟨h1, h2⟩ := h
  refine ⟨h1, ?_⟩
  rcases h2 with h2 | ⟨g, cap, cur, h3, h4, h5⟩
  · exact .inl h2
  · exact .inr ⟨g, cap, cur, h3, Nat.le_trans hw h4, h5⟩

set_option maxHeartbeats 6400000 in
set_option maxRecDepth 100000 in
theorem occurrencesR_any (r : Rul) (h : r.Ok) (v : Value) (t : Int) (w : World) (hr : RulAt w r v) (t0 : -1 ≤ t) (t1 : t ≤ 100000) :
    Calls Try.prog 34 #[v, .int .i64 t] w (OccOut (upTo r t) w) := by
  have HR := hide hr
  have HOK := hide h
  obtain ⟨A, B, C, a, b, c, rfl, h1, h2, h3, h4, h5, h6⟩ := hr.ex
  unfold maxLen at h4 h5 h6
  have hff := h.f
  obtain ⟨f0, f1⟩ := hff
  have hcc := h.c
  obtain ⟨cc0, cc1⟩ := hcc
  have hskl := h.skl
  have hll := h.last_le
  have HC := hide h3
  have HPO := hide (fun v w' (l : List Int) hw hl hb hV => (occOut (W := hw) (l := upTo r t) (l' := l) (v := v) (w := w) (w' := w')) hl hb hV)
  generalize OccOut (upTo r t) w = PO at *
  clear h1 h2 h3 hr h
  have hmin : min t 100000 = t := by omega
  go_enter Try.func34, Try.ntmps34
  go_upto_region 1 with (fail)
  have HVB := hide (show Below w.heap.size w (w.alloc (.cells #[.int .i64 r.u, .int .i64 r.e, .int .i64 r.f, .int .i64 r.t, .int .i64 r.c, .slice A r.wd.length a, .slice B r.da.length b, .int .i64 r.n, .slice C r.sk.length c] 35)) from (by repeat (first | exact Below.refl _ _ | refine bl_plus ?_ | refine bl_alloc ?_ _ | refine bl_drew ?_ | refine bl_drewN ?_ _)))
  have HVR := hide (show Blk (w.alloc (.cells #[.int .i64 r.u, .int .i64 r.e, .int .i64 r.f, .int .i64 r.t, .int .i64 r.c, .slice A r.wd.length a, .slice B r.da.length b, .int .i64 r.n, .slice C r.sk.length c] 35)) w.heap.size 35 #[.int .i64 r.u, .int .i64 r.e, .int .i64 r.f, .int .i64 r.t, .int .i64 r.c, .slice A r.wd.length a, .slice B r.da.length b, .int .i64 r.n, .slice C r.sk.length c] from Blk.new ..)
  generalize (w.alloc (.cells #[.int .i64 r.u, .int .i64 r.e, .int .i64 r.f, .int .i64 r.t, .int .i64 r.c, .slice A r.wd.length a, .slice B r.da.length b, .int .i64 r.n, .slice C r.sk.length c] 35)) = V at *
  obtain ⟨b0, b1, b2, b3, b4, b5, b6, b7, b8, b9, b10⟩ := HVR.out.nine
  go_wp2
  go_loopw [5, 6, 7] (fun o ns xs wr => ∃ (x : Int) (os : Array Obj) (n : Nat), r.f ≤ x ∧ (x ≤ t + 1 ∨ x = r.f) ∧ xs = .int .i64 x ∧ ns = .int .i64 (r.cnt x) ∧ wr = plus V os n ∧ Hid (wr.ownsRow V.heap.size 3 1 o ((days r.f x).filter r.hit).length (((days r.f x).filter r.hit).map (Value.int .i64)))) (fun _ _ xs _ => (100002 - intOf xs).toNat)
  case atStart => exact ⟨r.f, #[], _, Int.le_refl _, .inr rfl, rfl, by rw [r.cnt_of_le (Int.le_refl _)]; rfl, plus_nil.symm, hide (by rw [days_nil (Int.le_refl _)]; exact own_none)⟩
  case round =>
    obtain ⟨x, os, n, hfx, hxt, rfl, rfl, rfl, HO⟩ := hrel
    have x0 : 0 ≤ x := by omega
    have hcl := cnt_le (r := r) hfx
    have hnl := hitn_le (r := r) hfx
    have HR2 := hide (HR.out.below (HVB.out.trans ((show Below V.heap.size V (plus V os n) from (by repeat (first | exact Below.refl _ _ | refine bl_plus ?_ | refine bl_alloc ?_ _ | refine bl_drew ?_ | refine bl_drewN ?_ _))).mono HVB.out.size)))
    have HC2 := hide (HC.out.below (HVB.out.trans ((show Below V.heap.size V (plus V os n) from (by repeat (first | exact Below.refl _ _ | refine bl_plus ?_ | refine bl_alloc ?_ _ | refine bl_drew ?_ | refine bl_drewN ?_ _))).mono HVB.out.size)))
    have HC := HC2
    by_cases hx : x ≤ t
    · by_cases hc0 : r.c = 0
      · have hcb : (r.c == 0) = true := by simpa using hc0
        have HC0 := hide hc0
        clear hc0
        cases hcd : r.cand x with
        | false =>
          have HCA := hide (candidate_is r HOK.out _ x _ HR2.out (by omega) x0 hcd)
          have HST := hide (occ_no_cand hfx hcd)
          clear hcd
          go_wp2_with (first | (go_at_call 59; (with_reducible refine HCA.out.mono ?_); rintro e w' ⟨rfl, hbl⟩; obtain ⟨os3, n3, rfl⟩ := below_plus hbl; clear hbl))
          go_roundw
          case rel => exact ⟨x + 1, os ++ os3, n3, by omega, by omega, by go_num, by rw [HST.out.2], by rw [plus_plus], hide (by rw [HST.out.1]; exact own_plus HO.out)⟩
          case measure => simp [intOf]; omega
        | true =>
          have HCA := hide (candidate_is r HOK.out _ x _ HR2.out (by omega) x0 hcd)
          have HCY := hide (r.cnt_yes hcd)
          by_cases hsk : x ∈ r.sk
          · have HCN := hide (fun w' hb => containsI_any C c r.sk x w' (HC.out.below (bl_trans (by repeat (first | exact Below.refl _ _ | refine bl_plus ?_ | refine bl_alloc ?_ _ | refine bl_drew ?_ | refine bl_drewN ?_ _)) hb)) (by omega))
            rw [decide_eq_true hsk] at HCN
            have HST := hide (occ_skip hfx hsk)
            clear hcd hsk
            go_wp2_with (first | (go_at_call 59; (with_reducible refine HCA.out.mono ?_); rintro e w' ⟨rfl, hbl⟩; obtain ⟨os3, n3, rfl⟩ := below_plus hbl; clear hbl) | (go_at_call 40; (with_reducible refine (HCN.out _ (by repeat (first | exact Below.refl _ _ | refine bl_plus ?_ | refine bl_alloc ?_ _ | refine bl_drew ?_ | refine bl_drewN ?_ _))).mono ?_); rintro e w' ⟨rfl, rfl⟩))
            go_roundw
            case rel => exact ⟨x + 1, os ++ os3, n3, by omega, by omega, by go_num, by rw [HCY.out]; go_num, by rw [plus_plus], hide (by rw [HST.out]; exact own_plus HO.out)⟩
            case measure => simp [intOf]; omega
          · have HCN := hide (fun w' hb => containsI_any C c r.sk x w' (HC.out.below (bl_trans (by repeat (first | exact Below.refl _ _ | refine bl_plus ?_ | refine bl_alloc ?_ _ | refine bl_drew ?_ | refine bl_drewN ?_ _)) hb)) (by omega))
            rw [decide_eq_false hsk] at HCN
            have HST := hide (occ_take hfx hcd hsk (.inl HC0.out))
            clear hcd hsk
            go_wp2_with (first | (go_at_call 59; (with_reducible refine HCA.out.mono ?_); rintro e w' ⟨rfl, hbl⟩; obtain ⟨os3, n3, rfl⟩ := below_plus hbl; clear hbl) | (go_at_call 40; (with_reducible refine (HCN.out _ (by repeat (first | exact Below.refl _ _ | refine bl_plus ?_ | refine bl_alloc ?_ _ | refine bl_drew ?_ | refine bl_drewN ?_ _))).mono ?_); rintro e w' ⟨rfl, rfl⟩) | (at_builtin; refine wpList_append_int rfl (.tmp 38) (.tmp 40) rfl V.heap.size ((days r.f x).filter r.hit).length _ ((days r.f x).filter r.hit) x _ rfl (own_plus HO.out) rfl (by simp [plus_size]) (by omega) (by simp only [plus_size]; omega) ?_; intro v' w1 hown1 hb1; obtain ⟨os4, n4, rfl⟩ := over_plus (L := V) rfl (by repeat (first | exact Below.refl _ _ | refine bl_plus ?_ | refine bl_alloc ?_ _ | refine bl_drew ?_ | refine bl_drewN ?_ _)) hb1; have HO2 := hide hown1; clear hb1 hown1))
            go_roundw
            case rel => exact ⟨x + 1, os4, n4, by omega, by omega, by go_num, by rw [HCY.out]; go_num, rfl, hide (by rw [HST.out, List.length_append]; exact HO2.out)⟩
            case measure => simp [intOf]; omega
      · have hcb : (r.c == 0) = false := by simpa using hc0
        by_cases hcn : (r.cnt x : Int) < r.c
        · cases hcd : r.cand x with
          | false =>
            have HCA := hide (candidate_is r HOK.out _ x _ HR2.out (by omega) x0 hcd)
            have HST := hide (occ_no_cand hfx hcd)
            clear hcd
            go_wp2_with (first | (go_at_call 59; (with_reducible refine HCA.out.mono ?_); rintro e w' ⟨rfl, hbl⟩; obtain ⟨os3, n3, rfl⟩ := below_plus hbl; clear hbl))
            go_roundw
            case rel => exact ⟨x + 1, os ++ os3, n3, by omega, by omega, by go_num, by rw [HST.out.2], by rw [plus_plus], hide (by rw [HST.out.1]; exact own_plus HO.out)⟩
            case measure => simp [intOf]; omega
          | true =>
            have HCA := hide (candidate_is r HOK.out _ x _ HR2.out (by omega) x0 hcd)
            have HCY := hide (r.cnt_yes hcd)
            by_cases hsk : x ∈ r.sk
            · have HCN := hide (fun w' hb => containsI_any C c r.sk x w' (HC.out.below (bl_trans (by repeat (first | exact Below.refl _ _ | refine bl_plus ?_ | refine bl_alloc ?_ _ | refine bl_drew ?_ | refine bl_drewN ?_ _)) hb)) (by omega))
              rw [decide_eq_true hsk] at HCN
              have HST := hide (occ_skip hfx hsk)
              clear hcd hsk
              go_wp2_with (first | (go_at_call 59; (with_reducible refine HCA.out.mono ?_); rintro e w' ⟨rfl, hbl⟩; obtain ⟨os3, n3, rfl⟩ := below_plus hbl; clear hbl) | (go_at_call 40; (with_reducible refine (HCN.out _ (by repeat (first | exact Below.refl _ _ | refine bl_plus ?_ | refine bl_alloc ?_ _ | refine bl_drew ?_ | refine bl_drewN ?_ _))).mono ?_); rintro e w' ⟨rfl, rfl⟩))
              go_roundw
              case rel => exact ⟨x + 1, os ++ os3, n3, by omega, by omega, by go_num, by rw [HCY.out]; go_num, by rw [plus_plus], hide (by rw [HST.out]; exact own_plus HO.out)⟩
              case measure => simp [intOf]; omega
            · have HCN := hide (fun w' hb => containsI_any C c r.sk x w' (HC.out.below (bl_trans (by repeat (first | exact Below.refl _ _ | refine bl_plus ?_ | refine bl_alloc ?_ _ | refine bl_drew ?_ | refine bl_drewN ?_ _)) hb)) (by omega))
              rw [decide_eq_false hsk] at HCN
              have HST := hide (occ_take hfx hcd hsk (.inr hcn))
              clear hcd hsk
              go_wp2_with (first | (go_at_call 59; (with_reducible refine HCA.out.mono ?_); rintro e w' ⟨rfl, hbl⟩; obtain ⟨os3, n3, rfl⟩ := below_plus hbl; clear hbl) | (go_at_call 40; (with_reducible refine (HCN.out _ (by repeat (first | exact Below.refl _ _ | refine bl_plus ?_ | refine bl_alloc ?_ _ | refine bl_drew ?_ | refine bl_drewN ?_ _))).mono ?_); rintro e w' ⟨rfl, rfl⟩) | (at_builtin; refine wpList_append_int rfl (.tmp 38) (.tmp 40) rfl V.heap.size ((days r.f x).filter r.hit).length _ ((days r.f x).filter r.hit) x _ rfl (own_plus HO.out) rfl (by simp [plus_size]) (by omega) (by simp only [plus_size]; omega) ?_; intro v' w1 hown1 hb1; obtain ⟨os4, n4, rfl⟩ := over_plus (L := V) rfl (by repeat (first | exact Below.refl _ _ | refine bl_plus ?_ | refine bl_alloc ?_ _ | refine bl_drew ?_ | refine bl_drewN ?_ _)) hb1; have HO2 := hide hown1; clear hb1 hown1))
              go_roundw
              case rel => exact ⟨x + 1, os4, n4, by omega, by omega, by go_num, by rw [HCY.out]; go_num, rfl, hide (by rw [HST.out, List.length_append]; exact HO2.out)⟩
              case measure => simp [intOf]; omega
        · have HFN := hide (occ_upto r (x := x) (to_ := t) (fun y hy => ⟨fun _ => by have := hit_late (x := x) (by omega) (by omega) hy; omega, fun _ => hit_late (by omega) (by omega) hy⟩))
          go_wp2
          exact HPO.out _ _ _ _ HO.out HFN.out (HVB.out.trans (Below.mono (by repeat (first | exact Below.refl _ _ | refine bl_plus ?_ | refine bl_alloc ?_ _ | refine bl_drew ?_ | refine bl_drewN ?_ _)) HVB.out.size)) HVB.out.size
    · have HFN := hide (occ_upto r (x := x) (to_ := t) (fun y hy => ⟨fun _ => by have := r.hit_in hy; omega, fun _ => by have := r.hit_in hy; omega⟩))
      go_wp2
      exact HPO.out _ _ _ _ HO.out HFN.out (HVB.out.trans (Below.mono (by repeat (first | exact Below.refl _ _ | refine bl_plus ?_ | refine bl_alloc ?_ _ | refine bl_drew ?_ | refine bl_drewN ?_ _)) HVB.out.size)) HVB.out.size

end Go.Proofs.Ytpbkidjbbhkjnaa
