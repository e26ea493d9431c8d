/-
  WALKS: slices.DeleteFunc at ints, of a row that the call owns.
-/
import Derived.Test.YtpbkidjbbhkjnaaOwnG
import Derived.WalkKit
import Derived.Deep.DeepCutAuto
import Derived.Lib.SliceRun
import Derived.Laws.IdiomCopy
namespace Go.Proofs.Ytpbkidjbbhkjnaa
open Go.RowKit

set_option maxHeartbeats 800000 in
theorem lowDay_any (d f : Int) (gf : Nat) (w : World) (h : w.cell? ⟨gf, 0, none⟩ = some (.int .i64 f)) :
    Calls Try.prog 35 #[.int .i64 d, .pointer (some ⟨gf, 0, none⟩)] w fun e w' => e = .returned (.bool (decide (d < f))) ∧ w = w' := by
  go_enter Try.func35, Try.ntmps35
  go_wp2
  go_ret
  exact ⟨rfl, rfl⟩

/-- The cells of a slice of ints in a block. -/
def RowAt (w : World) (g : Nat) (l : List Int) : Prop := ∀ j (h : j < l.length), w.cell? ⟨g, j, none⟩ = some (.int .i64 l[j]) ∧ w.frozen? ⟨g, j, none⟩ = false

set_option maxHeartbeats 1600000 in
set_option maxRecDepth 100000 in
theorem indexLow_none (g gf c : Nat) (l : List Int) (f : Int) (w : World) (hr : RowAt w g l) (hl : l.length ≤ 1000000) (hf : w.cell? ⟨gf, 0, none⟩ = some (.int .i64 f)) (hall : ∀ x ∈ l, f ≤ x) :
    Calls Try.prog 58 #[.slice (some ⟨g, 0, none⟩) l.length c, .func (.func 35) #[] #[.pointer (some ⟨gf, 0, none⟩)]] w fun e w' => e = .returned (.int .i64 (-1)) ∧ w = w' := by
  have HR := hide hr
  have HA := hide hall
  have HC := hide (fun d => lowDay_any d f gf w hf)
  clear hr hall hf
  go_enter Try.func58, Try.ntmps58
  go_wp2
  go_loop [8] (fun i => ∃ k : Nat, k ≤ l.length ∧ i = .int .i64 k) (fun i => l.length - (intOf i).toNat)
  case atStart => exact ⟨0, Nat.zero_le _, rfl⟩
  case round =>
    obtain ⟨k, hk, rfl⟩ := hrel
    by_cases hlt : k < l.length
    · have c1 := (HR.out k hlt).1
      have h1 := HA.out l[k] (List.getElem_mem hlt)
      generalize l[k] = x at *
      have HX := hide (show Calls Try.prog 35 #[.int .i64 x, .pointer (some ⟨gf, 0, none⟩)] w fun e w' => e = .returned (.bool false) ∧ w = w' from by have := HC.out x; rwa [decide_eq_false (by omega)] at this)
      have i1 : (k : Int) < (l.length : Int) := by omega
      go_wp2_with (go_at_call 35; (with_reducible refine HX.out.mono ?_); rintro e w' ⟨rfl, rfl⟩)
      go_round
      case rel => exact ⟨k + 1, hlt, by go_num⟩
      case measure => simp [intOf]; omega
    · have hkl : k = l.length := by omega
      subst hkl
      go_wp2
      go_ret
      exact ⟨rfl, rfl⟩

set_option maxHeartbeats 800000 in
theorem indexLow_nil (gf : Nat) (w : World) : Calls Try.prog 58 #[.slice none 0 0, .func (.func 35) #[] #[.pointer (some ⟨gf, 0, none⟩)]] w fun e w' => e = .returned (.int .i64 (-1)) ∧ w = w' := by
  go_enter Try.func58, Try.ntmps58
  go_wp2
  go_loop [8] (fun i => i = .int .i64 0) (fun _ => 0)
  case atStart => rfl
  case round =>
    subst hrel
    go_wp2
    go_ret
    exact ⟨rfl, rfl⟩

set_option maxHeartbeats 1600000 in
set_option maxRecDepth 100000 in
theorem indexLow_some (g gf c q : Nat) (l : List Int) (f : Int) (w : World) (hr : RowAt w g l) (hl : l.length ≤ 1000000) (hf : w.cell? ⟨gf, 0, none⟩ = some (.int .i64 f)) (hq : q < l.length) (hqv : l[q] < f) (hall : ∀ j (h : j < l.length), j < q → f ≤ l[j]) :
    Calls Try.prog 58 #[.slice (some ⟨g, 0, none⟩) l.length c, .func (.func 35) #[] #[.pointer (some ⟨gf, 0, none⟩)]] w fun e w' => e = .returned (.int .i64 q) ∧ w = w' := by
  have HR := hide hr
  have HA := hide hall
  have HQ := hide hqv
  have HC := hide (fun d => lowDay_any d f gf w hf)
  clear hr hall hf hqv
  go_enter Try.func58, Try.ntmps58
  go_wp2
  go_loop [8] (fun i => ∃ k : Nat, k ≤ q ∧ i = .int .i64 k) (fun i => l.length - (intOf i).toNat)
  case atStart => exact ⟨0, Nat.zero_le _, rfl⟩
  case round =>
    obtain ⟨k, hk, rfl⟩ := hrel
    have hlt : k < l.length := by omega
    have c1 := (HR.out k hlt).1
    have i1 : (k : Int) < (l.length : Int) := by omega
    by_cases hkq : k = q
    · subst hkq
      have h1 := HQ.out
      generalize l[k] = x at *
      have HX := hide (show Calls Try.prog 35 #[.int .i64 x, .pointer (some ⟨gf, 0, none⟩)] w fun e w' => e = .returned (.bool true) ∧ w = w' from by have := HC.out x; rwa [decide_eq_true h1] at this)
      go_wp2_with (go_at_call 35; (with_reducible refine HX.out.mono ?_); rintro e w' ⟨rfl, rfl⟩)
      go_ret
      exact ⟨rfl, rfl⟩
    · have h1 := HA.out k hlt (by omega)
      clear HQ
      generalize l[k] = x at *
      have HX := hide (show Calls Try.prog 35 #[.int .i64 x, .pointer (some ⟨gf, 0, none⟩)] w fun e w' => e = .returned (.bool false) ∧ w = w' from by have := HC.out x; rwa [decide_eq_false (by omega)] at this)
      go_wp2_with (go_at_call 35; (with_reducible refine HX.out.mono ?_); rintro e w' ⟨rfl, rfl⟩)
      go_round
      case rel => exact ⟨k + 1, by omega, by go_num⟩
      case measure => simp [intOf]; omega

/-- What DeleteFunc leaves: the kept ones of the first j, then whatever, then the rest. -/
structure DelSt (g B : Nat) (f : Int) (l : List Int) (w0 : World) (i j : Nat) (w : World) : Prop where
  below : Below B w0 w
  len : i = ((l.take j).filter (fun x => decide (f ≤ x))).length
  done : ∀ k (h : k < i), w.cell? ⟨g, k, none⟩ = some (.int .i64 (((l.take j).filter (fun x => decide (f ≤ x)))[k]'(by omega)))
  rest : ∀ k (h : k < l.length), j ≤ k → w.cell? ⟨g, k, none⟩ = some (.int .i64 l[k])
  there : ∀ k, k < l.length → (w.cell? ⟨g, k, none⟩).isSome = true ∧ w.frozen? ⟨g, k, none⟩ = false
theorem DelSt.skip {g B : Nat} {f : Int} {l : List Int} {w0 w : World} {i j : Nat} (h : DelSt g B f l w0 i j w) (hj : j < l.length) (hf : l[j] < f) : DelSt g B f l w0 i (j + 1) w := by
  have e : (l.take (j + 1)).filter (fun x => decide (f ≤ x)) = (l.take j).filter (fun x => decide (f ≤ x)) := by
    rw [List.take_succ_eq_append_getElem hj, List.filter_append]
    simp
    omega
  obtain ⟨h1, h2, h3, h4, h5⟩ := h
  refine ⟨h1, by rw [e]; exact h2, fun k hk => ?_, fun k hk hjk => h4 k hk (by omega), h5⟩
  simp only [e]
  exact h3 k hk
theorem DelSt.keep {g B : Nat} {f : Int} {l : List Int} {w0 w : World} {i j : Nat} (h : DelSt g B f l w0 i j w) (hj : j < l.length) (hf : f ≤ l[j]) (hB : B ≤ g) : DelSt g B f l w0 (i + 1) (j + 1) (w.setCell ⟨g, i, none⟩ (.int .i64 l[j])) := by
  have e : (l.take (j + 1)).filter (fun x => decide (f ≤ x)) = (l.take j).filter (fun x => decide (f ≤ x)) ++ [l[j]] := by
    rw [List.take_succ_eq_append_getElem hj, List.filter_append]
    simp [hf]
  obtain ⟨h1, h2, h3, h4, h5⟩ := h
  have hij : i ≤ j := by
    rw [h2]
    exact Nat.le_trans (List.length_filter_le _ _) (by rw [List.length_take]; omega)
  have hsome := (h5 i (by omega)).1
  obtain ⟨u, hu⟩ := Option.isSome_iff_exists.1 hsome
  have hcell : ∀ k, (w.setCell ⟨g, i, none⟩ (.int .i64 l[j])).cell? ⟨g, k, none⟩ = if k = i then some (.int .i64 l[j]) else w.cell? ⟨g, k, none⟩ := by
    intro k
    by_cases hk : k = i
    · subst hk
      rw [if_pos rfl]
      exact World.cell?_setCell_same _ _ _ hu
    · rw [if_neg hk]
      exact World.cell?_setCell_other _ _ _ _ (by intro e2; injection e2 with _ e3 _; exact hk e3.symm)
  refine ⟨h1.setCell hB _, by rw [e, List.length_append, ← h2]; rfl, fun k hk => ?_, fun k hk hjk => ?_, fun k hk => ⟨?_, ?_⟩⟩
  · rw [hcell]
    simp only [e]
    by_cases hki : k = i
    · rw [if_pos hki]
      rw [List.getElem_append_right (by omega)]
      simp
    · rw [if_neg hki, List.getElem_append_left (by omega)]
      exact h3 k (by omega)
  · rw [hcell, if_neg (by omega)]
    exact h4 k hk (by omega)
  · rw [hcell]
    split
    · rfl
    · exact (h5 k hk).1
  · rw [World.frozen?_setCell]
    exact (h5 k hk).2

theorem below_cells {B g : Nat} {a : World} (hB : B ≤ g) : ∀ (vs : List Value) (o : Nat) (w : World), Below B a w → Below B a (w.setCells g o vs) ∧ (w.setCells g o vs).heap.size = w.heap.size
  | [], _, w, h => ⟨h, rfl⟩
  | v :: vs, o, w, h => by
    have := below_cells hB vs (o + 1) (w.setCell ⟨g, o, none⟩ v) (h.setCell hB v)
    exact ⟨this.1, this.2.trans (by simp [World.setCell])⟩
theorem isSome_lt {w : World} {g k : Nat} (h : (w.cell? ⟨g, k, none⟩).isSome = true) : g < w.heap.size := by
  rcases Nat.lt_or_ge g w.heap.size with hlt | hge
  · exact hlt
  · unfold World.cell? at h
    rw [Array.getElem?_eq_none hge] at h
    simp at h
/-- The kept days. -/
def keepF (f : Int) (l : List Int) : List Int := l.filter (fun x => decide (f ≤ x))

set_option maxHeartbeats 6400000 in
set_option maxRecDepth 100000 in
theorem deleteLow_any (B g gf c : Nat) (l : List Int) (f : Int) (w : World) (hr : RowAt w g l) (hg : g < w.heap.size) (hB : B ≤ g) (hgf : gf < B) (hl : l.length ≤ 1000000) (hc : l.length ≤ c) (hcm : c ≤ maxLen) (hf : w.cell? ⟨gf, 0, none⟩ = some (.int .i64 f)) :
    Calls Try.prog 33 #[.slice (some ⟨g, 0, none⟩) l.length c, .func (.func 35) #[] #[.pointer (some ⟨gf, 0, none⟩)]] w fun e w' => (e = .returned (.slice (some ⟨g, 0, none⟩) (keepF f l).length c) ∧ IntsAt w' (some ⟨g, 0, none⟩) (keepF f l)) ∧ Below B w w' := by
  unfold maxLen at hcm
  generalize hPO : (fun e w' => (e = Ending.returned (.slice (some ⟨g, 0, none⟩) (keepF f l).length c) ∧ IntsAt w' (some ⟨g, 0, none⟩) (keepF f l)) ∧ Below B w w') = PO
  have HPO := hide (fun w' n (hn : n = (keepF f l).length) (hx : IntsAt w' (some ⟨g, 0, none⟩) (keepF f l)) (hb : Below B w w') => (by rw [← hPO, hn]; exact ⟨⟨rfl, hx⟩, hb⟩ : PO (Ending.returned (.slice (some ⟨g, 0, none⟩) n c)) w'))
  clear hPO
  have HR := hide hr
  by_cases hall : ∀ x ∈ l, f ≤ x
  · have HI := hide (indexLow_none g gf c l f w hr hl hf hall)
    have hkl : keepF f l = l := List.filter_eq_self.2 (fun x hx => by simpa using hall x hx)
    rw [hkl] at HPO
    clear hall hf hr hkl
    go_enter Try.func33, Try.ntmps33
    go_wp2_with (go_at_call 58; (with_reducible refine HI.out.mono ?_); rintro e w' ⟨rfl, rfl⟩)
    exact HPO.out _ _ rfl (fun _ => ⟨g, 0, rfl, hg, fun j hj => by rw [Nat.zero_add]; exact (HR.out j hj).1⟩) (Below.refl _ _)
  · obtain ⟨q, hq, hqv, hq0⟩ : ∃ q, ∃ h : q < l.length, l[q] < f ∧ ∀ j (h : j < l.length), j < q → f ≤ l[j] := by
      have hex : ∃ q, ∃ h : q < l.length, l[q] < f := by
        rcases Classical.not_forall.1 hall with ⟨x, hx⟩
        obtain ⟨hm, hlt⟩ := Classical.not_imp.1 hx
        obtain ⟨q, hq, rfl⟩ := List.mem_iff_getElem.1 hm
        exact ⟨q, hq, by omega⟩
      obtain ⟨q, hq⟩ := hex
      induction q using Nat.strongRecOn with
      | ind q ih =>
        by_cases hlow : ∃ j, j < q ∧ ∃ h : j < l.length, l[j] < f
        · obtain ⟨j, hj, hjl⟩ := hlow
          exact ih j hj hjl
        · obtain ⟨hq1, hq2⟩ := hq
          exact ⟨q, hq1, hq2, fun j hj hjq => by
            rcases Int.lt_or_le l[j] f with h | h
            · exact absurd ⟨j, hjq, hj, h⟩ hlow
            · exact h⟩
    have HI := hide (indexLow_some g gf c q l f w hr hl hf hq hqv hq0)
    have hst0 : DelSt g B f l w q (q + 1) w := by
      have e : (l.take q).filter (fun x => decide (f ≤ x)) = l.take q := by
        rw [List.filter_eq_self]
        intro x hx
        obtain ⟨j, hj, rfl⟩ := List.mem_iff_getElem.1 hx
        rw [List.length_take] at hj
        rw [List.getElem_take]
        simpa using hq0 j (by omega) (by omega)
      have h0 : DelSt g B f l w q q w := by
        refine ⟨Below.refl _ _, by rw [e, List.length_take]; omega, fun k hk => ?_, fun k hk _ => (hr k hk).1, fun k hk => ⟨by rw [(hr k hk).1]; rfl, (hr k hk).2⟩⟩
        simp only [e, List.getElem_take]
        exact (hr k (by omega)).1
      exact h0.skip hq hqv
    have HS0 := hide hst0
    have HC := hide (fun (wr : World) (d : Int) (hb : Below B w wr) => lowDay_any d f gf wr ((hb.cell (p := ⟨gf, 0, none⟩) hgf).trans hf))
    clear hall hf hr hst0 hqv hq0
    have hq1 : ((q : Int) == -1) = false := by simp
    go_enter Try.func33, Try.ntmps33
    go_upto_region 5 with (go_at_call 58; (with_reducible refine HI.out.mono ?_); rintro e w' ⟨rfl, rfl⟩)
    go_wp2
    go_loopw [5, 6] (fun is js wr => ∃ i j : Nat, i < j ∧ j ≤ l.length ∧ is = .int .i64 i ∧ js = .int .i64 j ∧ Hid (DelSt g B f l w i j wr)) (fun _ js _ => l.length - (intOf js).toNat)
    case atStart => exact ⟨q, q + 1, by omega, by omega, by go_num, by go_num, HS0⟩
    case round =>
      clear HS0 HI
      obtain ⟨i, j, hij, hj, rfl, rfl, HS⟩ := hrel
      by_cases hlt : j < l.length
      · have c1 := HS.out.rest j hlt (Nat.le_refl _)
        have HSK := hide (fun h => HS.out.skip hlt h)
        have HKP := hide (fun h => HS.out.keep hlt h hB)
        have hth := HS.out.there i (by omega)
        obtain ⟨u, hu⟩ := Option.isSome_iff_exists.1 hth.1
        have hfz := hth.2
        have HCL := hide (HC.out wr l[j] HS.out.below)
        have i1 : (j : Int) < (l.length : Int) := by omega
        have i2 : (i : Int) < (l.length : Int) := by omega
        clear hth
        generalize l[j] = x at *
        by_cases hx : x < f
        · have hcl := HCL.out
          rw [decide_eq_true hx] at hcl
          have HCL := hide hcl
          have HS2 := hide (HSK.out hx)
          clear hcl
          go_wp2_with (go_at_call 35; (with_reducible refine HCL.out.mono ?_); rintro e w' ⟨rfl, rfl⟩)
          go_roundw
          case rel => exact ⟨i, j + 1, by omega, hlt, rfl, by go_num, HS2⟩
          case measure => simp [intOf]; omega
        · have hcl := HCL.out
          rw [decide_eq_false hx] at hcl
          have HCL := hide hcl
          have HS2 := hide (HKP.out (by omega))
          clear hcl
          go_wp2_with (go_at_call 35; (with_reducible refine HCL.out.mono ?_); rintro e w' ⟨rfl, rfl⟩)
          go_roundw
          case rel => exact ⟨i + 1, j + 1, by omega, hlt, by go_num, by go_num, HS2⟩
          case measure => simp [intOf]; omega
      · have hjl : j = l.length := by omega
        subst hjl
        have hcl : ∀ ty, (Builtin.clear_ #[33] ty #[.slice (some ⟨g, i, none⟩) (l.length - i) (c - i)]).run Try.prog wr = .ok (.tuple #[]) (wr.setCells g i (List.replicate (l.length - i) (.int .i64 0))) :=
          fun ty => Lib.run_clear_slice wr _ _ ty _ Try.underlying33 Try.zeroValue3 rfl rfl g i _ _ (by omega) (fun k hk => (HS.out.there (i + k) (by omega)).1) (fun k hk => (HS.out.there (i + k) (by omega)).2)
        have hbc := below_cells (a := w) hB (List.replicate (l.length - i) (Value.int .i64 0)) i wr HS.out.below
        have HBC := hide hbc
        have hlen := HS.out.len
        have HLN := hide (show i = (keepF f l).length by rw [List.take_length] at hlen; exact hlen)
        have HDN := hide (fun k (h : k < (keepF f l).length) => (by
          have h1 := HS.out.done k (by rw [HLN.out]; exact h)
          simp only [List.take_length] at h1
          rw [World.cell?_setCells_out g _ _ _ _ (fun _ _ => .inl (by rw [HLN.out]; exact h))]
          exact h1 : (wr.setCells g i (List.replicate (l.length - i) (Value.int .i64 0))).cell? ⟨g, k, none⟩ = some (.int .i64 (keepF f l)[k])))
        have i1 : (i : Int) ≤ (l.length : Int) := by omega
        have i2 : (l.length : Int) ≤ (c : Int) := by omega
        clear hbc hlen
        go_wp2
        exact HPO.out _ _ HLN.out (fun _ => ⟨g, 0, rfl, by rw [HBC.out.2]; exact isSome_lt (HS.out.there i (by omega)).1, fun k hk => by rw [Nat.zero_add]; exact HDN.out k hk⟩) HBC.out.1

theorem rowAt_own {w : World} {base n c : Nat} {g : Nat} {l : List Int} (h : w.ownsRow base 3 1 (.slice (some ⟨g, 0, none⟩) n c) n (l.map (Value.int .i64))) : RowAt w g l := by
  intro j hj
  have hn : l.length = n := by have := h.1; simpa using this
  refine ⟨?_, h.frozenAt j⟩
  rw [h.cellAt j (by omega), List.getElem?_map, List.getElem?_eq_getElem hj]
  rfl
/-- DeleteFunc of what the reference's occurrences hand back. -/
theorem deleteOwn_any (B gf c : Nat) (A : Option Addr) (l : List Int) (f : Int) (w : World) (h : w.ownsRow B 3 1 (.slice A l.length c) l.length (l.map (Value.int .i64))) (hgf : gf < B) (hl : l.length ≤ 1000000) (hf : w.cell? ⟨gf, 0, none⟩ = some (.int .i64 f)) :
    Calls Try.prog 33 #[.slice A l.length c, .func (.func 35) #[] #[.pointer (some ⟨gf, 0, none⟩)]] w fun e w' => (∃ A' c', e = .returned (.slice A' (keepF f l).length c') ∧ IntsAt w' A' (keepF f l)) ∧ Below B w w' := by
  have h' := h
  rcases h.2 with ⟨hv, h0⟩ | ⟨g, cap, cur, hv, hg, hb, h1, h2, h3, h4⟩
  · injection hv with e1 _ e3
    subst e1 e3
    obtain rfl := List.length_eq_zero_iff.1 h0
    clear h h' hl h0 hf
    go_enter Try.func33, Try.ntmps33
    go_wp2_with (go_at_call 58; (with_reducible refine (indexLow_nil gf _).mono ?_); rintro e w' ⟨rfl, rfl⟩)
    go_ret
    exact ⟨⟨none, 0, rfl, IntsAt.nil⟩, Below.refl _ _⟩
  · injection hv with e1 _ e3
    subst e1 e3
    exact (deleteLow_any B g gf c l f w (rowAt_own h') (Array.getElem?_eq_some_iff.1 hb).1 hg hgf hl h1 h2 hf).mono fun e w' ⟨⟨he, hi⟩, hbl⟩ => ⟨⟨_, _, he, hi⟩, hbl⟩

end Go.Proofs.Ytpbkidjbbhkjnaa
