/-
  WALK: slices.DeleteFunc at properties that the call owns, any function that asks for a name.
-/
import Derived.Test.YtdncmjlakmkfiaaGreatDoorPzf
import Derived.Deep.DeepCutAuto
import Derived.Test.YtdncmjlakmkfiaaGreatDoorPzi
set_option linter.all false
namespace Go.Proofs.YtdncmjlakmkfiaaGreatDoor
open Go.RowKit Go.Lib

theorem firstIdx_of {p : Nat → Bool} {n : Nat} : (firstIdx p n = none ∧ ∀ j, j < n → p j = false) ∨ ∃ q, firstIdx p n = some q ∧ q < n ∧ p q = true ∧ ∀ j, j < q → p j = false := by
  by_cases h : ∃ q, q < n ∧ p q = true
  · obtain ⟨q, hq⟩ := h
    induction q using Nat.strongRecOn with
    | ind q ih =>
      by_cases hl : ∃ j, j < q ∧ p j = true
      · obtain ⟨j, hj, hp⟩ := hl
        exact ih j hj ⟨by omega, hp⟩
      · have hall : ∀ j, j < q → p j = false := fun j hj => by
          cases hc : p j with
          | false => rfl
          | true => exact absurd ⟨j, hj, hc⟩ hl
        exact .inr ⟨q, firstIdx_some hall hq.2 hq.1, hq.1, hq.2, hall⟩
  · have hall : ∀ j, j < n → p j = false := fun j hj => by
      cases hc : p j with
      | false => rfl
      | true => exact absurd ⟨j, hj, hc⟩ h
    exact .inl ⟨firstIdx_none hall, hall⟩

theorem firstIdx_of_none {p : Nat → Bool} {n : Nat} (h : firstIdx p n = none) : ∀ j, j < n → p j = false := by
  rcases firstIdx_of (p := p) (n := n) with ⟨_, h2⟩ | ⟨q, h2, _⟩
  · exact h2
  · rw [h] at h2; cases h2

theorem firstIdx_of_some {p : Nat → Bool} {n q : Nat} (h : firstIdx p n = some q) : q < n ∧ p q = true ∧ ∀ j, j < q → p j = false := by
  rcases firstIdx_of (p := p) (n := n) with ⟨h2, _⟩ | ⟨q', h2, h3⟩
  · rw [h] at h2; cases h2
  · rw [h] at h2
    obtain rfl := Option.some.inj h2
    exact h3

/-- 'clear(s)' at a slice of properties. -/
theorem run_clear_props (w : World) (g o n c : Nat) (hn : 0 < n) (hc : ∀ j, j < n * 6 → (w.cell? ⟨g, o + j, none⟩).isSome = true) (hf : ∀ j, j < n * 6 → w.frozen? ⟨g, o + j, none⟩ = false) :
    ∃ vs : List Value, vs.length = n * 6 ∧ ∀ ty, (Builtin.clear_ #[30] ty #[.slice (some ⟨g, o, none⟩) n c]).run Tryz.prog w = .ok (.tuple #[]) (w.setCells g o vs) := by
  have hz : ∀ w, (zeroValue 47).run Tryz.prog w = .ok (.agg #[.string ByteArray.empty, .int .i64 0, .int .i64 0, .int .i64 0, .string ByteArray.empty, .slice none 0 0]) w := Tryz.zeroValue47
  have hcells : (Value.agg #[.string ByteArray.empty, .int .i64 0, .int .i64 0, .int .i64 0, .string ByteArray.empty, .slice none 0 0]).cells = #[.string ByteArray.empty, .int .i64 0, .int .i64 0, .int .i64 0, .string ByteArray.empty, .slice none 0 0] := rfl
  have hlen : (Builtin.zeroCells #[.string ByteArray.empty, .int .i64 0, .int .i64 0, .int .i64 0, .string ByteArray.empty, .slice none 0 0] n).toList.length = n * 6 := by simp [Builtin.zeroCells]
  refine ⟨_, hlen, fun ty => ?_⟩
  have hone : ∀ v ∈ (Builtin.zeroCells #[.string ByteArray.empty, .int .i64 0, .int .i64 0, .int .i64 0, .string ByteArray.empty, .slice none 0 0] n).toList, v.oneCell' = true := by
    intro v hv
    simp only [Builtin.zeroCells, Array.toList_map, List.mem_map] at hv
    obtain ⟨i, _, rfl⟩ := hv
    have hm : i % 6 < 6 := Nat.mod_lt _ (by decide)
    have h6 : i % 6 = 0 ∨ i % 6 = 1 ∨ i % 6 = 2 ∨ i % 6 = 3 ∨ i % 6 = 4 ∨ i % 6 = 5 := by omega
    show (#[Value.string ByteArray.empty, .int .i64 0, .int .i64 0, .int .i64 0, .string ByteArray.empty, .slice none 0 0][i % 6]!).oneCell' = true
    rcases h6 with h | h | h | h | h | h <;> rw [h] <;> rfl
  have hst := run_storeCells_cells (P := Tryz.prog) g o _ 0 w (fun j hj => by rw [Nat.add_zero]; exact hc j (by rwa [hlen] at hj)) (fun j hj => by rw [Nat.add_zero]; exact hf j (by rwa [hlen] at hj)) hone
  simp only [Nat.add_zero] at hst
  obtain ⟨m, rfl⟩ : ∃ m, n = m + 1 := ⟨n - 1, by omega⟩
  simp [Builtin.clear_, run_underlying Tryz.underlying30, hz, hcells, hst]

theorem setCells6 (w : World) (g o : Nat) (a b c d e f : Value) : w.setCells g o [a, b, c, d, e, f] = (((((w.setCell ⟨g, o, none⟩ a).setCell ⟨g, o + 1, none⟩ b).setCell ⟨g, o + 2, none⟩ c).setCell ⟨g, o + 3, none⟩ d).setCell ⟨g, o + 4, none⟩ e).setCell ⟨g, o + 5, none⟩ f := rfl

theorem Del6.after {base g c : Nat} {x : ByteArray} {ps : List CP} {w0 w : World} {i j : Nat} (h : Del6 base g c x ps w0 i j w) (o : Obj) (os : Array Obj) (n : Nat) : Del6 base g c x ps w0 i j (plus (w.alloc o) os n) := h.below (bl_plus (bl_alloc (Below.refl _ _) _))

/-- What DeleteFunc hands back. -/
def DelOut (base : Nat) (A : Option Addr) (c : Nat) (x : ByteArray) (ps : List CP) (w : World) (e : Ending) (w' : World) : Prop :=
  e = .returned (.slice A (others x ps).length c) ∧ Row6 w' base (.slice A (others x ps).length c) (others x ps) ∧ w.grownBy w' (Value.slice A ps.length c).ownBlock

set_option maxHeartbeats 6400000 in
set_option maxRecDepth 100000 in
theorem deleteRow_any (fid : FuncId) (hF : Asks fid) (base gr c : Nat) (ps : List CP) (g : Nat) (x : ByteArray) (w : World) (hlen : ps.length ≤ 5000) (hr : Row6 w base (.slice (some ⟨gr, 0, none⟩) ps.length c) ps) (hx : w.cell? ⟨g, 0, none⟩ = some (.string x)) (hg : g < w.heap.size) (hne : g ≠ gr) :
    Calls Tryz.prog 89 #[.slice (some ⟨gr, 0, none⟩) ps.length c, .func (.func fid) #[] #[.pointer (some ⟨g, 0, none⟩)]] w (DelOut base (some ⟨gr, 0, none⟩) c x ps w) := by
  have hgr := (hr.own.lt gr rfl).2
  have hcap : ps.length ≤ c ∧ c ≤ maxLen := by
    have := hr.clip
    exact ⟨this.2.2.1, this.2.2.2.1⟩
  obtain ⟨hc1, hc2⟩ := hcap
  unfold maxLen at hc2
  have hI := indexRow_any fid hF gr c ps g x w hlen hgr (fun j h i hi => (hr.cellAt h hi).1) hx hg
  have hPO : ∀ (i : Nat) (w' : World), i = (others x ps).length → Row6 w' base (.slice (some ⟨gr, 0, none⟩) i c) (others x ps) → w.grownBy w' (some gr) → DelOut base (some ⟨gr, 0, none⟩) c x ps w (.returned (.slice (some ⟨gr, 0, none⟩) i c)) w' := by
    rintro i w' rfl h1 h2
    exact ⟨rfl, h1, h2⟩
  have HPO := hide hPO
  have hN := fun h => firstIdx_none (p := prIs2 ps x) (n := ps.length) h
  generalize hR : firstIdx (prIs2 ps x) ps.length = R at *
  generalize DelOut base (some ⟨gr, 0, none⟩) c x ps w = PO at *
  clear hPO
  cases R with
  | none =>
    have hnone : ∀ j, j < ps.length → prIs2 ps x j = false := firstIdx_of_none hR
    have hall : others x ps = ps := by
      unfold others
      rw [List.filter_eq_self]
      intro p hp
      obtain ⟨k, hk, rfl⟩ := List.mem_iff_getElem.1 hp
      have := hnone k hk
      rw [prIs2_at hk] at this
      rw [this]
      rfl
    have HFIN := hide (fun (w' : World) (hb : Below w.heap.size w w') => HPO.out ps.length w' (by rw [hall]) (by rw [hall]; exact hr.below hb) (grownBy_below ⟨rfl, rfl, rfl, Nat.le_refl _, fun _ _ _ => rfl⟩ hb))
    have HI := hide hI
    simp only [idxInt] at HI
    clear hI hN hR hnone hall hr hF hx HPO hc1 hc2
    go_enter Tryz.func89, Tryz.ntmps89
    go_wp2_with (go_at_call 124; (with_reducible refine HI.out.mono ?_); rintro e w' ⟨rfl, hbl⟩; have HBL := hide hbl; clear hbl)
    exact HFIN.out _ HBL.out
  | some q =>
    have hq := firstIdx_of_some hR
    have hst0 : Del6 base gr c x ps w q (q + 1) w := (Del6.start hr (fun k hk hkq => by rw [← prIs2_at hk]; exact hq.2.2 k hkq)).skip hq.1 (by rw [← prIs2_at hq.1]; exact hq.2.1)
    have HS0 := hide hst0
    have HROW := hide hr
    have HI := hide hI
    simp only [idxInt] at HI
    have ent := hF.ent
    have HC := hide (fun (W : World) (i j : Nat) (hS : Del6 base gr c x ps w i j W) n k i t s A m cc => hF.call n k i t s A m cc g x W ((show W.cell? ⟨g, 0, none⟩ = w.cell? ⟨g, 0, none⟩ from World.cell?_of_block (hS.grown.block g hg (fun e => hne (Option.some.inj e)))).trans hx) (Nat.lt_of_lt_of_le hg hS.grown.size))
    have hql : q < ps.length := hq.1
    have hq1 : ((q : Int) == -1) = false := by simp
    clear hI hN hR hr hst0 hF hx hq
    go_enter Tryz.func89, Tryz.ntmps89
    go_upto_region 5 with (go_at_call 124; (with_reducible refine HI.out.mono ?_); rintro e w' ⟨rfl, hbl⟩; have HBL := hide hbl; clear hbl)
    have HS1 := hide (HS0.out.below HBL.out)
    clear HS0 HBL HI
    go_wp2
    go_loopw [5, 6] (fun is js wr => ∃ i j : Nat, i < j ∧ j ≤ ps.length ∧ is = .int .i64 i ∧ js = .int .i64 j ∧ Hid (Del6 base gr c x ps w i j wr)) (fun _ js _ => ps.length - (intOf js).toNat)
    case atStart => exact ⟨q, q + 1, by omega, by omega, by go_num, by go_num, HS1⟩
    case round =>
      clear HS1
      obtain ⟨i, j, hij, hj, rfl, rfl, HS⟩ := hrel
      by_cases hlt : j < ps.length
      · have c0 := HS.out.cell hlt (Nat.le_refl _) (show 0 < 6 by decide)
        have c1 := HS.out.cell hlt (Nat.le_refl _) (show 1 < 6 by decide)
        have c2 := HS.out.cell hlt (Nat.le_refl _) (show 2 < 6 by decide)
        have c3 := HS.out.cell hlt (Nat.le_refl _) (show 3 < 6 by decide)
        have c4 := HS.out.cell hlt (Nat.le_refl _) (show 4 < 6 by decide)
        have c5 := HS.out.cell hlt (Nat.le_refl _) (show 5 < 6 by decide)
        have HSK := hide (fun (W : World) (hS : Del6 base gr c x ps w i j W) h => hS.skip hlt h)
        have HKP := hide (fun (W : World) (hS : Del6 base gr c x ps w i j W) h => hS.keep hlt (Nat.le_of_lt hij) h)
        have HTH := hide (fun (W : World) (hS : Del6 base gr c x ps w i j W) (k : Nat) (hk : k < 6) => hS.there (k := i * 6 + k) (by omega))
        have i1 : (j : Int) < (ps.length : Int) := by omega
        have i2 : (i : Int) < (ps.length : Int) := by omega
        generalize ps[j] = y at *
        obtain ⟨nm, ⟨xv, A2, e2⟩⟩ := y
        obtain ⟨xk, xi, xt, xs, xl⟩ := xv
        dsimp only [CP.cells, CVal.cells, V.k, V.i, V.t, V.s, V.l] at c0 c1 c2 c3 c4 c5 HSK HKP
        simp only [List.getElem?_cons_zero, List.getElem?_cons_succ, Nat.add_zero] at c0 c1 c2 c3 c4 c5
        have hgw : gr < wr.heap.size := by
          rcases Nat.lt_or_ge gr wr.heap.size with h | h
          · exact h
          · unfold World.cell? at c0
            rw [Array.getElem?_eq_none h] at c0
            simp at c0
        cases hB : (nm.toList == x.toList) with
        | true =>
          have HC1 := hide (fun W hS => HC.out W i j hS nm xk xi xt xs A2 xl.length e2)
          rw [hB] at HC1 HSK
          clear hB HKP HTH HC
          go_wp2_with (refine (HC1.out _ ?hbw).mono ?_; (case hbw => exact HS.out.below (by repeat (first | exact Below.refl _ _ | refine bl_plus ?_ | refine bl_alloc ?_ _ | refine bl_drew ?_ | refine bl_drewN ?_ _))); rintro e w' ⟨rfl, hbl⟩; have HS2 := hide (HSK.out _ ((HS.out.below (by repeat (first | exact Below.refl _ _ | refine bl_plus ?_ | refine bl_alloc ?_ _ | refine bl_drew ?_ | refine bl_drewN ?_ _))).below hbl) rfl); clear hbl)
          go_roundw
          case rel => exact ⟨i, j + 1, by omega, hlt, rfl, by go_num, HS2⟩
          case measure => simp [intOf]; omega
        | false =>
          have HC1 := hide (fun W hS => HC.out W i j hS nm xk xi xt xs A2 xl.length e2)
          rw [hB] at HC1 HKP
          obtain ⟨u0, s0⟩ := Option.isSome_iff_exists.1 (HTH.out wr HS.out 0 (by decide)).1
          obtain ⟨u1, s1⟩ := Option.isSome_iff_exists.1 (HTH.out wr HS.out 1 (by decide)).1
          obtain ⟨u2, s2⟩ := Option.isSome_iff_exists.1 (HTH.out wr HS.out 2 (by decide)).1
          obtain ⟨u3, s3⟩ := Option.isSome_iff_exists.1 (HTH.out wr HS.out 3 (by decide)).1
          obtain ⟨u4, s4⟩ := Option.isSome_iff_exists.1 (HTH.out wr HS.out 4 (by decide)).1
          obtain ⟨u5, s5⟩ := Option.isSome_iff_exists.1 (HTH.out wr HS.out 5 (by decide)).1
          have f0 := (HTH.out wr HS.out 0 (by decide)).2
          have f1 := (HTH.out wr HS.out 1 (by decide)).2
          have f2 := (HTH.out wr HS.out 2 (by decide)).2
          have f3 := (HTH.out wr HS.out 3 (by decide)).2
          have f4 := (HTH.out wr HS.out 4 (by decide)).2
          have f5 := (HTH.out wr HS.out 5 (by decide)).2
          simp only [Nat.add_zero] at s0 f0
          have hkp := HKP.out wr HS.out (by trivial)
          rw [setCells6] at hkp
          have HKK := hide hkp
          clear hB HSK HC HTH hkp HKP
          go_wp2_with (refine (HC1.out _ ?hbw).mono ?_; (case hbw => exact HS.out.below (by repeat (first | exact Below.refl _ _ | refine bl_plus ?_ | refine bl_alloc ?_ _ | refine bl_drew ?_ | refine bl_drewN ?_ _))); rintro e w' ⟨rfl, hbl⟩; obtain ⟨os1, n1, rfl⟩ := below_plus hbl; clear hbl)
          go_roundw
          case rel => exact ⟨i + 1, j + 1, by omega, hlt, by go_num, by go_num, hide (HKK.out.after _ _ _)⟩
          case measure => simp [intOf]; omega
      · have hjl : j = ps.length := by omega
        subst hjl
        have hth := fun (k : Nat) (hk : k < ps.length * 6) => HS.out.there hk
        obtain ⟨vs, hvl, hcl⟩ := run_clear_props wr gr (i * 6) (ps.length - i) (c - i) (by omega) (fun j hj => (hth (i * 6 + j) (by omega)).1) (fun j hj => (hth (i * 6 + j) (by omega)).2)
        have hov := HS.out.over HROW.out (by omega) vs hvl
        have HFIN := hide (HPO.out i _ hov.2.2 hov.1 hov.2.1)
        have i1 : (i : Int) ≤ (ps.length : Int) := by omega
        have i2 : (ps.length : Int) ≤ (c : Int) := by omega
        clear hov hvl hth HS HC HROW HPO
        go_wp2
        exact HFIN.out

end Go.Proofs.YtdncmjlakmkfiaaGreatDoor
/-
  WALKS: slices.DeleteFunc at any row of properties; a list without a name (the program's).
-/
namespace Go.Proofs.YtdncmjlakmkfiaaGreatDoor
open Go.RowKit Go.Lib

set_option maxHeartbeats 1600000 in
theorem indexNil_any (fid : FuncId) (p : Value) (w : World) :
    Calls Tryz.prog 124 #[.slice none 0 0, .func (.func fid) #[] #[p]] w fun e w' => e = .returned (.int .i64 (-1)) ∧ w = w' := by
  go_enter Tryz.func124, Tryz.ntmps124
  go_wp2
  go_loop [8] (fun i => i = .int .i64 0) (fun _ => 0)
  case atStart => rfl
  case round =>
    subst hrel
    go_wp2
    go_ret
    exact ⟨rfl, rfl⟩

set_option maxHeartbeats 1600000 in
theorem deleteNil_any (fid : FuncId) (p : Value) (w : World) :
    Calls Tryz.prog 89 #[.slice none 0 0, .func (.func fid) #[] #[p]] w fun e w' => e = .returned (.slice none 0 0) ∧ w = w' := by
  go_enter Tryz.func89, Tryz.ntmps89
  go_wp2_with (go_at_call 124; (with_reducible refine (indexNil_any fid p _).mono ?_); rintro e w' ⟨rfl, rfl⟩)
  go_ret
  exact ⟨rfl, rfl⟩

theorem deleteP_any (fid : FuncId) (hF : Asks fid) (base c : Nat) (A : Option Addr) (ps : List CP) (g : Nat) (x : ByteArray) (w : World) (hlen : ps.length ≤ 5000) (hr : Row6 w base (.slice A ps.length c) ps) (hx : w.cell? ⟨g, 0, none⟩ = some (.string x)) (hg : g < base) (hb : base ≤ w.heap.size) :
    Calls Tryz.prog 89 #[.slice A ps.length c, .func (.func fid) #[] #[.pointer (some ⟨g, 0, none⟩)]] w fun e w' => (e = .returned (.slice A (others x ps).length c) ∧ Row6 w' base (.slice A (others x ps).length c) (others x ps)) ∧ Below base w w' := by
  have hcl := hr.clip
  cases A with
  | none =>
    obtain rfl := hcl.2.2.2.2.1 rfl
    have h0 : ps = [] := List.length_eq_zero_iff.1 (by have := hcl.2.2.1; omega)
    subst h0
    refine (deleteNil_any fid _ w).mono ?_
    rintro e w' ⟨rfl, rfl⟩
    exact ⟨⟨rfl, row6_nil⟩, Below.refl _ _⟩
  | some a =>
    obtain ⟨gr, rfl⟩ := hcl.2.2.2.2.2 a rfl
    have hbg := (hr.own.lt gr rfl).1
    refine (deleteRow_any fid hF base gr c ps g x w hlen hr hx (by omega) (by omega)).mono ?_
    rintro e w' ⟨rfl, h1, h2⟩
    exact ⟨⟨rfl, h1⟩, (Below.refl base w).grown h2 hb (fun k hk => by
      have : gr = k := Option.some.inj hk
      omega)⟩

/-- A row of the call's own that reads as a list. -/
def RowIs (P : List PR → Prop) (w : World) (e : Ending) (w' : World) : Prop := ∃ A c qs, e = .returned (.slice A qs.length c) ∧ Row6 w' w.heap.size (.slice A qs.length c) qs ∧ P (qs.map CP.pr) ∧ Below w.heap.size w w'

theorem Row6.low {w : World} {base b2 : Nat} {v : Value} {ps : List CP} (h : Row6 w base v ps) (hb : b2 ≤ base) : Row6 w b2 v ps := ⟨ownK_low h.own hb, h.ins, h.nms⟩

end Go.Proofs.YtdncmjlakmkfiaaGreatDoor
