/-
  WALK: slices.IndexFunc at properties, any function that asks for a name.
-/
import Derived.Test.YtdncmjlakmkfiaaGreatDoorPzd
set_option linter.all false
namespace Go.Proofs.YtdncmjlakmkfiaaGreatDoor
open Go.RowKit Go.Lib

set_option maxHeartbeats 3200000 in
set_option maxRecDepth 100000 in
theorem indexRow_any (fid : FuncId) (hF : Asks fid) (gr c : Nat) (l : List CP) (g : Nat) (x : ByteArray) (w : World) (hlen : l.length ≤ 5000) (hgr : gr < w.heap.size) (hcell : ∀ j (h : j < l.length) i, i < 6 → w.cell? ⟨gr, j * 6 + i, none⟩ = l[j].cells[i]?) (hx : w.cell? ⟨g, 0, none⟩ = some (.string x)) (hg : g < w.heap.size) :
    Calls Tryz.prog 124 #[.slice (some ⟨gr, 0, none⟩) l.length c, .func (.func fid) #[] #[.pointer (some ⟨g, 0, none⟩)]] w fun e w' => e = .returned (.int .i64 (idxInt (firstIdx (prIs2 l x) l.length))) ∧ Below w.heap.size w w' := by
  have ent := hF.ent
  have HCALL := hide hF.call
  clear hF
  have HN := hide (fun h => firstIdx_none (p := prIs2 l x) (n := l.length) h)
  have HF := hide (fun k h hk hn => firstIdx_some (p := prIs2 l x) (n := l.length) (k := k) h hk hn)
  have HA := hide hcell
  clear hcell
  generalize firstIdx (prIs2 l x) l.length = R at *
  have HX := hide hx
  clear hx
  go_enter Tryz.func124, Tryz.ntmps124
  go_wp2
  go_loopw [8] (fun i wr => ∃ (k : Nat) (os : Array Obj) (n : Nat), k ≤ l.length ∧ i = .int .i64 k ∧ Hid (∀ j, j < k → prIs2 l x j = false) ∧ wr = plus w os n) (fun i _ => l.length - (intOf i).toNat)
  case atStart => exact ⟨0, #[], _, Nat.zero_le _, rfl, hide (fun j hj => by omega), plus_nil.symm⟩
  case round =>
    obtain ⟨q, os, n, hq, rfl, HK, rfl⟩ := hrel
    by_cases hlt : q < l.length
    · have hv := HA.out q hlt
      have c0 := hv 0 (by omega)
      have c1 := hv 1 (by omega)
      have c2 := hv 2 (by omega)
      have c3 := hv 3 (by omega)
      have c4 := hv 4 (by omega)
      have c5 := hv 5 (by omega)
      have hs := prIs2_at (x := x) hlt
      have hf := HF.out q HK.out
      have HNXT := hide (fun (h : prIs2 l x q = false) j (hj : j < q + 1) => (by
        rcases Nat.lt_or_ge j q with g | g
        · exact HK.out j g
        · obtain rfl : j = q := by omega
          exact h : prIs2 l x j = false))
      have i1 : (q : Int) < (l.length : Int) := by omega
      clear hv HK
      generalize prIs2 l x q = B at *
      generalize l[q] = y at *
      obtain ⟨nm, ⟨xv, A2, e2⟩⟩ := y
      obtain ⟨xk, xi, xt, xs, xl⟩ := xv
      dsimp only [CP.cells, CVal.cells, V.k, V.i, V.t, V.s, V.l] at c0 c1 c2 c3 c4 c5 hs
      simp only [List.getElem?_cons_zero, List.getElem?_cons_succ, Nat.add_zero] at c0 c1 c2 c3 c4 c5
      have hx2 : (plus w os n).cell? ⟨g, 0, none⟩ = some (.string x) := (plus_cell hg).trans HX.out
      have hg2 : g < (plus w os n).heap.size := Nat.lt_of_lt_of_le hg (le_plus (Nat.le_refl _))
      have HC := hide (fun W (hbw : Below w.heap.size w W) => HCALL.out nm xk xi xt xs A2 xl.length e2 g x W ((hbw.cell (p := ⟨g, 0, none⟩) hg).trans HX.out) (Nat.lt_of_lt_of_le hg hbw.size))
      rw [← hs] at HC
      clear hx2 hg2 hs
      cases B with
      | true =>
        have hR := hf rfl hlt
        subst hR
        go_wp2_with (refine (HC.out _ ?hbw).mono ?_; (case hbw => exact (by repeat (first | exact Below.refl _ _ | refine bl_plus ?_ | refine bl_alloc ?_ _ | refine bl_drew ?_ | refine bl_drewN ?_ _))); rintro e w' ⟨rfl, hbl⟩; obtain ⟨os1, n1, rfl⟩ := below_plus hbl; clear hbl)
        go_ret
        exact ⟨rfl, (by repeat (first | exact Below.refl _ _ | refine bl_plus ?_ | refine bl_alloc ?_ _ | refine bl_drew ?_ | refine bl_drewN ?_ _))⟩
      | false =>
        clear hf
        go_wp2_with (refine (HC.out _ ?hbw).mono ?_; (case hbw => exact (by repeat (first | exact Below.refl _ _ | refine bl_plus ?_ | refine bl_alloc ?_ _ | refine bl_drew ?_ | refine bl_drewN ?_ _))); rintro e w' ⟨rfl, hbl⟩; obtain ⟨os1, n1, rfl⟩ := below_plus hbl; clear hbl)
        go_roundw
        case rel => exact ⟨q + 1, _, _, hlt, by go_num, hide (HNXT.out (by trivial)), by first | rfl | (rw [plus_plus])⟩
        case measure => simp [intOf]; omega
    · have hR : R = none := HN.out (fun j hj => HK.out j (by omega))
      subst hR
      obtain rfl : q = l.length := by omega
      go_wp2
      go_ret
      exact ⟨rfl, (by repeat (first | exact Below.refl _ _ | refine bl_plus ?_ | refine bl_alloc ?_ _ | refine bl_drew ?_ | refine bl_drewN ?_ _))⟩

end Go.Proofs.YtdncmjlakmkfiaaGreatDoor
/-
  WALK: slices.DeleteFunc at properties that the call owns, any function that asks for a name.
-/
namespace Go.Proofs.YtdncmjlakmkfiaaGreatDoor
open Go.RowKit Go.Lib

/-- What DeleteFunc leaves: the kept ones of the first j, then whatever, then the rest. -/
structure Del6 (base g c : Nat) (x : ByteArray) (ps : List CP) (w0 : World) (i j : Nat) (w : World) : Prop where
  grown : w0.grownBy w (some g)
  cur : ∃ cur : List CP, cur.length = ps.length ∧ cur.take i = others x (ps.take j) ∧ cur.drop j = ps.drop j ∧ OwnK 6 47 w base (.slice (some ⟨g, 0, none⟩) ps.length c) ps.length (flatCP cur)

theorem grownBy_cells (g : Nat) : ∀ (vs : List Value) (o : Nat) (w : World), w.grownBy (w.setCells g o vs) (some g)
  | [], _, w => ⟨rfl, rfl, rfl, Nat.le_refl _, fun _ _ _ => rfl⟩
  | v :: vs, o, w => grownBy_trans (grownBy_setCell w g o v) (grownBy_cells g vs (o + 1) _)
section
variable {base g c : Nat} {x : ByteArray} {ps : List CP} {w0 w w' : World} {i j : Nat}

theorem others_snoc (x : ByteArray) (l : List CP) (p : CP) : others x (l ++ [p]) = if p.n.toList == x.toList then others x l else others x l ++ [p] := by
  unfold others
  rw [List.filter_append]
  by_cases h : (p.n.toList == x.toList) = true
  · simp [h]
  · simp [h]

theorem Del6.below (h : Del6 base g c x ps w0 i j w) (hb : Below w.heap.size w w') : Del6 base g c x ps w0 i j w' := by
  obtain ⟨h1, cur, h2, h3, h4, h5⟩ := h
  exact ⟨grownBy_below h1 hb, cur, h2, h3, h4, ownK_below h5 hb⟩

theorem Del6.skip (h : Del6 base g c x ps w0 i j w) (hj : j < ps.length) (hx : (ps[j].n.toList == x.toList) = true) : Del6 base g c x ps w0 i (j + 1) w := by
  obtain ⟨h1, cur, h2, h3, h4, h5⟩ := h
  refine ⟨h1, cur, h2, ?_, ?_, h5⟩
  · rw [List.take_succ_eq_append_getElem hj, others_snoc, if_pos hx]; exact h3
  · rw [← List.drop_drop, ← List.drop_drop, h4]

theorem Del6.keep (h : Del6 base g c x ps w0 i j w) (hj : j < ps.length) (hij : i ≤ j) (hx : (ps[j].n.toList == x.toList) = false) : Del6 base g c x ps w0 (i + 1) (j + 1) (w.setCells g (i * 6) ps[j].cells) := by
  obtain ⟨h1, cur, h2, h3, h4, h5⟩ := h
  have hi : i < cur.length := by omega
  refine ⟨?_, cur.set i ps[j], by rw [List.length_set]; exact h2, ?_, ?_, ?_⟩
  · exact grownBy_trans h1 (grownBy_cells g _ _ w)
  · rw [List.take_succ_eq_append_getElem hj, others_snoc, if_neg (by rw [hx]; decide), ← h3, List.take_succ_eq_append_getElem (by rw [List.length_set]; exact hi), List.getElem_set_self, List.take_set_of_le (Nat.le_refl _)]
  · rw [List.drop_set_of_lt (by omega), ← List.drop_drop, ← List.drop_drop, h4]
  · rw [flatCP_set cur i _ hi]
    exact h5.over _ _ (by show i * 6 + 6 ≤ _; omega)

theorem Del6.cell (h : Del6 base g c x ps w0 i j w) {k m : Nat} (hk : k < ps.length) (hjk : j ≤ k) (hm : m < 6) : w.cell? ⟨g, k * 6 + m, none⟩ = ps[k].cells[m]? := by
  obtain ⟨h1, cur, h2, h3, h4, hl, A', c', hv, k1, k2, k3⟩ := h
  injection hv with e1 _ e3
  subst e1
  rcases k3 with ⟨e, _⟩ | ⟨g', cs, hA, hg, hb, h6, h7⟩
  · cases e
  · injection hA with hA
    injection hA with hA
    subst hA
    have hck : cur[k]? = ps[k]? := by
      have := congrArg (fun l => l[k - j]?) h4
      simp only [List.getElem?_drop] at this
      rwa [show j + (k - j) = k by omega] at this
    have hkc : k < cur.length := by omega
    rw [List.getElem?_eq_getElem hkc, List.getElem?_eq_getElem hk] at hck
    rw [← Option.some.inj hck, ← flatCP_get cur k m hkc hm, cell_of_row w g _ cs _ (0, 0) hb, ← h7, List.getElem?_take_of_lt (by omega)]
    simp

theorem Del6.there (h : Del6 base g c x ps w0 i j w) {k : Nat} (hk : k < ps.length * 6) : (w.cell? ⟨g, k, none⟩).isSome = true ∧ w.frozen? ⟨g, k, none⟩ = false := by
  obtain ⟨h1, cur, h2, h3, h4, hl, A', c', hv, k1, k2, k3⟩ := h
  injection hv with e1 _ e3
  subst e1
  rcases k3 with ⟨e, _⟩ | ⟨g', cs, hA, hg, hb, h6, h7⟩
  · cases e
  · injection hA with hA
    injection hA with hA
    subst hA
    have hlt : k < cs.size := by
      have := congrArg List.length h7
      rw [hl, List.length_take, Array.length_toList] at this
      omega
    refine ⟨?_, frozen_of_row w g _ cs _ hb⟩
    rw [cell_of_row w g _ cs _ (0, 0) hb, Array.getElem?_eq_getElem hlt]
    rfl

theorem Del6.start (h : Row6 w base (.slice (some ⟨g, 0, none⟩) ps.length c) ps) (hall : ∀ k (h : k < ps.length), k < i → (ps[k].n.toList == x.toList) = false) : Del6 base g c x ps w i i w := by
  refine ⟨⟨rfl, rfl, rfl, Nat.le_refl _, fun _ _ _ => rfl⟩, ps, rfl, ?_, rfl, h.own⟩
  unfold others
  symm
  rw [List.filter_eq_self]
  intro p hp
  obtain ⟨k, hk, rfl⟩ := List.mem_iff_getElem.1 hp
  rw [List.length_take] at hk
  rw [List.getElem_take, hall k (by omega) (by omega)]
  rfl

/-- The end: the tail is blanked. -/
theorem Del6.over (h : Del6 base g c x ps w0 i ps.length w) (hr : Row6 w0 base (.slice (some ⟨g, 0, none⟩) ps.length c) ps) (hi : i ≤ ps.length) (vs : List Value) (hvs : vs.length = (ps.length - i) * 6) :
    Row6 (w.setCells g (i * 6) vs) base (.slice (some ⟨g, 0, none⟩) i c) (others x ps) ∧ w0.grownBy (w.setCells g (i * 6) vs) (some g) ∧ i = (others x ps).length := by
  obtain ⟨h1, cur, h2, h3, h4, h5⟩ := h
  rw [List.take_length] at h3
  have hil : i = (others x ps).length := by rw [← h3, List.length_take]; omega
  have hgr : w0.grownBy (w.setCells g (i * 6) vs) (some g) := grownBy_trans h1 (grownBy_cells g _ _ w)
  refine ⟨hr.grown hgr (.inl rfl) ?_ (fun p hp => (List.mem_filter.1 hp).1), hgr, hil⟩
  have hcut := (h5.over (i * 6) vs (by rw [hvs]; omega)).cut hi
  rw [List.take_append_of_le_length (by rw [List.length_take, flatCP_len]; omega), List.take_take, Nat.min_self, ← flatCP_take, h3] at hcut
  rw [← hil]
  exact hcut
end

end Go.Proofs.YtdncmjlakmkfiaaGreatDoor
