/-
  WALK: slices.CompactFunc at values that the call owns: how many it keeps.
-/
import Derived.Test.YtfnooipkghfmoaaDoorCfa
set_option linter.all false
namespace Go.Proofs.YtfnooipkghfmoaaDoor
open Go.RowKit Go.Lib Go.Sort

/-- 'clear(s)' at a slice of values. -/
theorem run_clear_vals (w : World) (g o n c : Nat) (hn : 0 < n) (hc : ∀ j, j < n * 5 → (w.cell? ⟨g, o + j, none⟩).isSome = true) (hf : ∀ j, j < n * 5 → w.frozen? ⟨g, o + j, none⟩ = false) :
    ∃ vs : List Value, vs.length = n * 5 ∧ ∀ ty, (Builtin.clear_ #[22] ty #[.slice (some ⟨g, o, none⟩) n c]).run Tryd.prog w = .ok (.tuple #[]) (w.setCells g o vs) := by
  have hz : ∀ w, (zeroValue 24).run Tryd.prog w = .ok (.agg #[.int .i64 0, .int .i64 0, .int .i64 0, .string ByteArray.empty, .slice none 0 0]) w := Tryd.zeroValue24
  have hcells : (Value.agg #[.int .i64 0, .int .i64 0, .int .i64 0, .string ByteArray.empty, .slice none 0 0]).cells = #[.int .i64 0, .int .i64 0, .int .i64 0, .string ByteArray.empty, .slice none 0 0] := rfl
  have hlen : (Builtin.zeroCells #[.int .i64 0, .int .i64 0, .int .i64 0, .string ByteArray.empty, .slice none 0 0] n).toList.length = n * 5 := by simp [Builtin.zeroCells]
  refine ⟨_, hlen, fun ty => ?_⟩
  have hone : ∀ v ∈ (Builtin.zeroCells #[.int .i64 0, .int .i64 0, .int .i64 0, .string ByteArray.empty, .slice none 0 0] n).toList, v.oneCell' = true := by
    intro v hv
    simp only [Builtin.zeroCells, Array.toList_map, List.mem_map] at hv
    obtain ⟨i, _, rfl⟩ := hv
    have hm : i % 5 < 5 := Nat.mod_lt _ (by decide)
    have h6 : i % 5 = 0 ∨ i % 5 = 1 ∨ i % 5 = 2 ∨ i % 5 = 3 ∨ i % 5 = 4 := by omega
    show (#[Value.int .i64 0, .int .i64 0, .int .i64 0, .string ByteArray.empty, .slice none 0 0][i % 5]!).oneCell' = true
    rcases h6 with h | h | h | h | h <;> rw [h] <;> rfl
  have hst := run_storeCells_cells (P := Tryd.prog) g o _ 0 w (fun j hj => by rw [Nat.add_zero]; exact hc j (by rwa [hlen] at hj)) (fun j hj => by rw [Nat.add_zero]; exact hf j (by rwa [hlen] at hj)) hone
  simp only [Nat.add_zero] at hst
  obtain ⟨m, rfl⟩ : ∃ m, n = m + 1 := ⟨n - 1, by omega⟩
  simp [Builtin.clear_, run_underlying Tryd.underlying22, hz, hcells, hst]

theorem setCells5 (w : World) (g o : Nat) (a b c d e : Value) : w.setCells g o [a, b, c, d, e] = ((((w.setCell ⟨g, o, none⟩ a).setCell ⟨g, o + 1, none⟩ b).setCell ⟨g, o + 2, none⟩ c).setCell ⟨g, o + 3, none⟩ d).setCell ⟨g, o + 4, none⟩ e := rfl

section
variable {w0 : World}
theorem dif_at {zs : List (In0 w0)} {k : Nat} (h : k + 1 < zs.length) : dif zs (k + 1) = !(cf0 zs[k + 1] zs[k] == 0) := by
  unfold dif
  rw [getElem!_pos zs (k + 1) h, getElem!_pos zs (k + 1 - 1) (by omega)]
  rfl
/-- What CompactFunc hands back: so many, all written in the row's own block. -/
def CompOut (n : Nat) (A : Option Addr) (w : World) (e : Ending) (w' : World) : Prop := ∃ A' c', e = .returned (.slice A' n c') ∧ w.grownBy w' (Value.slice A 0 0).ownBlock
end

set_option maxHeartbeats 6400000 in
set_option maxRecDepth 100000 in
theorem compactV_some {w0 : World} (fid : FuncId) (hE : EqBy fid) (g c : Nat) (zs : List (In0 w0)) (W : World) (hsame : ∀ b, b < w0.heap.size → W.heap[b]? = w0.heap[b]?) (hW : w0.heap.size ≤ W.heap.size)
    (h : OwnK 5 24 W w0.heap.size (.slice (some ⟨g, 0, none⟩) zs.length c) zs.length (flat0 zs)) (hlen : zs.length ≤ 5000) (h2 : 2 ≤ zs.length) :
    Calls Tryd.prog 20 #[.slice (some ⟨g, 0, none⟩) zs.length c, .func (.func fid) #[] #[]] W (CompOut (cntZ zs zs.length) (some ⟨g, 0, none⟩) W) := by
  have ent := hE.ent
  have mixed : Tryd.prog.follows .mixedOrders = true := by kernel_rfl
  have hcc : zs.length ≤ c ∧ c ≤ maxLen := by
    obtain ⟨_, A', c', hv, h1, h2, _⟩ := h
    injection hv with _ _ e3
    subst e3
    exact ⟨h1, h2⟩
  obtain ⟨hc1, hc2⟩ := hcc
  have hlt := h.lt g rfl
  unfold maxLen at hc2
  have HS0 := hide (Cmt.start h)
  have hpo : ∀ (n : Nat) (A' : Option Addr) (c' : Nat) (w' : World), n = cntZ zs zs.length → W.grownBy w' (some g) → CompOut (cntZ zs zs.length) (some ⟨g, 0, none⟩) W (.returned (.slice A' n c')) w' := by
    rintro n A' c' w' rfl h
    exact ⟨A', c', rfl, h⟩
  have HPO := hide hpo
  have HC := hide (fun (w : World) (j : Nat) (hS : Cmt g c zs W j w) (x y : In0 w0) (w' : World) (hb : Below w.heap.size w w') => (by
    obtain ⟨s1, s2⟩ := hS.same hsame hW hlt.1
    exact hE.call x.1.x y.1.x x.1.A y.1.A x.1.c y.1.c w' ((x.at_ s1 s2).below hb) ((y.at_ s1 s2).below hb) :
      Calls Tryd.prog fid #[x.1.x.arg x.1.A x.1.c, y.1.x.arg y.1.A y.1.c] w' fun e w'' => e = .returned (.bool (cf0 x y == 0)) ∧ Grw w' w''))
  generalize CompOut (cntZ zs zs.length) (some ⟨g, 0, none⟩) W = PO at *
  have h1c := cntZ_one zs
  clear hE h hpo hsame hW
  go_enter Tryd.func20, Tryd.ntmps20
  go_wp2
  go_loopw [5] (fun i wr => ∃ k : Nat, k < zs.length ∧ i = .int .i64 ((k : Int) + 1) ∧ cntZ zs (k + 1) = k + 1 ∧ Hid (Cmt g c zs W 0 wr)) (fun i _ => zs.length - (intOf i).toNat)
  case atStart => exact ⟨0, by omega, rfl, h1c, HS0⟩
  case round =>
    clear HS0 h1c
    obtain ⟨k, hk, rfl, hcn, HS⟩ := hrel
    by_cases hlt2 : k + 1 < zs.length
    · have a0 := HS.out.cell hlt2 (Nat.zero_le _) (show 0 < 5 by decide)
      have a1 := HS.out.cell hlt2 (Nat.zero_le _) (show 1 < 5 by decide)
      have a2 := HS.out.cell hlt2 (Nat.zero_le _) (show 2 < 5 by decide)
      have a3 := HS.out.cell hlt2 (Nat.zero_le _) (show 3 < 5 by decide)
      have a4 := HS.out.cell hlt2 (Nat.zero_le _) (show 4 < 5 by decide)
      have b0 := HS.out.cell hk (Nat.zero_le _) (show 0 < 5 by decide)
      have b1 := HS.out.cell hk (Nat.zero_le _) (show 1 < 5 by decide)
      have b2 := HS.out.cell hk (Nat.zero_le _) (show 2 < 5 by decide)
      have b3 := HS.out.cell hk (Nat.zero_le _) (show 3 < 5 by decide)
      have b4 := HS.out.cell hk (Nat.zero_le _) (show 4 < 5 by decide)
      have hd := dif_at hlt2
      have HG := hide (fun n os => Grw.below (w := wr) (w' := grow (wr.drewN n) os) ⟨n, os, rfl⟩)
      have HC1 := hide (fun n os => HC.out wr 0 HS.out zs[k + 1] zs[k] (grow (wr.drewN n) os) (HG.out n os))
      have hgw : g < wr.heap.size := Nat.lt_of_lt_of_le hlt.2 HS.out.grown.size
      generalize zs[k + 1] = x at *
      generalize zs[k] = y at *
      cases hB : (cf0 x y == 0) with
      | false =>
        rw [hB] at hd HC1
        have hcn2 : cntZ zs (k + 1 + 1) = k + 1 + 1 := by rw [cntZ_yes (by rw [hd]; rfl), hcn]
        obtain ⟨⟨⟨xk, xi, xt, xs, xl⟩, xA, xc⟩, hx⟩ := x
        obtain ⟨⟨⟨yk, yi, yt, ys, yl⟩, yA, yc⟩, hy⟩ := y
        simp only [In0.cells, CVal.cells, V.arg, V.k, V.i, V.t, V.s, V.l] at a0 a1 a2 a3 a4 b0 b1 b2 b3 b4 HC1
        simp only [List.getElem?_cons_zero, List.getElem?_cons_succ, Nat.add_zero] at a0 a1 a2 a3 a4 b0 b1 b2 b3 b4
        clear hB hd HC
        have i1 : ((k : Int) + 1) < (zs.length : Int) := by omega
        have i0 : (k : Int) < (zs.length : Int) := by omega
        have p0 : (0 : Int) ≤ (k : Int) + 1 := by omega
        have e0 : ((k : Int) + 1).toNat = k + 1 := by omega
        have hwp : IntKind.i64.wrap (k : Int) = (k : Int) := IntWalk.i64_in _ (by omega)
        have A0 := cell_grown (w := wr) (a := ⟨g, _, none⟩) hgw a0
        have A1 := cell_grown (w := wr) (a := ⟨g, _, none⟩) hgw a1
        have A2 := cell_grown (w := wr) (a := ⟨g, _, none⟩) hgw a2
        have A3 := cell_grown (w := wr) (a := ⟨g, _, none⟩) hgw a3
        have A4 := cell_grown (w := wr) (a := ⟨g, _, none⟩) hgw a4
        have B0 := cell_grown (w := wr) (a := ⟨g, _, none⟩) hgw b0
        have B1 := cell_grown (w := wr) (a := ⟨g, _, none⟩) hgw b1
        have B2 := cell_grown (w := wr) (a := ⟨g, _, none⟩) hgw b2
        have B3 := cell_grown (w := wr) (a := ⟨g, _, none⟩) hgw b3
        have B4 := cell_grown (w := wr) (a := ⟨g, _, none⟩) hgw b4
        clear a0 a1 a2 a3 a4 b0 b1 b2 b3 b4
        go_wp2_with fail
        go_quiet_grown (first | (go_at_fn fid; refine Calls.grown_of (HC1.out _ _)))
        have HS2 := hide (HS.out.below (HG.out nq osq))
        clear A0 A1 A2 A3 A4 B0 B1 B2 B3 B4 HC1 HS HG
        generalize grow (wr.drewN nq) osq = w2 at HS2 ⊢
        go_wp2
        go_roundw
        case rel => exact ⟨k + 1, hlt2, by go_num, hcn2, HS2⟩
        case measure => simp [intOf]; omega
      | true =>
        rw [hB] at hd HC1
        have hcn2 : cntZ zs (k + 1 + 1) = k + 1 := by rw [cntZ_no (by rw [hd]; rfl), hcn]
        obtain ⟨⟨⟨xk, xi, xt, xs, xl⟩, xA, xc⟩, hx⟩ := x
        obtain ⟨⟨⟨yk, yi, yt, ys, yl⟩, yA, yc⟩, hy⟩ := y
        simp only [In0.cells, CVal.cells, V.arg, V.k, V.i, V.t, V.s, V.l] at a0 a1 a2 a3 a4 b0 b1 b2 b3 b4 HC1
        simp only [List.getElem?_cons_zero, List.getElem?_cons_succ, Nat.add_zero] at a0 a1 a2 a3 a4 b0 b1 b2 b3 b4
        clear hB hd
        have i1 : ((k : Int) + 1) < (zs.length : Int) := by omega
        have i0 : (k : Int) < (zs.length : Int) := by omega
        have p0 : (0 : Int) ≤ (k : Int) + 1 := by omega
        have e0 : ((k : Int) + 1).toNat = k + 1 := by omega
        have hwp : IntKind.i64.wrap (k : Int) = (k : Int) := IntWalk.i64_in _ (by omega)
        have A0 := cell_grown (w := wr) (a := ⟨g, _, none⟩) hgw a0
        have A1 := cell_grown (w := wr) (a := ⟨g, _, none⟩) hgw a1
        have A2 := cell_grown (w := wr) (a := ⟨g, _, none⟩) hgw a2
        have A3 := cell_grown (w := wr) (a := ⟨g, _, none⟩) hgw a3
        have A4 := cell_grown (w := wr) (a := ⟨g, _, none⟩) hgw a4
        have B0 := cell_grown (w := wr) (a := ⟨g, _, none⟩) hgw b0
        have B1 := cell_grown (w := wr) (a := ⟨g, _, none⟩) hgw b1
        have B2 := cell_grown (w := wr) (a := ⟨g, _, none⟩) hgw b2
        have B3 := cell_grown (w := wr) (a := ⟨g, _, none⟩) hgw b3
        have B4 := cell_grown (w := wr) (a := ⟨g, _, none⟩) hgw b4
        clear a0 a1 a2 a3 a4 b0 b1 b2 b3 b4
        go_wp2_with fail
        go_quiet_grown (first | (go_at_fn fid; refine Calls.grown_of (HC1.out _ _)))
        have HS2 := hide (HS.out.below (HG.out nq osq))
        clear A0 A1 A2 A3 A4 B0 B1 B2 B3 B4 HC1 HS HG hx hy hcn
        generalize grow (wr.drewN nq) osq = w2 at HS2 ⊢
        go_wp2
        have i2 : ((k : Int) + 1) ≤ (zs.length : Int) := by omega
        have i3 : (zs.length : Int) ≤ (c : Int) := by omega
        go_loopw [5, 7] (fun ks js wq => ∃ d : Nat, k + 2 + d ≤ zs.length ∧ cntZ zs (k + 2 + d) ≤ k + 1 + d ∧ ks = .int .i64 (cntZ zs (k + 2 + d)) ∧ js = .int .i64 ((d : Int) + 1) ∧ Hid (Cmt g c zs W (k + 1 + d) wq)) (fun _ js _ => zs.length - (intOf js).toNat)
        case atStart => exact ⟨0, by omega, by rw [Nat.add_zero, hcn2]; omega, by rw [Nat.add_zero, hcn2]; go_num, by go_num, hide ((HS2.out.below (by repeat (first | with_reducible exact Below.refl _ _ | with_reducible refine bl_plus ?_ | with_reducible refine bl_alloc ?_ _ | with_reducible refine bl_drew ?_ | with_reducible refine bl_drewN ?_ _))).up (Nat.zero_le _))⟩
        case round =>
          clear HS2 hcn2
          obtain ⟨d, hd, hle, rfl, rfl, HS⟩ := hrel
          clear i0 i1 p0 e0 hwp
          have hgw : g < wr.heap.size := Nat.lt_of_lt_of_le hlt.2 HS.out.grown.size
          by_cases hlt3 : k + 2 + d < zs.length
          · have hlt4 : k + 1 + d < zs.length := by omega
            have i1 : (d : Int) + 1 < ((zs.length - (k + 1) : Nat) : Int) := by omega
            have i0 : (d : Int) < ((zs.length - (k + 1) : Nat) : Int) := by omega
            have p0 : (0 : Int) ≤ (d : Int) + 1 := by omega
            have e0 : ((d : Int) + 1).toNat = d + 1 := by omega
            have hwp : IntKind.i64.wrap (d : Int) = (d : Int) := IntWalk.i64_in _ (by omega)
            have hdf : dif zs (k + 2 + d) = !(cf0 zs[k + 2 + d] zs[k + 1 + d] == 0) := by
              have := dif_at (zs := zs) (k := k + 1 + d) (by omega)
              simpa only [show k + 1 + d + 1 = k + 2 + d by omega] using this
            have a0 := HS.out.cell (k := k + 2 + d) (m := 0) hlt3 (by omega) (by decide)
            rw [show (k + 2 + d) * 5 + 0 = (k + 1) * 5 + (d + 1) * 5 + 0 by omega] at a0
            have a1 := HS.out.cell (k := k + 2 + d) (m := 1) hlt3 (by omega) (by decide)
            rw [show (k + 2 + d) * 5 + 1 = (k + 1) * 5 + (d + 1) * 5 + 1 by omega] at a1
            have a2 := HS.out.cell (k := k + 2 + d) (m := 2) hlt3 (by omega) (by decide)
            rw [show (k + 2 + d) * 5 + 2 = (k + 1) * 5 + (d + 1) * 5 + 2 by omega] at a2
            have a3 := HS.out.cell (k := k + 2 + d) (m := 3) hlt3 (by omega) (by decide)
            rw [show (k + 2 + d) * 5 + 3 = (k + 1) * 5 + (d + 1) * 5 + 3 by omega] at a3
            have a4 := HS.out.cell (k := k + 2 + d) (m := 4) hlt3 (by omega) (by decide)
            rw [show (k + 2 + d) * 5 + 4 = (k + 1) * 5 + (d + 1) * 5 + 4 by omega] at a4
            have b0 := HS.out.cell (k := k + 1 + d) (m := 0) hlt4 (by omega) (by decide)
            rw [show (k + 1 + d) * 5 + 0 = (k + 1) * 5 + d * 5 + 0 by omega] at b0
            have b1 := HS.out.cell (k := k + 1 + d) (m := 1) hlt4 (by omega) (by decide)
            rw [show (k + 1 + d) * 5 + 1 = (k + 1) * 5 + d * 5 + 1 by omega] at b1
            have b2 := HS.out.cell (k := k + 1 + d) (m := 2) hlt4 (by omega) (by decide)
            rw [show (k + 1 + d) * 5 + 2 = (k + 1) * 5 + d * 5 + 2 by omega] at b2
            have b3 := HS.out.cell (k := k + 1 + d) (m := 3) hlt4 (by omega) (by decide)
            rw [show (k + 1 + d) * 5 + 3 = (k + 1) * 5 + d * 5 + 3 by omega] at b3
            have b4 := HS.out.cell (k := k + 1 + d) (m := 4) hlt4 (by omega) (by decide)
            rw [show (k + 1 + d) * 5 + 4 = (k + 1) * 5 + d * 5 + 4 by omega] at b4
            have HG := hide (fun n os => Grw.below (w := wr) (w' := grow (wr.drewN n) os) ⟨n, os, rfl⟩)
            have HC1 := hide (fun n os => HC.out wr (k + 1 + d) HS.out zs[k + 2 + d] zs[k + 1 + d] (grow (wr.drewN n) os) (HG.out n os))
            have HWR := hide (fun (w' : World) (h : Cmt g c zs W (k + 1 + d) w') => (h.up (show k + 1 + d ≤ k + 1 + (d + 1) by omega)).write (i := cntZ zs (k + 2 + d)) (by omega) (by omega) zs[k + 2 + d])
            have HUP := hide (fun (w' : World) (h : Cmt g c zs W (k + 1 + d) w') => h.up (show k + 1 + d ≤ k + 1 + (d + 1) by omega))
            have HCE := hide (fun (w' : World) (h : Cmt g c zs W (k + 1 + d) w') (m : Nat) (hm : m < 5) => h.cell (k := k + 2 + d) hlt3 (by omega) hm)
            have HTT := hide (fun (w' : World) (h : Cmt g c zs W (k + 1 + d) w') (m : Nat) (hm : m < 5) => h.there (k := cntZ zs (k + 2 + d) * 5 + m) (by omega))
            generalize zs[k + 2 + d] = x at *
            generalize zs[k + 1 + d] = y at *
            cases hB : (cf0 x y == 0) with
            | true =>
              rw [hB] at hdf HC1
              have hcn2 : cntZ zs (k + 2 + (d + 1)) = cntZ zs (k + 2 + d) := by rw [show k + 2 + (d + 1) = k + 2 + d + 1 by omega, cntZ_no (by rw [hdf]; rfl)]
              generalize cntZ zs (k + 2 + d) = I at *
              clear hB hdf HWR HCE HTT HC
              obtain ⟨⟨⟨xk, xi, xt, xs, xl⟩, xA, xc⟩, hx⟩ := x
              obtain ⟨⟨⟨yk, yi, yt, ys, yl⟩, yA, yc⟩, hy⟩ := y
              simp only [In0.cells, CVal.cells, V.arg, V.k, V.i, V.t, V.s, V.l] at a0 a1 a2 a3 a4 b0 b1 b2 b3 b4 HC1
              simp only [List.getElem?_cons_zero, List.getElem?_cons_succ, Nat.add_zero] at a0 a1 a2 a3 a4 b0 b1 b2 b3 b4
              have A0 := cell_grown (w := wr) (a := ⟨g, _, none⟩) hgw a0
              have A1 := cell_grown (w := wr) (a := ⟨g, _, none⟩) hgw a1
              have A2 := cell_grown (w := wr) (a := ⟨g, _, none⟩) hgw a2
              have A3 := cell_grown (w := wr) (a := ⟨g, _, none⟩) hgw a3
              have A4 := cell_grown (w := wr) (a := ⟨g, _, none⟩) hgw a4
              have B0 := cell_grown (w := wr) (a := ⟨g, _, none⟩) hgw b0
              have B1 := cell_grown (w := wr) (a := ⟨g, _, none⟩) hgw b1
              have B2 := cell_grown (w := wr) (a := ⟨g, _, none⟩) hgw b2
              have B3 := cell_grown (w := wr) (a := ⟨g, _, none⟩) hgw b3
              have B4 := cell_grown (w := wr) (a := ⟨g, _, none⟩) hgw b4
              clear a0 a1 a2 a3 a4 b0 b1 b2 b3 b4
              go_wp2_with fail
              go_quiet_grown (first | (go_at_fn fid; refine Calls.grown_of (HC1.out _ _)))
              have HS2 := hide (HUP.out _ (HS.out.below (HG.out nq osq)))
              clear A0 A1 A2 A3 A4 B0 B1 B2 B3 B4 HC1 HS HG HUP
              generalize grow (wr.drewN nq) osq = w2 at HS2 ⊢
              go_wp2
              go_roundw
              case rel => exact ⟨d + 1, by omega, by rw [hcn2]; omega, by rw [hcn2], by go_num, HS2⟩
              case measure => simp [intOf]; omega
            | false =>
              rw [hB] at hdf HC1
              have hcn2 : cntZ zs (k + 2 + (d + 1)) = cntZ zs (k + 2 + d) + 1 := by rw [show k + 2 + (d + 1) = k + 2 + d + 1 by omega, cntZ_yes (by rw [hdf]; rfl)]
              generalize cntZ zs (k + 2 + d) = I at *
              clear hB hdf HUP HC
              obtain ⟨⟨⟨xk, xi, xt, xs, xl⟩, xA, xc⟩, hx⟩ := x
              obtain ⟨⟨⟨yk, yi, yt, ys, yl⟩, yA, yc⟩, hy⟩ := y
              simp only [In0.cells, CVal.cells, V.arg, V.k, V.i, V.t, V.s, V.l] at a0 a1 a2 a3 a4 b0 b1 b2 b3 b4 HC1 HWR HCE
              simp only [List.getElem?_cons_zero, List.getElem?_cons_succ, Nat.add_zero] at a0 a1 a2 a3 a4 b0 b1 b2 b3 b4
              have A0 := cell_grown (w := wr) (a := ⟨g, _, none⟩) hgw a0
              have A1 := cell_grown (w := wr) (a := ⟨g, _, none⟩) hgw a1
              have A2 := cell_grown (w := wr) (a := ⟨g, _, none⟩) hgw a2
              have A3 := cell_grown (w := wr) (a := ⟨g, _, none⟩) hgw a3
              have A4 := cell_grown (w := wr) (a := ⟨g, _, none⟩) hgw a4
              have B0 := cell_grown (w := wr) (a := ⟨g, _, none⟩) hgw b0
              have B1 := cell_grown (w := wr) (a := ⟨g, _, none⟩) hgw b1
              have B2 := cell_grown (w := wr) (a := ⟨g, _, none⟩) hgw b2
              have B3 := cell_grown (w := wr) (a := ⟨g, _, none⟩) hgw b3
              have B4 := cell_grown (w := wr) (a := ⟨g, _, none⟩) hgw b4
              clear a0 a1 a2 a3 a4 b0 b1 b2 b3 b4
              go_wp2_with fail
              go_quiet_grown (first | (go_at_fn fid; refine Calls.grown_of (HC1.out _ _)))
              have hS2 := HS.out.below (HG.out nq osq)
              clear A0 A1 A2 A3 A4 B0 B1 B2 B3 B4 HC1 HS HG
              generalize grow (wr.drewN nq) osq = w2 at hS2 ⊢
              have HTH := hide (HTT.out w2 hS2)
              have hkp := HWR.out w2 hS2
              rw [setCells5] at hkp
              have HKK := hide hkp
              have hgw2 : g < w2.heap.size := Nat.lt_of_lt_of_le hlt.2 hS2.grown.size
              have a0 := HCE.out w2 hS2 0 (by decide)
              have a1 := HCE.out w2 hS2 1 (by decide)
              have a2 := HCE.out w2 hS2 2 (by decide)
              have a3 := HCE.out w2 hS2 3 (by decide)
              have a4 := HCE.out w2 hS2 4 (by decide)
              simp only [List.getElem?_cons_zero, List.getElem?_cons_succ, Nat.add_zero] at a0 a1 a2 a3 a4
              rw [show (k + 2 + d) * 5 = (k + 1) * 5 + (d + 1) * 5 by omega] at a0 a1 a2 a3 a4
              obtain ⟨u0, s0⟩ := Option.isSome_iff_exists.1 (HTH.out 0 (by decide)).1
              have f0 := (HTH.out 0 (by decide)).2
              obtain ⟨u1, s1⟩ := Option.isSome_iff_exists.1 (HTH.out 1 (by decide)).1
              have f1 := (HTH.out 1 (by decide)).2
              obtain ⟨u2, s2⟩ := Option.isSome_iff_exists.1 (HTH.out 2 (by decide)).1
              have f2 := (HTH.out 2 (by decide)).2
              obtain ⟨u3, s3⟩ := Option.isSome_iff_exists.1 (HTH.out 3 (by decide)).1
              have f3 := (HTH.out 3 (by decide)).2
              obtain ⟨u4, s4⟩ := Option.isSome_iff_exists.1 (HTH.out 4 (by decide)).1
              have f4 := (HTH.out 4 (by decide)).2
              simp only [Nat.add_zero] at s0 f0
              have iI : (I : Int) < (zs.length : Int) := by omega
              clear hkp hS2 HTT HWR HCE HTH
              go_wp2
              go_roundw
              case rel => exact ⟨d + 1, by omega, by rw [hcn2]; omega, by rw [hcn2]; go_num, by go_num, hide (HKK.out.below (by repeat (first | with_reducible exact Below.refl _ _ | with_reducible refine bl_plus ?_ | with_reducible refine bl_alloc ?_ _ | with_reducible refine bl_drew ?_ | with_reducible refine bl_drewN ?_ _)))⟩
              case measure => simp [intOf]; omega
          · have hle9 : k + 2 + d = zs.length := by omega
            have hcz : cntZ zs (k + 2 + d) = cntZ zs zs.length := by rw [hle9]
            generalize cntZ zs (k + 2 + d) = I at *
            have i1 : ¬ (d : Int) + 1 < ((zs.length - (k + 1) : Nat) : Int) := by omega
            have hth := fun (q : Nat) (hq : q < zs.length * 5) => HS.out.there hq
            obtain ⟨vs, hvl, hcl⟩ := run_clear_vals wr g (I * 5) (zs.length - I) (c - I) (by omega) (fun j hj => (hth (I * 5 + j) (by omega)).1) (fun j hj => (hth (I * 5 + j) (by omega)).2)
            have HFIN := hide (HPO.out I (some ⟨g, 0, none⟩) c _ hcz (grownBy_trans HS.out.grown (grownBy_cells5 g vs (I * 5) wr)))
            have iI : (I : Int) ≤ (zs.length : Int) := by omega
            have iC : (zs.length : Int) ≤ (c : Int) := by omega
            clear hvl hth HS HC HPO hcz
            go_wp2
            exact HFIN.out
    · have hkl : k + 1 = zs.length := by omega
      have i1 : ¬ ((k : Int) + 1) < (zs.length : Int) := by omega
      rw [hkl] at hcn
      clear HC
      go_wp2
      exact HPO.out _ _ _ _ hcn.symm (grownBy_below HS.out.grown (by repeat (first | with_reducible exact Below.refl _ _ | with_reducible refine bl_plus ?_ | with_reducible refine bl_alloc ?_ _ | with_reducible refine bl_drew ?_ | with_reducible refine bl_drewN ?_ _)))

/-- .. at any length. -/
theorem compactV_any {w0 : World} (fid : FuncId) (hE : EqBy fid) (A : Option Addr) (c : Nat) (zs : List (In0 w0)) (N : Nat) (hN : zs.length = N) (W : World) (hsame : ∀ b, b < w0.heap.size → W.heap[b]? = w0.heap[b]?) (hW : w0.heap.size ≤ W.heap.size)
    (h : OwnK 5 24 W w0.heap.size (.slice A N c) N (flat0 zs)) (hlen : N ≤ 5000) :
    Calls Tryd.prog 20 #[.slice A N c, .func (.func fid) #[] #[]] W (CompOut (cntZ zs N) A W) := by
  subst hN
  by_cases h2 : 2 ≤ zs.length
  · obtain ⟨g, rfl⟩ : ∃ g, A = some ⟨g, 0, none⟩ := by
      obtain ⟨_, A', c', hv, _, _, h3⟩ := h
      injection hv with e1 e2 e3
      subst e1
      rcases h3 with ⟨_, h4, _⟩ | ⟨g, _, h4, _⟩
      · omega
      · exact ⟨g, h4⟩
    exact compactV_some fid hE g c zs W hsame hW h hlen h2
  · have hc : cntZ zs zs.length = zs.length := by
      have : zs.length = 0 ∨ zs.length = 1 := by omega
      rcases this with e | e <;> rw [e]
      · rfl
      · exact cntZ_one zs
    rw [hc]
    have hF : ∀ w', Below W.heap.size W w' → CompOut zs.length A W (.returned (.slice A zs.length c)) w' := fun w' hb => ⟨A, c, rfl, ⟨hb.os, hb.tape, hb.output, hb.size, fun b hb2 _ => hb.block b hb2⟩⟩
    have HF := hide hF
    have i1 : (zs.length : Int) < 2 := by omega
    clear hE h hF hc hsame hW hlen h2
    generalize CompOut zs.length A W = PO at *
    go_enter Tryd.func20, Tryd.ntmps20
    go_wp2
    exact HF.out _ (by repeat (first | with_reducible exact Below.refl _ _ | with_reducible refine bl_plus ?_ | with_reducible refine bl_alloc ?_ _ | with_reducible refine bl_drew ?_ | with_reducible refine bl_drewN ?_ _))

end Go.Proofs.YtfnooipkghfmoaaDoor
