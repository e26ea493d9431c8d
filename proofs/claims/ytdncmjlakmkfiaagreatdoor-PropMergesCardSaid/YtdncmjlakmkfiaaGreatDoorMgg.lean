/-
  WALK: what three values become, in the program.
-/
import Derived.Test.YtdncmjlakmkfiaaGreatDoorMgf
set_option linter.all false
namespace Go.Proofs.YtdncmjlakmkfiaaGreatDoor
open Go.RowKit

theorem res_cellM {P : Program} {fn : Func} {p u : Tmp} {ty : TypeId} (h : fn.results = #[.cell p ty, .tmp u]) (tmps : Array Value) (w : World) (g : Nat) (t : TypeId) (cs : Array Value) (fr : Nat × Nat) (d : TypeDesc)
    (hp : tmps.getD p undef = .pointer (some ⟨g, 0, none⟩)) (hg : w.heap[g]? = some (.cells cs t fr)) (hu : P.underlying ty = some d) (hd : (match d with | .struct _ | .array _ _ => true | _ => false) = true) (hi : (P.info? ty).map (·.size) = some cs.size) :
    (results fn tmps).run P w = .ok (.tuple #[.agg cs, tmps.getD u undef]) w := by
  rw [results_cell_tmp h, hp]
  simp [asAddr, Result.andThen, run_loadVar_row w g t ty cs fr d hg hu hd hi]

abbrev zValM : Array Value := #[.int .i64 0, .int .i64 0, .int .i64 0, .string ⟨#[]⟩, .slice none 0 0]

theorem fiveM_set {W : World} {g : Nat} {T : TypeId} {q0 q1 q2 q3 q4 v0 v1 v2 v3 v4 : Value} (h : Blk W g T #[q0, q1, q2, q3, q4]) : Blk (((((W.setCell ⟨g, 0, none⟩ v0).setCell ⟨g, 1, none⟩ v1).setCell ⟨g, 2, none⟩ v2).setCell ⟨g, 3, none⟩ v3).setCell ⟨g, 4, none⟩ v4) g T #[v0, v1, v2, v3, v4] := by
  have h1 : Blk (W.setCell ⟨g, 0, none⟩ v0) g T #[v0, q1, q2, q3, q4] := h.set_ 0 v0
  have h2 : Blk ((W.setCell ⟨g, 0, none⟩ v0).setCell ⟨g, 1, none⟩ v1) g T #[v0, v1, q2, q3, q4] := h1.set_ 1 v1
  have h3 : Blk (((W.setCell ⟨g, 0, none⟩ v0).setCell ⟨g, 1, none⟩ v1).setCell ⟨g, 2, none⟩ v2) g T #[v0, v1, v2, q3, q4] := h2.set_ 2 v2
  have h4 : Blk ((((W.setCell ⟨g, 0, none⟩ v0).setCell ⟨g, 1, none⟩ v1).setCell ⟨g, 2, none⟩ v2).setCell ⟨g, 3, none⟩ v3) g T #[v0, v1, v2, v3, q4] := h3.set_ 3 v3
  exact h4.set_ 4 v4

theorem fiveM_far {W : World} {g b : Nat} {v0 v1 v2 v3 v4 : Value} (h : b ≠ g) : (((((W.setCell ⟨g, 0, none⟩ v0).setCell ⟨g, 1, none⟩ v1).setCell ⟨g, 2, none⟩ v2).setCell ⟨g, 3, none⟩ v3).setCell ⟨g, 4, none⟩ v4).heap[b]? = W.heap[b]? := by
  have f : ∀ (W : World) (i : Nat) (v : Value), (W.setCell ⟨g, i, none⟩ v).heap[b]? = W.heap[b]? := fun W i v => Below.heap_setCell W _ v b h
  rw [f, f, f, f, f]

theorem fiveM_size {W : World} {g : Nat} {v0 v1 v2 v3 v4 : Value} : (((((W.setCell ⟨g, 0, none⟩ v0).setCell ⟨g, 1, none⟩ v1).setCell ⟨g, 2, none⟩ v2).setCell ⟨g, 3, none⟩ v3).setCell ⟨g, 4, none⟩ v4).heap.size = W.heap.size := by simp [World.setCell]

theorem fiveM_below {w W : World} {g : Nat} {v0 v1 v2 v3 v4 : Value} (h : Below w.heap.size w W) (hg : w.heap.size ≤ g) : Below w.heap.size w (((((W.setCell ⟨g, 0, none⟩ v0).setCell ⟨g, 1, none⟩ v1).setCell ⟨g, 2, none⟩ v2).setCell ⟨g, 3, none⟩ v3).setCell ⟨g, 4, none⟩ v4) :=
  h.trans ((((((Below.refl w.heap.size W).setCell (p := ⟨g, 0, none⟩) hg v0).setCell (p := ⟨g, 1, none⟩) hg v1).setCell (p := ⟨g, 2, none⟩) hg v2).setCell (p := ⟨g, 3, none⟩) hg v3).setCell (p := ⟨g, 4, none⟩) hg v4)

theorem fiveM_lat {w W : World} {g : Nat} {A : Option Addr} {l : List V} {v0 v1 v2 v3 v4 : Value} (h : LIn W (fun b => b < w.heap.size ∨ (g + 1 ≤ b ∧ b < W.heap.size)) A l) (hg : w.heap.size ≤ g) (hs : w.heap.size ≤ W.heap.size) : LAt (((((W.setCell ⟨g, 0, none⟩ v0).setCell ⟨g, 1, none⟩ v1).setCell ⟨g, 2, none⟩ v2).setCell ⟨g, 3, none⟩ v3).setCell ⟨g, 4, none⟩ v4) A l :=
  (h.frame fun b hb => fiveM_far (by omega)).at_ fun b hb => by rw [fiveM_size]; omega

theorem blkM_frozen {W : World} {g : Nat} {T : TypeId} (h : Blk W g T zValM) : W.frozen? ⟨g, 0, none⟩ = false ∧ W.frozen? ⟨g, 1, none⟩ = false ∧ W.frozen? ⟨g, 2, none⟩ = false ∧ W.frozen? ⟨g, 3, none⟩ = false ∧ W.frozen? ⟨g, 4, none⟩ = false ∧ g < W.heap.size ∧ W.cell? ⟨g, 0, none⟩ = some (.int .i64 0) ∧ W.cell? ⟨g, 1, none⟩ = some (.int .i64 0) ∧ W.cell? ⟨g, 2, none⟩ = some (.int .i64 0) ∧ W.cell? ⟨g, 3, none⟩ = some (.string ⟨#[]⟩) ∧ W.cell? ⟨g, 4, none⟩ = some (.slice none 0 0) :=
  ⟨h.frozen 0, h.frozen 1, h.frozen 2, h.frozen 3, h.frozen 4, h.lt, h.cell 0, h.cell 1, h.cell 2, h.cell 3, h.cell 4⟩

theorem boxV_of {w W : World} {y : V} {B : Option Addr} {d g : Nat} (hg : g = w.heap.size) (hb : Below (w.alloc (.cells #[.int .i64 y.k, .int .i64 y.i, .int .i64 y.t, .string y.s, .slice B y.l.length d] 24)).heap.size (w.alloc (.cells #[.int .i64 y.k, .int .i64 y.i, .int .i64 y.t, .string y.s, .slice B y.l.length d] 24)) W) : BoxV W g y B d := by
  subst hg
  exact (boxV_new w y B d).below hb

theorem blk_of {w W : World} {T : TypeId} {cs : Array Value} {g : Nat} (hg : g = w.heap.size) (hb : Below (w.alloc (.cells cs T)).heap.size (w.alloc (.cells cs T)) W) : Blk W g T cs := by
  subst hg
  exact (Blk.new w T cs).below hb (by rw [World.size_alloc]; exact Nat.lt_succ_self _)

/-- What the coming together of values hands out. -/
def MvOut (q : V × Bool) (w : World) (e : Ending) (w' : World) : Prop := ∃ A c, e = .returned (.tuple #[q.1.arg A c, .bool q.2]) ∧ LAt w' A q.1.l ∧ Below w.heap.size w w'

set_option maxHeartbeats 3200000 in
set_option maxRecDepth 100000 in
theorem listed_any (x : V) (A : Option Addr) (c : Nat) (w : World) :
    Calls Tryz.prog 79 #[x.arg A c] w fun e w' => e = .returned (.bool (listed x)) ∧ Below w.heap.size w w' := by
  obtain ⟨xk, xi, xt, xs, xl⟩ := x
  have HE := hide (show listed (.mk xk xi xt xs xl) = (xk == 0 || xk == 7) from rfl)
  generalize listed (.mk xk xi xt xs xl) = E at *
  simp only [V.arg, V.k, V.i, V.t, V.s, V.l] at *
  cases h0 : (xk == 0) with
  | true =>
    rw [h0, Bool.true_or] at HE
    go_enter Tryz.func79, Tryz.ntmps79
    go_wp2
    go_ret
    exact ⟨congrArg (fun b => Ending.returned (.bool b)) HE.out.symm, (by repeat (first | with_reducible exact Below.refl _ _ | with_reducible refine bl_plus ?_ | with_reducible refine bl_alloc ?_ _ | with_reducible refine bl_drew ?_ | with_reducible refine bl_drewN ?_ _))⟩
  | false =>
    rw [h0, Bool.false_or] at HE
    go_enter Tryz.func79, Tryz.ntmps79
    go_wp2
    go_ret
    exact ⟨congrArg (fun b => Ending.returned (.bool b)) HE.out.symm, (by repeat (first | with_reducible exact Below.refl _ _ | with_reducible refine bl_plus ?_ | with_reducible refine bl_alloc ?_ _ | with_reducible refine bl_drew ?_ | with_reducible refine bl_drewN ?_ _))⟩

set_option maxHeartbeats 3200000 in
set_option maxRecDepth 100000 in
theorem mergedValue_any (base a b : V) (A0 A1 A2 : Option Addr) (c0 c1 c2 : Nat) (w : World) (h0 : LAt w A0 base.l) (h1 : LAt w A1 a.l) (h2 : LAt w A2 b.l) (hn : base.l.length ≤ 20 ∧ a.l.length ≤ 20 ∧ b.l.length ≤ 20) :
    Calls Tryz.prog 39 #[base.arg A0 c0, a.arg A1 c1, b.arg A2 c2] w (MvOut (mValue base a b) w) := by
  have HL1 := hide h1
  have HL2 := hide h2
  have HS1 := hide (fun W (hb : Below w.heap.size w W) => same_any a base A1 A0 c1 c0 W (h1.below hb) (h0.below hb))
  have HS2 := hide (fun W (hb : Below w.heap.size w W) => same_any b base A2 A0 c2 c0 W (h2.below hb) (h0.below hb))
  have HS3 := hide (fun W (hb : Below w.heap.size w W) => same_any a b A1 A2 c1 c2 W (h1.below hb) (h2.below hb))
  have HK1 := hide (fun W (_ : Below w.heap.size w W) => listed_any base A0 c0 W)
  have HK2 := hide (fun W (_ : Below w.heap.size w W) => listed_any a A1 c1 W)
  have HK3 := hide (fun W (_ : Below w.heap.size w W) => listed_any b A2 c2 W)
  have HMI := hide (fun W (hb : Below w.heap.size w W) => mergedItems_any base.l a.l b.l A0 A1 A2 c0 c1 c2 w W hb h0 h1 h2 hn)
  have HXA := hide (fun W hb => boxV_of (w := (w.alloc (.cells #[.int .i64 base.k, .int .i64 base.i, .int .i64 base.t, .string base.s, .slice A0 base.l.length c0] 24))) (W := W) (y := a) (B := A1) (d := c1) (g := w.heap.size + 1) (by rw [World.size_alloc]) hb)
  have HXB := hide (fun W hb => boxV_of (w := ((w.alloc (.cells #[.int .i64 base.k, .int .i64 base.i, .int .i64 base.t, .string base.s, .slice A0 base.l.length c0] 24)).alloc (.cells #[.int .i64 a.k, .int .i64 a.i, .int .i64 a.t, .string a.s, .slice A1 a.l.length c1] 24))) (W := W) (y := b) (B := A2) (d := c2) (g := w.heap.size + 2) (by simp only [World.size_alloc]) hb)
  have HRES := hide (fun W hb => blk_of (w := (((w.alloc (.cells #[.int .i64 base.k, .int .i64 base.i, .int .i64 base.t, .string base.s, .slice A0 base.l.length c0] 24)).alloc (.cells #[.int .i64 a.k, .int .i64 a.i, .int .i64 a.t, .string a.s, .slice A1 a.l.length c1] 24)).alloc (.cells #[.int .i64 b.k, .int .i64 b.i, .int .i64 b.t, .string b.s, .slice A2 b.l.length c2] 24))) (W := W) (T := 24) (cs := zValM) (g := w.heap.size + 3) (by simp only [World.size_alloc]) hb)
  have ent : ∀ args w, (callFunc 79 args).run Tryz.prog w = .ok (.enter 79 args) w := fun args w => Go.Proofs.enters_of Tryz.func79 (by kernel_rfl) rfl args w
  have HN := hide hn
  generalize hR : mValue base a b = R
  unfold mValue at hR
  clear h0 h1 h2 hn
  unfold MiOut at HMI
  generalize eqv a base = e1 at *
  generalize eqv b base = e2 at *
  generalize eqv a b = e3 at *
  generalize listed base = l1 at *
  generalize listed a = l2 at *
  generalize listed b = l3 at *
  generalize mItems base.l a.l b.l = mi at *
  obtain ⟨ak, ai, at_, as_, al⟩ := a
  obtain ⟨bk, bi, bt, bs, bl⟩ := b
  obtain ⟨zk, zi, zt, zs, zl⟩ := base
  simp only [V.arg, V.k, V.i, V.t, V.s, V.l] at *
  have HR := hide hR
  clear hR
  cases e1 with
  | true =>
    obtain rfl : R = (.mk bk bi bt bs bl, false) := by rw [← HR.out]; rfl
    clear HR HMI
    go_enter Tryz.func39, Tryz.ntmps39
    go_wp2_with (first | (go_at_call 78; (with_reducible refine (HS1.out _ ?hbw).mono ?_); (case hbw => exact (by repeat (first | with_reducible exact Below.refl _ _ | with_reducible refine bl_plus ?_ | with_reducible refine bl_alloc ?_ _ | with_reducible refine bl_drew ?_ | with_reducible refine bl_drewN ?_ _))); rintro e w' ⟨rfl, hbl⟩; obtain ⟨os1, n1, rfl⟩ := below_plus hbl; clear hbl))
    go_returns
    exact ⟨A2, c2, rfl, (HL2.out.below (by repeat (first | with_reducible exact Below.refl _ _ | with_reducible refine bl_plus ?_ | with_reducible refine bl_alloc ?_ _ | with_reducible refine bl_drew ?_ | with_reducible refine bl_drewN ?_ _))), (by repeat (first | with_reducible exact Below.refl _ _ | with_reducible refine bl_plus ?_ | with_reducible refine bl_alloc ?_ _ | with_reducible refine bl_drew ?_ | with_reducible refine bl_drewN ?_ _))⟩
  | false =>
    cases e2 with
    | true =>
      obtain rfl : R = (.mk ak ai at_ as_ al, false) := by rw [← HR.out]; rfl
      clear HR HMI
      go_enter Tryz.func39, Tryz.ntmps39
      go_wp2_with (first | (go_at_call 78; (with_reducible refine (HS1.out _ ?hbw).mono ?_); (case hbw => exact (by repeat (first | with_reducible exact Below.refl _ _ | with_reducible refine bl_plus ?_ | with_reducible refine bl_alloc ?_ _ | with_reducible refine bl_drew ?_ | with_reducible refine bl_drewN ?_ _))); rintro e w' ⟨rfl, hbl⟩; obtain ⟨os1, n1, rfl⟩ := below_plus hbl; clear hbl) | (go_at_call 78; (with_reducible refine (HS2.out _ ?hbw).mono ?_); (case hbw => exact (by repeat (first | with_reducible exact Below.refl _ _ | with_reducible refine bl_plus ?_ | with_reducible refine bl_alloc ?_ _ | with_reducible refine bl_drew ?_ | with_reducible refine bl_drewN ?_ _))); rintro e w' ⟨rfl, hbl⟩; obtain ⟨os2, n2, rfl⟩ := below_plus hbl; clear hbl))
      go_returns
      exact ⟨A1, c1, rfl, (HL1.out.below (by repeat (first | with_reducible exact Below.refl _ _ | with_reducible refine bl_plus ?_ | with_reducible refine bl_alloc ?_ _ | with_reducible refine bl_drew ?_ | with_reducible refine bl_drewN ?_ _))), (by repeat (first | with_reducible exact Below.refl _ _ | with_reducible refine bl_plus ?_ | with_reducible refine bl_alloc ?_ _ | with_reducible refine bl_drew ?_ | with_reducible refine bl_drewN ?_ _))⟩
    | false =>
      cases e3 with
      | true =>
        obtain rfl : R = (.mk ak ai at_ as_ al, false) := by rw [← HR.out]; rfl
        clear HR HMI
        go_enter Tryz.func39, Tryz.ntmps39
        go_wp2_with (first | (go_at_call 78; (with_reducible refine (HS1.out _ ?hbw).mono ?_); (case hbw => exact (by repeat (first | with_reducible exact Below.refl _ _ | with_reducible refine bl_plus ?_ | with_reducible refine bl_alloc ?_ _ | with_reducible refine bl_drew ?_ | with_reducible refine bl_drewN ?_ _))); rintro e w' ⟨rfl, hbl⟩; obtain ⟨os1, n1, rfl⟩ := below_plus hbl; clear hbl) | (go_at_call 78; (with_reducible refine (HS2.out _ ?hbw).mono ?_); (case hbw => exact (by repeat (first | with_reducible exact Below.refl _ _ | with_reducible refine bl_plus ?_ | with_reducible refine bl_alloc ?_ _ | with_reducible refine bl_drew ?_ | with_reducible refine bl_drewN ?_ _))); rintro e w' ⟨rfl, hbl⟩; obtain ⟨os2, n2, rfl⟩ := below_plus hbl; clear hbl) | (go_at_call 78; (with_reducible refine (HS3.out _ ?hbw).mono ?_); (case hbw => exact (by repeat (first | with_reducible exact Below.refl _ _ | with_reducible refine bl_plus ?_ | with_reducible refine bl_alloc ?_ _ | with_reducible refine bl_drew ?_ | with_reducible refine bl_drewN ?_ _))); rintro e w' ⟨rfl, hbl⟩; obtain ⟨os3, n3, rfl⟩ := below_plus hbl; clear hbl))
        go_returns
        exact ⟨A1, c1, rfl, (HL1.out.below (by repeat (first | with_reducible exact Below.refl _ _ | with_reducible refine bl_plus ?_ | with_reducible refine bl_alloc ?_ _ | with_reducible refine bl_drew ?_ | with_reducible refine bl_drewN ?_ _))), (by repeat (first | with_reducible exact Below.refl _ _ | with_reducible refine bl_plus ?_ | with_reducible refine bl_alloc ?_ _ | with_reducible refine bl_drew ?_ | with_reducible refine bl_drewN ?_ _))⟩
      | false =>
        have HR := hide (show (if (l1 && l2 && l3) = true ∧ mi.length ≤ 20 then ((.mk 7 0 0 ⟨#[]⟩ mi : V), false) else if ak ≠ 0 then (.mk ak ai at_ as_ al, true) else (.mk bk bi bt bs bl, true)) = R by rw [← HR.out]; rfl)
        cases l1 with
        | false =>
          have HN9 := hide (show ¬ ((false && l2 && l3) = true ∧ mi.length ≤ 20) by simp)
          clear HMI
          go_enter Tryz.func39, Tryz.ntmps39
          cases hk : (ak != 0) with
          | true =>
            obtain rfl : R = (.mk ak ai at_ as_ al, true) := by rw [← HR.out, if_neg HN9.out, if_pos (by simpa using hk)]
            clear HR
            go_wp2_with (first | (go_at_call 78; (with_reducible refine (HS1.out _ ?hbw).mono ?_); (case hbw => exact (by repeat (first | with_reducible exact Below.refl _ _ | with_reducible refine bl_plus ?_ | with_reducible refine bl_alloc ?_ _ | with_reducible refine bl_drew ?_ | with_reducible refine bl_drewN ?_ _))); rintro e w' ⟨rfl, hbl⟩; obtain ⟨os1, n1, rfl⟩ := below_plus hbl; clear hbl) | (go_at_call 78; (with_reducible refine (HS2.out _ ?hbw).mono ?_); (case hbw => exact (by repeat (first | with_reducible exact Below.refl _ _ | with_reducible refine bl_plus ?_ | with_reducible refine bl_alloc ?_ _ | with_reducible refine bl_drew ?_ | with_reducible refine bl_drewN ?_ _))); rintro e w' ⟨rfl, hbl⟩; obtain ⟨os2, n2, rfl⟩ := below_plus hbl; clear hbl) | (go_at_call 78; (with_reducible refine (HS3.out _ ?hbw).mono ?_); (case hbw => exact (by repeat (first | with_reducible exact Below.refl _ _ | with_reducible refine bl_plus ?_ | with_reducible refine bl_alloc ?_ _ | with_reducible refine bl_drew ?_ | with_reducible refine bl_drewN ?_ _))); rintro e w' ⟨rfl, hbl⟩; obtain ⟨os3, n3, rfl⟩ := below_plus hbl; clear hbl) | (go_at_fn 79; (with_reducible refine (HK1.out _ ?hbw).mono ?_); (case hbw => exact (by repeat (first | with_reducible exact Below.refl _ _ | with_reducible refine bl_plus ?_ | with_reducible refine bl_alloc ?_ _ | with_reducible refine bl_drew ?_ | with_reducible refine bl_drewN ?_ _))); rintro e w' ⟨rfl, hbl⟩; obtain ⟨ot1, k1, rfl⟩ := below_plus hbl; clear hbl))
            go_returns
            exact ⟨A1, c1, rfl, (HL1.out.below (by repeat (first | with_reducible exact Below.refl _ _ | with_reducible refine bl_plus ?_ | with_reducible refine bl_alloc ?_ _ | with_reducible refine bl_drew ?_ | with_reducible refine bl_drewN ?_ _))), (by repeat (first | with_reducible exact Below.refl _ _ | with_reducible refine bl_plus ?_ | with_reducible refine bl_alloc ?_ _ | with_reducible refine bl_drew ?_ | with_reducible refine bl_drewN ?_ _))⟩
          | false =>
            obtain rfl : R = (.mk bk bi bt bs bl, true) := by rw [← HR.out, if_neg HN9.out, if_neg (by simpa using hk)]
            clear HR
            go_wp2_with (first | (go_at_call 78; (with_reducible refine (HS1.out _ ?hbw).mono ?_); (case hbw => exact (by repeat (first | with_reducible exact Below.refl _ _ | with_reducible refine bl_plus ?_ | with_reducible refine bl_alloc ?_ _ | with_reducible refine bl_drew ?_ | with_reducible refine bl_drewN ?_ _))); rintro e w' ⟨rfl, hbl⟩; obtain ⟨os1, n1, rfl⟩ := below_plus hbl; clear hbl) | (go_at_call 78; (with_reducible refine (HS2.out _ ?hbw).mono ?_); (case hbw => exact (by repeat (first | with_reducible exact Below.refl _ _ | with_reducible refine bl_plus ?_ | with_reducible refine bl_alloc ?_ _ | with_reducible refine bl_drew ?_ | with_reducible refine bl_drewN ?_ _))); rintro e w' ⟨rfl, hbl⟩; obtain ⟨os2, n2, rfl⟩ := below_plus hbl; clear hbl) | (go_at_call 78; (with_reducible refine (HS3.out _ ?hbw).mono ?_); (case hbw => exact (by repeat (first | with_reducible exact Below.refl _ _ | with_reducible refine bl_plus ?_ | with_reducible refine bl_alloc ?_ _ | with_reducible refine bl_drew ?_ | with_reducible refine bl_drewN ?_ _))); rintro e w' ⟨rfl, hbl⟩; obtain ⟨os3, n3, rfl⟩ := below_plus hbl; clear hbl) | (go_at_fn 79; (with_reducible refine (HK1.out _ ?hbw).mono ?_); (case hbw => exact (by repeat (first | with_reducible exact Below.refl _ _ | with_reducible refine bl_plus ?_ | with_reducible refine bl_alloc ?_ _ | with_reducible refine bl_drew ?_ | with_reducible refine bl_drewN ?_ _))); rintro e w' ⟨rfl, hbl⟩; obtain ⟨ot1, k1, rfl⟩ := below_plus hbl; clear hbl))
            go_returns
            exact ⟨A2, c2, rfl, (HL2.out.below (by repeat (first | with_reducible exact Below.refl _ _ | with_reducible refine bl_plus ?_ | with_reducible refine bl_alloc ?_ _ | with_reducible refine bl_drew ?_ | with_reducible refine bl_drewN ?_ _))), (by repeat (first | with_reducible exact Below.refl _ _ | with_reducible refine bl_plus ?_ | with_reducible refine bl_alloc ?_ _ | with_reducible refine bl_drew ?_ | with_reducible refine bl_drewN ?_ _))⟩
        | true =>
          cases l2 with
          | false =>
            have HN9 := hide (show ¬ ((true && false && l3) = true ∧ mi.length ≤ 20) by simp)
            clear HMI
            go_enter Tryz.func39, Tryz.ntmps39
            cases hk : (ak != 0) with
            | true =>
              obtain rfl : R = (.mk ak ai at_ as_ al, true) := by rw [← HR.out, if_neg HN9.out, if_pos (by simpa using hk)]
              clear HR
              go_wp2_with (first | (go_at_call 78; (with_reducible refine (HS1.out _ ?hbw).mono ?_); (case hbw => exact (by repeat (first | with_reducible exact Below.refl _ _ | with_reducible refine bl_plus ?_ | with_reducible refine bl_alloc ?_ _ | with_reducible refine bl_drew ?_ | with_reducible refine bl_drewN ?_ _))); rintro e w' ⟨rfl, hbl⟩; obtain ⟨os1, n1, rfl⟩ := below_plus hbl; clear hbl) | (go_at_call 78; (with_reducible refine (HS2.out _ ?hbw).mono ?_); (case hbw => exact (by repeat (first | with_reducible exact Below.refl _ _ | with_reducible refine bl_plus ?_ | with_reducible refine bl_alloc ?_ _ | with_reducible refine bl_drew ?_ | with_reducible refine bl_drewN ?_ _))); rintro e w' ⟨rfl, hbl⟩; obtain ⟨os2, n2, rfl⟩ := below_plus hbl; clear hbl) | (go_at_call 78; (with_reducible refine (HS3.out _ ?hbw).mono ?_); (case hbw => exact (by repeat (first | with_reducible exact Below.refl _ _ | with_reducible refine bl_plus ?_ | with_reducible refine bl_alloc ?_ _ | with_reducible refine bl_drew ?_ | with_reducible refine bl_drewN ?_ _))); rintro e w' ⟨rfl, hbl⟩; obtain ⟨os3, n3, rfl⟩ := below_plus hbl; clear hbl) | (go_at_fn 79; (with_reducible refine (HK1.out _ ?hbw).mono ?_); (case hbw => exact (by repeat (first | with_reducible exact Below.refl _ _ | with_reducible refine bl_plus ?_ | with_reducible refine bl_alloc ?_ _ | with_reducible refine bl_drew ?_ | with_reducible refine bl_drewN ?_ _))); rintro e w' ⟨rfl, hbl⟩; obtain ⟨ot1, k1, rfl⟩ := below_plus hbl; clear hbl) | (go_at_fn 79; (with_reducible refine (HK2.out _ ?hbw).mono ?_); (case hbw => exact (by repeat (first | with_reducible exact Below.refl _ _ | with_reducible refine bl_plus ?_ | with_reducible refine bl_alloc ?_ _ | with_reducible refine bl_drew ?_ | with_reducible refine bl_drewN ?_ _))); rintro e w' ⟨rfl, hbl⟩; obtain ⟨ot2, k2, rfl⟩ := below_plus hbl; clear hbl))
              go_returns
              exact ⟨A1, c1, rfl, (HL1.out.below (by repeat (first | with_reducible exact Below.refl _ _ | with_reducible refine bl_plus ?_ | with_reducible refine bl_alloc ?_ _ | with_reducible refine bl_drew ?_ | with_reducible refine bl_drewN ?_ _))), (by repeat (first | with_reducible exact Below.refl _ _ | with_reducible refine bl_plus ?_ | with_reducible refine bl_alloc ?_ _ | with_reducible refine bl_drew ?_ | with_reducible refine bl_drewN ?_ _))⟩
            | false =>
              obtain rfl : R = (.mk bk bi bt bs bl, true) := by rw [← HR.out, if_neg HN9.out, if_neg (by simpa using hk)]
              clear HR
              go_wp2_with (first | (go_at_call 78; (with_reducible refine (HS1.out _ ?hbw).mono ?_); (case hbw => exact (by repeat (first | with_reducible exact Below.refl _ _ | with_reducible refine bl_plus ?_ | with_reducible refine bl_alloc ?_ _ | with_reducible refine bl_drew ?_ | with_reducible refine bl_drewN ?_ _))); rintro e w' ⟨rfl, hbl⟩; obtain ⟨os1, n1, rfl⟩ := below_plus hbl; clear hbl) | (go_at_call 78; (with_reducible refine (HS2.out _ ?hbw).mono ?_); (case hbw => exact (by repeat (first | with_reducible exact Below.refl _ _ | with_reducible refine bl_plus ?_ | with_reducible refine bl_alloc ?_ _ | with_reducible refine bl_drew ?_ | with_reducible refine bl_drewN ?_ _))); rintro e w' ⟨rfl, hbl⟩; obtain ⟨os2, n2, rfl⟩ := below_plus hbl; clear hbl) | (go_at_call 78; (with_reducible refine (HS3.out _ ?hbw).mono ?_); (case hbw => exact (by repeat (first | with_reducible exact Below.refl _ _ | with_reducible refine bl_plus ?_ | with_reducible refine bl_alloc ?_ _ | with_reducible refine bl_drew ?_ | with_reducible refine bl_drewN ?_ _))); rintro e w' ⟨rfl, hbl⟩; obtain ⟨os3, n3, rfl⟩ := below_plus hbl; clear hbl) | (go_at_fn 79; (with_reducible refine (HK1.out _ ?hbw).mono ?_); (case hbw => exact (by repeat (first | with_reducible exact Below.refl _ _ | with_reducible refine bl_plus ?_ | with_reducible refine bl_alloc ?_ _ | with_reducible refine bl_drew ?_ | with_reducible refine bl_drewN ?_ _))); rintro e w' ⟨rfl, hbl⟩; obtain ⟨ot1, k1, rfl⟩ := below_plus hbl; clear hbl) | (go_at_fn 79; (with_reducible refine (HK2.out _ ?hbw).mono ?_); (case hbw => exact (by repeat (first | with_reducible exact Below.refl _ _ | with_reducible refine bl_plus ?_ | with_reducible refine bl_alloc ?_ _ | with_reducible refine bl_drew ?_ | with_reducible refine bl_drewN ?_ _))); rintro e w' ⟨rfl, hbl⟩; obtain ⟨ot2, k2, rfl⟩ := below_plus hbl; clear hbl))
              go_returns
              exact ⟨A2, c2, rfl, (HL2.out.below (by repeat (first | with_reducible exact Below.refl _ _ | with_reducible refine bl_plus ?_ | with_reducible refine bl_alloc ?_ _ | with_reducible refine bl_drew ?_ | with_reducible refine bl_drewN ?_ _))), (by repeat (first | with_reducible exact Below.refl _ _ | with_reducible refine bl_plus ?_ | with_reducible refine bl_alloc ?_ _ | with_reducible refine bl_drew ?_ | with_reducible refine bl_drewN ?_ _))⟩
          | true =>
            cases l3 with
            | false =>
              have HN9 := hide (show ¬ ((true && true && false) = true ∧ mi.length ≤ 20) by simp)
              clear HMI
              go_enter Tryz.func39, Tryz.ntmps39
              cases hk : (ak != 0) with
              | true =>
                obtain rfl : R = (.mk ak ai at_ as_ al, true) := by rw [← HR.out, if_neg HN9.out, if_pos (by simpa using hk)]
                clear HR
                go_wp2_with (first | (go_at_call 78; (with_reducible refine (HS1.out _ ?hbw).mono ?_); (case hbw => exact (by repeat (first | with_reducible exact Below.refl _ _ | with_reducible refine bl_plus ?_ | with_reducible refine bl_alloc ?_ _ | with_reducible refine bl_drew ?_ | with_reducible refine bl_drewN ?_ _))); rintro e w' ⟨rfl, hbl⟩; obtain ⟨os1, n1, rfl⟩ := below_plus hbl; clear hbl) | (go_at_call 78; (with_reducible refine (HS2.out _ ?hbw).mono ?_); (case hbw => exact (by repeat (first | with_reducible exact Below.refl _ _ | with_reducible refine bl_plus ?_ | with_reducible refine bl_alloc ?_ _ | with_reducible refine bl_drew ?_ | with_reducible refine bl_drewN ?_ _))); rintro e w' ⟨rfl, hbl⟩; obtain ⟨os2, n2, rfl⟩ := below_plus hbl; clear hbl) | (go_at_call 78; (with_reducible refine (HS3.out _ ?hbw).mono ?_); (case hbw => exact (by repeat (first | with_reducible exact Below.refl _ _ | with_reducible refine bl_plus ?_ | with_reducible refine bl_alloc ?_ _ | with_reducible refine bl_drew ?_ | with_reducible refine bl_drewN ?_ _))); rintro e w' ⟨rfl, hbl⟩; obtain ⟨os3, n3, rfl⟩ := below_plus hbl; clear hbl) | (go_at_fn 79; (with_reducible refine (HK1.out _ ?hbw).mono ?_); (case hbw => exact (by repeat (first | with_reducible exact Below.refl _ _ | with_reducible refine bl_plus ?_ | with_reducible refine bl_alloc ?_ _ | with_reducible refine bl_drew ?_ | with_reducible refine bl_drewN ?_ _))); rintro e w' ⟨rfl, hbl⟩; obtain ⟨ot1, k1, rfl⟩ := below_plus hbl; clear hbl) | (go_at_fn 79; (with_reducible refine (HK2.out _ ?hbw).mono ?_); (case hbw => exact (by repeat (first | with_reducible exact Below.refl _ _ | with_reducible refine bl_plus ?_ | with_reducible refine bl_alloc ?_ _ | with_reducible refine bl_drew ?_ | with_reducible refine bl_drewN ?_ _))); rintro e w' ⟨rfl, hbl⟩; obtain ⟨ot2, k2, rfl⟩ := below_plus hbl; clear hbl) | (go_at_fn 79; (with_reducible refine (HK3.out _ ?hbw).mono ?_); (case hbw => exact (by repeat (first | with_reducible exact Below.refl _ _ | with_reducible refine bl_plus ?_ | with_reducible refine bl_alloc ?_ _ | with_reducible refine bl_drew ?_ | with_reducible refine bl_drewN ?_ _))); rintro e w' ⟨rfl, hbl⟩; obtain ⟨ot3, k3, rfl⟩ := below_plus hbl; clear hbl))
                go_returns
                exact ⟨A1, c1, rfl, (HL1.out.below (by repeat (first | with_reducible exact Below.refl _ _ | with_reducible refine bl_plus ?_ | with_reducible refine bl_alloc ?_ _ | with_reducible refine bl_drew ?_ | with_reducible refine bl_drewN ?_ _))), (by repeat (first | with_reducible exact Below.refl _ _ | with_reducible refine bl_plus ?_ | with_reducible refine bl_alloc ?_ _ | with_reducible refine bl_drew ?_ | with_reducible refine bl_drewN ?_ _))⟩
              | false =>
                obtain rfl : R = (.mk bk bi bt bs bl, true) := by rw [← HR.out, if_neg HN9.out, if_neg (by simpa using hk)]
                clear HR
                go_wp2_with (first | (go_at_call 78; (with_reducible refine (HS1.out _ ?hbw).mono ?_); (case hbw => exact (by repeat (first | with_reducible exact Below.refl _ _ | with_reducible refine bl_plus ?_ | with_reducible refine bl_alloc ?_ _ | with_reducible refine bl_drew ?_ | with_reducible refine bl_drewN ?_ _))); rintro e w' ⟨rfl, hbl⟩; obtain ⟨os1, n1, rfl⟩ := below_plus hbl; clear hbl) | (go_at_call 78; (with_reducible refine (HS2.out _ ?hbw).mono ?_); (case hbw => exact (by repeat (first | with_reducible exact Below.refl _ _ | with_reducible refine bl_plus ?_ | with_reducible refine bl_alloc ?_ _ | with_reducible refine bl_drew ?_ | with_reducible refine bl_drewN ?_ _))); rintro e w' ⟨rfl, hbl⟩; obtain ⟨os2, n2, rfl⟩ := below_plus hbl; clear hbl) | (go_at_call 78; (with_reducible refine (HS3.out _ ?hbw).mono ?_); (case hbw => exact (by repeat (first | with_reducible exact Below.refl _ _ | with_reducible refine bl_plus ?_ | with_reducible refine bl_alloc ?_ _ | with_reducible refine bl_drew ?_ | with_reducible refine bl_drewN ?_ _))); rintro e w' ⟨rfl, hbl⟩; obtain ⟨os3, n3, rfl⟩ := below_plus hbl; clear hbl) | (go_at_fn 79; (with_reducible refine (HK1.out _ ?hbw).mono ?_); (case hbw => exact (by repeat (first | with_reducible exact Below.refl _ _ | with_reducible refine bl_plus ?_ | with_reducible refine bl_alloc ?_ _ | with_reducible refine bl_drew ?_ | with_reducible refine bl_drewN ?_ _))); rintro e w' ⟨rfl, hbl⟩; obtain ⟨ot1, k1, rfl⟩ := below_plus hbl; clear hbl) | (go_at_fn 79; (with_reducible refine (HK2.out _ ?hbw).mono ?_); (case hbw => exact (by repeat (first | with_reducible exact Below.refl _ _ | with_reducible refine bl_plus ?_ | with_reducible refine bl_alloc ?_ _ | with_reducible refine bl_drew ?_ | with_reducible refine bl_drewN ?_ _))); rintro e w' ⟨rfl, hbl⟩; obtain ⟨ot2, k2, rfl⟩ := below_plus hbl; clear hbl) | (go_at_fn 79; (with_reducible refine (HK3.out _ ?hbw).mono ?_); (case hbw => exact (by repeat (first | with_reducible exact Below.refl _ _ | with_reducible refine bl_plus ?_ | with_reducible refine bl_alloc ?_ _ | with_reducible refine bl_drew ?_ | with_reducible refine bl_drewN ?_ _))); rintro e w' ⟨rfl, hbl⟩; obtain ⟨ot3, k3, rfl⟩ := below_plus hbl; clear hbl))
                go_returns
                exact ⟨A2, c2, rfl, (HL2.out.below (by repeat (first | with_reducible exact Below.refl _ _ | with_reducible refine bl_plus ?_ | with_reducible refine bl_alloc ?_ _ | with_reducible refine bl_drew ?_ | with_reducible refine bl_drewN ?_ _))), (by repeat (first | with_reducible exact Below.refl _ _ | with_reducible refine bl_plus ?_ | with_reducible refine bl_alloc ?_ _ | with_reducible refine bl_drew ?_ | with_reducible refine bl_drewN ?_ _))⟩
            | true =>
              by_cases hlen : mi.length ≤ 20
              · obtain rfl : R = (.mk 7 0 0 ⟨#[]⟩ mi, false) := HR.out.symm.trans (if_pos ⟨rfl, hlen⟩)
                have hle : (mi.length : Int) ≤ 20 := by omega
                clear HR hlen
                go_enter Tryz.func39, Tryz.ntmps39
                go_upto_region 9 with (first | (go_at_call 78; (with_reducible refine (HS1.out _ ?hbw).mono ?_); (case hbw => exact (by repeat (first | with_reducible exact Below.refl _ _ | with_reducible refine bl_plus ?_ | with_reducible refine bl_alloc ?_ _ | with_reducible refine bl_drew ?_ | with_reducible refine bl_drewN ?_ _))); rintro e w' ⟨rfl, hbl⟩; obtain ⟨os1, n1, rfl⟩ := below_plus hbl; clear hbl) | (go_at_call 78; (with_reducible refine (HS2.out _ ?hbw).mono ?_); (case hbw => exact (by repeat (first | with_reducible exact Below.refl _ _ | with_reducible refine bl_plus ?_ | with_reducible refine bl_alloc ?_ _ | with_reducible refine bl_drew ?_ | with_reducible refine bl_drewN ?_ _))); rintro e w' ⟨rfl, hbl⟩; obtain ⟨os2, n2, rfl⟩ := below_plus hbl; clear hbl) | (go_at_call 78; (with_reducible refine (HS3.out _ ?hbw).mono ?_); (case hbw => exact (by repeat (first | with_reducible exact Below.refl _ _ | with_reducible refine bl_plus ?_ | with_reducible refine bl_alloc ?_ _ | with_reducible refine bl_drew ?_ | with_reducible refine bl_drewN ?_ _))); rintro e w' ⟨rfl, hbl⟩; obtain ⟨os3, n3, rfl⟩ := below_plus hbl; clear hbl) | (go_at_fn 79; (with_reducible refine (HK1.out _ ?hbw).mono ?_); (case hbw => exact (by repeat (first | with_reducible exact Below.refl _ _ | with_reducible refine bl_plus ?_ | with_reducible refine bl_alloc ?_ _ | with_reducible refine bl_drew ?_ | with_reducible refine bl_drewN ?_ _))); rintro e w' ⟨rfl, hbl⟩; obtain ⟨ot1, k1, rfl⟩ := below_plus hbl; clear hbl) | (go_at_fn 79; (with_reducible refine (HK2.out _ ?hbw).mono ?_); (case hbw => exact (by repeat (first | with_reducible exact Below.refl _ _ | with_reducible refine bl_plus ?_ | with_reducible refine bl_alloc ?_ _ | with_reducible refine bl_drew ?_ | with_reducible refine bl_drewN ?_ _))); rintro e w' ⟨rfl, hbl⟩; obtain ⟨ot2, k2, rfl⟩ := below_plus hbl; clear hbl) | (go_at_fn 79; (with_reducible refine (HK3.out _ ?hbw).mono ?_); (case hbw => exact (by repeat (first | with_reducible exact Below.refl _ _ | with_reducible refine bl_plus ?_ | with_reducible refine bl_alloc ?_ _ | with_reducible refine bl_drew ?_ | with_reducible refine bl_drewN ?_ _))); rintro e w' ⟨rfl, hbl⟩; obtain ⟨ot3, k3, rfl⟩ := below_plus hbl; clear hbl) | (go_at_call 80; (refine (HMI.out _ (by repeat (first | with_reducible exact Below.refl _ _ | with_reducible refine bl_plus ?_ | with_reducible refine bl_alloc ?_ _ | with_reducible refine bl_drew ?_ | with_reducible refine bl_drewN ?_ _))).mono ?_); rintro e W9 ⟨A9, c9, rfl, hl9, hbl⟩; have HL9 := hide (hl9.mono (fun b hb => (show b < w.heap.size ∨ w.heap.size + 4 ≤ b ∧ b < W9.heap.size from hb.imp id (fun h => ⟨Nat.le_trans (by simp only [plus_size, World.size_alloc]; omega) h.1, h.2⟩)))); have HB9 := hide (below_chain (w := w) (by repeat (first | with_reducible exact Below.refl _ _ | with_reducible refine bl_plus ?_ | with_reducible refine bl_alloc ?_ _ | with_reducible refine bl_drew ?_ | with_reducible refine bl_drewN ?_ _)) hbl); have HRB := hide (HRES.out _ (below_chain (by repeat (first | with_reducible exact Below.refl _ _ | with_reducible refine bl_plus ?_ | with_reducible refine bl_alloc ?_ _ | with_reducible refine bl_drew ?_ | with_reducible refine bl_drewN ?_ _)) hbl)); have HA9 := hide (HXA.out _ (below_chain (by repeat (first | with_reducible exact Below.refl _ _ | with_reducible refine bl_plus ?_ | with_reducible refine bl_alloc ?_ _ | with_reducible refine bl_drew ?_ | with_reducible refine bl_drewN ?_ _)) hbl)); have HC9 := hide (HXB.out _ (below_chain (by repeat (first | with_reducible exact Below.refl _ _ | with_reducible refine bl_plus ?_ | with_reducible refine bl_alloc ?_ _ | with_reducible refine bl_drew ?_ | with_reducible refine bl_drewN ?_ _)) hbl)); clear hbl hl9))
                obtain ⟨s0, s1, s2, s3, s4, hrl, r0, r1, r2, r3, r4⟩ := blkM_frozen HRB.out
                clear HXA HXB HRES HS1 HS2 HS3 HK1 HK2 HK3 HMI
                go_wp2
                refine bodyPost_ret (res_cellM (P := Tryz.prog) (fn := Tryz.f39) (p := 6) (u := 7) rfl _ _ _ 24 #[.int .i64 7, .int .i64 0, .int .i64 0, .string ⟨#[]⟩, .slice A9 mi.length c9] (0, 0) _ rfl (fiveM_set HRB.out) Tryz.underlying24 rfl (by kernel_rfl)) rfl ?_
                exact ⟨A9, c9, rfl, fiveM_lat HL9.out (by omega) HB9.out.size, fiveM_below HB9.out (by omega)⟩
              · have HN9 := hide (show ¬ ((true && true && true) = true ∧ mi.length ≤ 20) by simp; omega)
                have hle : ¬ (mi.length : Int) ≤ 20 := by omega
                clear hlen
                go_enter Tryz.func39, Tryz.ntmps39
                go_upto_region 10 with (first | (go_at_call 78; (with_reducible refine (HS1.out _ ?hbw).mono ?_); (case hbw => exact (by repeat (first | with_reducible exact Below.refl _ _ | with_reducible refine bl_plus ?_ | with_reducible refine bl_alloc ?_ _ | with_reducible refine bl_drew ?_ | with_reducible refine bl_drewN ?_ _))); rintro e w' ⟨rfl, hbl⟩; obtain ⟨os1, n1, rfl⟩ := below_plus hbl; clear hbl) | (go_at_call 78; (with_reducible refine (HS2.out _ ?hbw).mono ?_); (case hbw => exact (by repeat (first | with_reducible exact Below.refl _ _ | with_reducible refine bl_plus ?_ | with_reducible refine bl_alloc ?_ _ | with_reducible refine bl_drew ?_ | with_reducible refine bl_drewN ?_ _))); rintro e w' ⟨rfl, hbl⟩; obtain ⟨os2, n2, rfl⟩ := below_plus hbl; clear hbl) | (go_at_call 78; (with_reducible refine (HS3.out _ ?hbw).mono ?_); (case hbw => exact (by repeat (first | with_reducible exact Below.refl _ _ | with_reducible refine bl_plus ?_ | with_reducible refine bl_alloc ?_ _ | with_reducible refine bl_drew ?_ | with_reducible refine bl_drewN ?_ _))); rintro e w' ⟨rfl, hbl⟩; obtain ⟨os3, n3, rfl⟩ := below_plus hbl; clear hbl) | (go_at_fn 79; (with_reducible refine (HK1.out _ ?hbw).mono ?_); (case hbw => exact (by repeat (first | with_reducible exact Below.refl _ _ | with_reducible refine bl_plus ?_ | with_reducible refine bl_alloc ?_ _ | with_reducible refine bl_drew ?_ | with_reducible refine bl_drewN ?_ _))); rintro e w' ⟨rfl, hbl⟩; obtain ⟨ot1, k1, rfl⟩ := below_plus hbl; clear hbl) | (go_at_fn 79; (with_reducible refine (HK2.out _ ?hbw).mono ?_); (case hbw => exact (by repeat (first | with_reducible exact Below.refl _ _ | with_reducible refine bl_plus ?_ | with_reducible refine bl_alloc ?_ _ | with_reducible refine bl_drew ?_ | with_reducible refine bl_drewN ?_ _))); rintro e w' ⟨rfl, hbl⟩; obtain ⟨ot2, k2, rfl⟩ := below_plus hbl; clear hbl) | (go_at_fn 79; (with_reducible refine (HK3.out _ ?hbw).mono ?_); (case hbw => exact (by repeat (first | with_reducible exact Below.refl _ _ | with_reducible refine bl_plus ?_ | with_reducible refine bl_alloc ?_ _ | with_reducible refine bl_drew ?_ | with_reducible refine bl_drewN ?_ _))); rintro e w' ⟨rfl, hbl⟩; obtain ⟨ot3, k3, rfl⟩ := below_plus hbl; clear hbl) | (go_at_call 80; (refine (HMI.out _ (by repeat (first | with_reducible exact Below.refl _ _ | with_reducible refine bl_plus ?_ | with_reducible refine bl_alloc ?_ _ | with_reducible refine bl_drew ?_ | with_reducible refine bl_drewN ?_ _))).mono ?_); rintro e W9 ⟨A9, c9, rfl, hl9, hbl⟩; have HL9 := hide (hl9.mono (fun b hb => (show b < w.heap.size ∨ w.heap.size + 4 ≤ b ∧ b < W9.heap.size from hb.imp id (fun h => ⟨Nat.le_trans (by simp only [plus_size, World.size_alloc]; omega) h.1, h.2⟩)))); have HB9 := hide (below_chain (w := w) (by repeat (first | with_reducible exact Below.refl _ _ | with_reducible refine bl_plus ?_ | with_reducible refine bl_alloc ?_ _ | with_reducible refine bl_drew ?_ | with_reducible refine bl_drewN ?_ _)) hbl); have HRB := hide (HRES.out _ (below_chain (by repeat (first | with_reducible exact Below.refl _ _ | with_reducible refine bl_plus ?_ | with_reducible refine bl_alloc ?_ _ | with_reducible refine bl_drew ?_ | with_reducible refine bl_drewN ?_ _)) hbl)); have HA9 := hide (HXA.out _ (below_chain (by repeat (first | with_reducible exact Below.refl _ _ | with_reducible refine bl_plus ?_ | with_reducible refine bl_alloc ?_ _ | with_reducible refine bl_drew ?_ | with_reducible refine bl_drewN ?_ _)) hbl)); have HC9 := hide (HXB.out _ (below_chain (by repeat (first | with_reducible exact Below.refl _ _ | with_reducible refine bl_plus ?_ | with_reducible refine bl_alloc ?_ _ | with_reducible refine bl_drew ?_ | with_reducible refine bl_drewN ?_ _)) hbl)); clear hbl hl9))
                obtain ⟨s0, s1, s2, s3, s4, hrl, r0, r1, r2, r3, r4⟩ := blkM_frozen HRB.out
                obtain ⟨y0, y1, y2, y3, y4, yl⟩ := HA9.out
                obtain ⟨z0, z1, z2, z3, z4, zll⟩ := HC9.out
                simp only [V.k, V.i, V.t, V.s, V.l] at y0 y1 y2 y3 y4 z0 z1 z2 z3 z4
                clear HXA HXB HRES HS1 HS2 HS3 HK1 HK2 HK3 HMI
                cases hk : (ak != 0) with
                | true =>
                  obtain rfl : R = (.mk ak ai at_ as_ al, true) := by rw [← HR.out, if_neg HN9.out, if_pos (by simpa using hk)]
                  clear HR
                  go_wp2
                  refine bodyPost_ret (res_cellM (P := Tryz.prog) (fn := Tryz.f39) (p := 6) (u := 7) rfl _ _ _ 24 #[.int .i64 ak, .int .i64 ai, .int .i64 at_, .string as_, .slice A1 al.length c1] (0, 0) _ rfl (fiveM_set HRB.out) Tryz.underlying24 rfl (by kernel_rfl)) rfl ?_
                  exact ⟨A1, c1, rfl, fiveM_lat ((LIn_of_at HL1.out).frame (fun b hb => HB9.out.block b hb) |>.mono fun b hb => .inl hb) (by omega) HB9.out.size, fiveM_below HB9.out (by omega)⟩
                | false =>
                  obtain rfl : R = (.mk bk bi bt bs bl, true) := by rw [← HR.out, if_neg HN9.out, if_neg (by simpa using hk)]
                  clear HR
                  go_wp2
                  refine bodyPost_ret (res_cellM (P := Tryz.prog) (fn := Tryz.f39) (p := 6) (u := 7) rfl _ _ _ 24 #[.int .i64 bk, .int .i64 bi, .int .i64 bt, .string bs, .slice A2 bl.length c2] (0, 0) _ rfl (fiveM_set HRB.out) Tryz.underlying24 rfl (by kernel_rfl)) rfl ?_
                  exact ⟨A2, c2, rfl, fiveM_lat ((LIn_of_at HL2.out).frame (fun b hb => HB9.out.block b hb) |>.mono fun b hb => .inl hb) (by omega) HB9.out.size, fiveM_below HB9.out (by omega)⟩


end Go.Proofs.YtdncmjlakmkfiaaGreatDoor
