/-
  PROVED: ValueCompares returns true for all three values, and turns nothing: Compare, In and Meets compute what the reference's do. No condition.
-/
import Derived.Test.YtfklaahakibljaaRows
import Derived.Test.YtfklaahakibljaaValE
import Derived.Test.YtfklaahakibljaaRow
namespace Go.Proofs.Ytfklaahakibljaa
open Go.ChangeShapes Go.WideShapes Go.ChangeAt Go.Deep Go.RowKit

set_option maxHeartbeats 6400000 in
set_option maxRecDepth 100000 in
theorem valueCompares_any (x y z : V) (A B C : Option Addr) (a b c : Nat) (w : World) (hA : LAt w A x.l) (hB : LAt w B y.l) (hC : LAt w C z.l) :
    Calls Try.prog 3 #[x.arg A a, y.arg B b, z.arg C c] w fun e w' => e = .returned (.bool true) ∧ Below w.heap.size w w' := by
  have H1 := hide (fun w hA hB => compareP x y A B a b w hA hB)
  have H2 := hide (fun w hA hB => compareR x y A B a b w hA hB)
  have H3 := hide (fun w hA hB hC => in_any x y z A B C a b c w hA hB hC)
  have H4 := hide (fun w hA hB hC => inOf_any x y z A B C a b c w hA hB hC)
  have H5 := hide (fun w => meets_any x y A B a b w)
  have H6 := hide (fun w => meetsOf_any x y A B a b w)
  generalize cmpV x y = r1 at *
  generalize inV x y z = r2 at *
  generalize meetsV (daysV x) (daysV y) = r3 at *
  have HA := hide hA
  have HB := hide hB
  have HC := hide hC
  clear hA hB hC
  obtain ⟨xk, xi, xt, xs, xl⟩ := x
  obtain ⟨yk, yi, yt, ys, yl⟩ := y
  obtain ⟨zk, zi, zt, zs, zl⟩ := z
  simp only [V.k, V.i, V.t, V.s, V.l, V.arg] at *
  go_enter Try.func3, Try.ntmps3
  go_wp2_with fail
  have hx : Blk (((w.alloc (.cells #[.int .i64 xk, .int .i64 xi, .int .i64 xt, .string xs, .slice A xl.length a] 24)).alloc (.cells #[.int .i64 yk, .int .i64 yi, .int .i64 yt, .string ys, .slice B yl.length b] 24)).alloc (.cells #[.int .i64 zk, .int .i64 zi, .int .i64 zt, .string zs, .slice C zl.length c] 24)) w.heap.size 24 #[.int .i64 xk, .int .i64 xi, .int .i64 xt, .string xs, .slice A xl.length a] := ((Blk.new w 24 #[.int .i64 xk, .int .i64 xi, .int .i64 xt, .string xs, .slice A xl.length a]).alloc _).alloc _
  have hy : Blk (((w.alloc (.cells #[.int .i64 xk, .int .i64 xi, .int .i64 xt, .string xs, .slice A xl.length a] 24)).alloc (.cells #[.int .i64 yk, .int .i64 yi, .int .i64 yt, .string ys, .slice B yl.length b] 24)).alloc (.cells #[.int .i64 zk, .int .i64 zi, .int .i64 zt, .string zs, .slice C zl.length c] 24)) (w.heap.size + 1) 24 #[.int .i64 yk, .int .i64 yi, .int .i64 yt, .string ys, .slice B yl.length b] := by
    have := (Blk.new (w.alloc (.cells #[.int .i64 xk, .int .i64 xi, .int .i64 xt, .string xs, .slice A xl.length a] 24)) 24 #[.int .i64 yk, .int .i64 yi, .int .i64 yt, .string ys, .slice B yl.length b]).alloc (.cells #[.int .i64 zk, .int .i64 zi, .int .i64 zt, .string zs, .slice C zl.length c] 24)
    simpa only [World.size_alloc] using this
  have hz : Blk (((w.alloc (.cells #[.int .i64 xk, .int .i64 xi, .int .i64 xt, .string xs, .slice A xl.length a] 24)).alloc (.cells #[.int .i64 yk, .int .i64 yi, .int .i64 yt, .string ys, .slice B yl.length b] 24)).alloc (.cells #[.int .i64 zk, .int .i64 zi, .int .i64 zt, .string zs, .slice C zl.length c] 24)) (w.heap.size + 1 + 1) 24 #[.int .i64 zk, .int .i64 zi, .int .i64 zt, .string zs, .slice C zl.length c] := by
    have := Blk.new ((w.alloc (.cells #[.int .i64 xk, .int .i64 xi, .int .i64 xt, .string xs, .slice A xl.length a] 24)).alloc (.cells #[.int .i64 yk, .int .i64 yi, .int .i64 yt, .string ys, .slice B yl.length b] 24)) 24 #[.int .i64 zk, .int .i64 zi, .int .i64 zt, .string zs, .slice C zl.length c]
    simpa only [World.size_alloc] using this
  have hW : Below w.heap.size w (((w.alloc (.cells #[.int .i64 xk, .int .i64 xi, .int .i64 xt, .string xs, .slice A xl.length a] 24)).alloc (.cells #[.int .i64 yk, .int .i64 yi, .int .i64 yt, .string ys, .slice B yl.length b] 24)).alloc (.cells #[.int .i64 zk, .int .i64 zi, .int .i64 zt, .string zs, .slice C zl.length c] 24)) := by repeat (first | exact Below.refl _ _ | refine bl_plus ?_ | refine bl_alloc ?_ _ | refine bl_drew ?_)
  generalize (((w.alloc (.cells #[.int .i64 xk, .int .i64 xi, .int .i64 xt, .string xs, .slice A xl.length a] 24)).alloc (.cells #[.int .i64 yk, .int .i64 yi, .int .i64 yt, .string ys, .slice B yl.length b] 24)).alloc (.cells #[.int .i64 zk, .int .i64 zi, .int .i64 zt, .string zs, .slice C zl.length c] 24)) = W at hx hy hz hW ⊢
  generalize w.heap.size + 1 + 1 = g2 at hz ⊢
  generalize w.heap.size + 1 = g1 at hy ⊢
  generalize hg0 : w.heap.size = g0 at hx ⊢
  have HG := hide hg0
  clear hg0
  have c00 : W.cell? ⟨g0, 0, none⟩ = some (.int .i64 xk) := hx.cell 0
  have c01 : W.cell? ⟨g0, 1, none⟩ = some (.int .i64 xi) := hx.cell 1
  have c02 : W.cell? ⟨g0, 2, none⟩ = some (.int .i64 xt) := hx.cell 2
  have c03 : W.cell? ⟨g0, 3, none⟩ = some (.string xs) := hx.cell 3
  have c04 : W.cell? ⟨g0, 4, none⟩ = some (.slice A xl.length a) := hx.cell 4
  have l0 := hx.lt
  have c10 : W.cell? ⟨g1, 0, none⟩ = some (.int .i64 yk) := hy.cell 0
  have c11 : W.cell? ⟨g1, 1, none⟩ = some (.int .i64 yi) := hy.cell 1
  have c12 : W.cell? ⟨g1, 2, none⟩ = some (.int .i64 yt) := hy.cell 2
  have c13 : W.cell? ⟨g1, 3, none⟩ = some (.string ys) := hy.cell 3
  have c14 : W.cell? ⟨g1, 4, none⟩ = some (.slice B yl.length b) := hy.cell 4
  have l1 := hy.lt
  have c20 : W.cell? ⟨g2, 0, none⟩ = some (.int .i64 zk) := hz.cell 0
  have c21 : W.cell? ⟨g2, 1, none⟩ = some (.int .i64 zi) := hz.cell 1
  have c22 : W.cell? ⟨g2, 2, none⟩ = some (.int .i64 zt) := hz.cell 2
  have c23 : W.cell? ⟨g2, 3, none⟩ = some (.string zs) := hz.cell 3
  have c24 : W.cell? ⟨g2, 4, none⟩ = some (.slice C zl.length c) := hz.cell 4
  have l2 := hz.lt
  clear hx hy hz
  go_region_held3 (fun w' => Below w.heap.size w w' ∧ g0 < w'.heap.size ∧ g1 < w'.heap.size ∧ g2 < w'.heap.size ∧ w'.cell? ⟨g0, 0, none⟩ = some (.int .i64 xk) ∧ w'.cell? ⟨g0, 1, none⟩ = some (.int .i64 xi) ∧ w'.cell? ⟨g0, 2, none⟩ = some (.int .i64 xt) ∧ w'.cell? ⟨g0, 3, none⟩ = some (.string xs) ∧ w'.cell? ⟨g0, 4, none⟩ = some (.slice A xl.length a) ∧ w'.cell? ⟨g1, 0, none⟩ = some (.int .i64 yk) ∧ w'.cell? ⟨g1, 1, none⟩ = some (.int .i64 yi) ∧ w'.cell? ⟨g1, 2, none⟩ = some (.int .i64 yt) ∧ w'.cell? ⟨g1, 3, none⟩ = some (.string ys) ∧ w'.cell? ⟨g1, 4, none⟩ = some (.slice B yl.length b) ∧ w'.cell? ⟨g2, 0, none⟩ = some (.int .i64 zk) ∧ w'.cell? ⟨g2, 1, none⟩ = some (.int .i64 zi) ∧ w'.cell? ⟨g2, 2, none⟩ = some (.int .i64 zt) ∧ w'.cell? ⟨g2, 3, none⟩ = some (.string zs) ∧ w'.cell? ⟨g2, 4, none⟩ = some (.slice C zl.length c)) (simp [plus_plus, plus_cell, plus_size, lt_more1, bl_plus, bl_drew, *])
    (first
      | (go_at_call 11; refine (H1.out _ (HA.out.below (by repeat (first | assumption | exact Below.refl _ _ | refine bl_plus ?_ | refine bl_alloc ?_ _ | refine bl_drew ?_))) (HB.out.below (by repeat (first | assumption | exact Below.refl _ _ | refine bl_plus ?_ | refine bl_alloc ?_ _ | refine bl_drew ?_)))).mono ?_; rintro e w' ⟨rfl, hb⟩; obtain ⟨os1, n1, rfl⟩ := below_plus hb; clear hb)
      | (go_at_call 12; refine (H2.out _ (HA.out.below (by repeat (first | assumption | exact Below.refl _ _ | refine bl_plus ?_ | refine bl_alloc ?_ _ | refine bl_drew ?_))) (HB.out.below (by repeat (first | assumption | exact Below.refl _ _ | refine bl_plus ?_ | refine bl_alloc ?_ _ | refine bl_drew ?_)))).mono ?_; rintro e w' ⟨rfl, hb⟩; obtain ⟨os2, n2, rfl⟩ := below_plus hb; clear hb)
      | (go_at_call 13; refine (H3.out _ (HA.out.below (by repeat (first | assumption | exact Below.refl _ _ | refine bl_plus ?_ | refine bl_alloc ?_ _ | refine bl_drew ?_))) (HB.out.below (by repeat (first | assumption | exact Below.refl _ _ | refine bl_plus ?_ | refine bl_alloc ?_ _ | refine bl_drew ?_))) (HC.out.below (by repeat (first | assumption | exact Below.refl _ _ | refine bl_plus ?_ | refine bl_alloc ?_ _ | refine bl_drew ?_)))).mono ?_; rintro e w' ⟨rfl, hb⟩; obtain ⟨os3, n3, rfl⟩ := below_plus hb; clear hb)
      | (go_at_call 14; refine (H4.out _ (HA.out.below (by repeat (first | assumption | exact Below.refl _ _ | refine bl_plus ?_ | refine bl_alloc ?_ _ | refine bl_drew ?_))) (HB.out.below (by repeat (first | assumption | exact Below.refl _ _ | refine bl_plus ?_ | refine bl_alloc ?_ _ | refine bl_drew ?_))) (HC.out.below (by repeat (first | assumption | exact Below.refl _ _ | refine bl_plus ?_ | refine bl_alloc ?_ _ | refine bl_drew ?_)))).mono ?_; rintro e w' ⟨rfl, hb⟩; obtain ⟨os4, n4, rfl⟩ := below_plus hb; clear hb)
      | (go_at_call 15; refine (H5.out _).mono ?_; rintro e w' ⟨rfl, hb⟩; obtain ⟨os5, n5, rfl⟩ := below_plus hb; clear hb)
      | (go_at_call 16; refine (H6.out _).mono ?_; rintro e w' ⟨rfl, hb⟩; obtain ⟨os6, n6, rfl⟩ := below_plus hb; clear hb))
  go_wp2
  go_ret
  exact ⟨rfl, by repeat (first | assumption | exact Below.refl _ _ | refine bl_plus ?_ | refine bl_alloc ?_ _ | refine bl_drew ?_)⟩

section
variable {H : Type} {enc : TypeId × Value → H} {w : World} {base : Nat} {held : Bool}

set_option maxRecDepth 100000 in
/-- A list of values that comes in, where each of its elements can be opened with less fuel. -/
theorem open_items {fuel : Nat} {cs : List Value} {x : DataW H × List MemPlace}
    (ih : ∀ n, n < fuel → ∀ cs x, DataW.trod enc Try.prog w base (fun _ => true) held n 24 cs = some x → ∃ (v : V) (A : Option Addr) (c : Nat), cs = [.int .i64 v.k, .int .i64 v.i, .int .i64 v.t, .string v.s, .slice A v.l.length c] ∧ LAt w A v.l)
    (h : DataW.trod enc Try.prog w base (fun _ => true) held fuel 22 cs = some x) : ∃ (l : List V) (A : Option Addr) (c : Nat), cs = [.slice A l.length c] ∧ LAt w A l := by
  rcases DataW.trod_slice Try.underlying22 h with ⟨rfl, _⟩ | ⟨a, len, cap, elems, rest, n, rfl, rfl, _, _, hl, hm, hlen, hel, _, _⟩
  · exact ⟨[], none, 0, rfl, by simp [maxLen], fun h => absurd h (by simp)⟩
  · have hC : Try.prog.cellsOf 24 = 5 := by kernel_rfl
    rw [hC] at hel
    have hget : ∀ i, i < len → ∃ (v : V) (A : Option Addr) (c : Nat), w.cell? (a.add (i * 5 + 0)) = some (.int .i64 v.k) ∧ w.cell? (a.add (i * 5 + 1)) = some (.int .i64 v.i) ∧ w.cell? (a.add (i * 5 + 2)) = some (.int .i64 v.t) ∧ w.cell? (a.add (i * 5 + 3)) = some (.string v.s) ∧ w.cell? (a.add (i * 5 + 4)) = some (.slice A v.l.length c) ∧ LAt w A v.l := by
      intro i hi
      have h1 := hel i hi
      rw [List.getElem?_eq_getElem (by omega)] at h1
      obtain ⟨cs', hcs', htr⟩ := Option.bind_eq_some_iff.1 h1
      obtain ⟨v, A, c, rfl, hlA⟩ := ih n (by omega) _ _ htr
      obtain ⟨_, _, hat⟩ := World.cells?_some hcs'
      refine ⟨v, A, c, ?_, ?_, ?_, ?_, ?_, hlA⟩
      · rw [← Go.Deep.add_add]; exact hat 0 (by omega)
      · rw [← Go.Deep.add_add]; exact hat 1 (by omega)
      · rw [← Go.Deep.add_add]; exact hat 2 (by omega)
      · rw [← Go.Deep.add_add]; exact hat 3 (by omega)
      · rw [← Go.Deep.add_add]; exact hat 4 (by omega)
    by_cases hlen0 : 0 < len
    · obtain ⟨_, _, _, h0, _⟩ := hget 0 hlen0
      have hspot : a.spot = none := by simpa [Addr.add] using World.cell?_spot h0
      obtain ⟨b, off, spot⟩ := a
      simp only at hspot
      subst hspot
      have hb : b < w.heap.size := by
        have := lt_of_cell h0
        simpa [Addr.add] using this
      obtain ⟨l, hl2, hq⟩ := list_of (Q := fun i (v : V) => VAt w v b (off + i * 5)) len (fun i hi' => by
        obtain ⟨v, A, c, e0, e1, e2, e3, e4, e5⟩ := hget i hi'
        rw [add_plain] at e0 e1 e2 e3 e4
        exact ⟨v, VAt_iff.2 ⟨e0, e1, e2, e3, A, c, e4, e5⟩⟩)
      subst hl2
      exact ⟨l, _, cap, rfl, by omega, fun _ => ⟨b, off, rfl, hb, hq⟩⟩
    · have : len = 0 := by omega
      subst this
      exact ⟨[], some a, cap, rfl, by simp [maxLen], fun h => absurd h (by simp)⟩

set_option maxRecDepth 100000 in
/-- A value that comes in. -/
theorem open_value : ∀ (fuel : Nat) (cs : List Value) (x : DataW H × List MemPlace), DataW.trod enc Try.prog w base (fun _ => true) held fuel 24 cs = some x →
    ∃ (v : V) (A : Option Addr) (c : Nat), cs = [.int .i64 v.k, .int .i64 v.i, .int .i64 v.t, .string v.s, .slice A v.l.length c] ∧ LAt w A v.l := by
  intro fuel
  induction fuel using Nat.strongRecOn with
  | ind fuel ih =>
    intro cs x h
    obtain ⟨ys, n, rfl, _, hlen, hyl, hf⟩ := DataW.trod_struct Try.underlying24 h
    have hC : Try.prog.cellsOf 24 = 5 := by kernel_rfl
    rw [hC] at hlen
    match cs, hlen with
    | [q0, q1, q2, q3, q4], _ =>
      have hys : ys.length = 5 := hyl
      match ys, hys with
      | [y0, y1, y2, y3, y4], _ =>
        have hi1 : Try.prog.cellsOf 3 = 1 := by kernel_rfl
        have hs1 : Try.prog.cellsOf 9 = 1 := by kernel_rfl
        have hl1 : Try.prog.cellsOf 22 = 1 := by kernel_rfl
        have t0 : DataW.trod enc Try.prog w base (fun _ => true) held n 3 (([q0, q1, q2, q3, q4].drop 0).take (Try.prog.cellsOf 3)) = some y0 := hf 0 _ rfl
        rw [hi1] at t0
        have t1 : DataW.trod enc Try.prog w base (fun _ => true) held n 3 (([q0, q1, q2, q3, q4].drop 1).take (Try.prog.cellsOf 3)) = some y1 := hf 1 _ rfl
        rw [hi1] at t1
        have t2 : DataW.trod enc Try.prog w base (fun _ => true) held n 3 (([q0, q1, q2, q3, q4].drop 2).take (Try.prog.cellsOf 3)) = some y2 := hf 2 _ rfl
        rw [hi1] at t2
        have t3 : DataW.trod enc Try.prog w base (fun _ => true) held n 9 (([q0, q1, q2, q3, q4].drop 3).take (Try.prog.cellsOf 9)) = some y3 := hf 3 _ rfl
        rw [hs1] at t3
        have t4 : DataW.trod enc Try.prog w base (fun _ => true) held n 22 (([q0, q1, q2, q3, q4].drop 4).take (Try.prog.cellsOf 22)) = some y4 := hf 4 _ rfl
        rw [hl1] at t4
        simp only [List.drop_zero, List.drop_succ_cons, List.take_succ_cons, List.take_zero] at t0 t1 t2 t3 t4
        obtain ⟨k0, e0, _, _⟩ := DataW.trod_int Try.underlying3 t0
        obtain ⟨k1, e1, _, _⟩ := DataW.trod_int Try.underlying3 t1
        obtain ⟨k2, e2, _, _⟩ := DataW.trod_int Try.underlying3 t2
        obtain ⟨k3, e3, _, _⟩ := DataW.trod_string Try.underlying9 t3
        obtain ⟨l, A, c, e4, hl⟩ := open_items (fun m hm cs x h => ih m (by omega) cs x h) t4
        simp only [List.cons.injEq, and_true] at e0 e1 e2 e3 e4
        subst e0 e1 e2 e3 e4
        exact ⟨.mk k0 k1 k2 k3 l, A, c, rfl, hl⟩

set_option maxRecDepth 100000 in
theorem open_val {v : Value} {d : DataW H} {ps : List MemPlace} {r : Reach} {b0 : Nat} (hv : Value.okWide Try.prog w r b0 24 v) (h : DataW.Trod enc Try.prog w base (fun _ => true) held 24 v d ps) : ∃ (x : V) (A : Option Addr) (c : Nat), v = x.arg A c ∧ LAt w A x.l := by
  obtain ⟨cs, rfl, _⟩ := okWide_struct Try.underlying24 hv
  obtain ⟨fuel, hf⟩ := h
  obtain ⟨x, A, c, hx, hl⟩ := open_value fuel _ _ hf
  obtain ⟨cs⟩ := cs
  have hx' : cs = _ := hx
  subst hx'
  exact ⟨x, A, c, rfl, hl⟩
end

set_option maxRecDepth 100000 in
theorem valueCompares_lifted (os : Os) (started : os.Started) (H : Type) (enc : TypeId × Value → H) :
    ReturnsInHanded {} Try.checked os 3 .any (Rows.valueComparesSpec.pre6 enc Try.prog Try.f3 [] false) (Rows.valueComparesSpec.post enc Try.prog Try.f3 false true false false) := by
  refine law_lifted started (by kernel_rfl) Try.func3 rfl (by kernel_rfl) Try.underlying4 (fun t ht => ?_) (fun ds hds => ?_)
    (ChangeSpec.witness6 (enc := enc) (C := Try.checked) false ⟨#[], #[.agg #[.int .i64 0, .int .i64 0, .int .i64 0, .string ByteArray.empty, .slice none 0 0], .agg #[.int .i64 0, .int .i64 0, .int .i64 0, .string ByteArray.empty, .slice none 0 0], .agg #[.int .i64 0, .int .i64 0, .int .i64 0, .string ByteArray.empty, .slice none 0 0]], []⟩ 8 (by kernel_rfl) (by kernel_rfl) (by kernel_rfl) (by kernel_rfl)) ?_
  · rw [Try.params3] at ht
    simp only [List.mem_cons, List.not_mem_nil, or_false] at ht
    rcases ht with rfl | rfl | rfl <;> exact ⟨by kernel_rfl, of_decide_eq_true (by kernel_rfl)⟩
  · rw [Try.params3] at hds
    match ds, hds with
    | [d1, d2, d3], _ => rfl
  · intro W b0 args ds p hval hA hlt hsz
    rw [Try.params3] at hA hval
    obtain ⟨v0, v1, v2, d0, d1, d2, p0, p1, p2, rfl, rfl, rfl, h0, h1, h2⟩ := trodAll_three hA
    obtain ⟨x, A, a, rfl, hx⟩ := open_val (hval 0 _ v0 rfl rfl) h0
    obtain ⟨y, B, b, rfl, hy⟩ := open_val (hval 1 _ v1 rfl rfl) h1
    obtain ⟨z, C, c, rfl, hz⟩ := open_val (hval 2 _ v2 rfl rfl) h2
    exact valueCompares_any x y z A B C a b c W hx hy hz

set_option maxRecDepth 100000 in
theorem valueCompares_holds : Rows.ValueComparesSaid :=
  OpenClaim.holds_of_wide 3 Try.f3 rfl rfl rfl rfl rfl rfl rfl ⟨rfl, rfl, rfl, rfl, rfl⟩ rfl rfl rfl rfl rfl (by kernel_rfl) Try.func3 (by kernel_rfl)
    (of_decide_eq_true (by kernel_rfl)) (by unfold Func.isWrapper; first | (rw [if_pos (by decide +kernel)]; kernel_rfl) | (rw [if_neg (by decide +kernel)]; exact ⟨rfl, rfl⟩))
    (fun os started H enc _ => valueCompares_lifted os started H enc)

#print axioms valueCompares_holds
end Go.Proofs.Ytfklaahakibljaa
