/-
  WALK: the law RuleChecks; a rule that comes in by value; a variable that the condition lays as a row of strings.
-/
import Derived.Test.YtididkdmbpfjnaaDoorRlw
import Derived.Test.YtididkdmbpfjnaaDoorRow
import Derived.SliceStrings
import Derived.Lib.LaidTab
namespace Go.Proofs.YtididkdmbpfjnaaDoor
open Go.ChangeShapes Go.WideShapes Go.ChangeAt Go.Deep Go.RowKit Cal

section
variable {H : Type} {enc : TypeId × Value → H} {w : World} {base : Nat} {held : Bool}
theorem ints_of_trod {q : Value} {n : Nat} {x : DataW H × List MemPlace} (hf : DataW.trod enc Tryd.prog w base (fun _ => true) held n 22 [q] = some x) :
    ∃ (A : Option Addr) (l : List Int) (cap : Nat), q = .slice A l.length cap ∧ l.length ≤ maxLen ∧ IntsAt w A l := by
  rcases open_ints Tryd.underlying22 Tryd.underlying3 (by kernel_rfl) hf with ⟨hcs, _⟩ | ⟨a, len', cap', zs, hcs, _, hl, hm, hz, _, hcell, hwf⟩
  · simp only [List.cons.injEq, and_true] at hcs
    exact ⟨none, [], 0, hcs, by simp [maxLen], fun h => absurd h (by simp)⟩
  · simp only [List.cons.injEq, and_true] at hcs
    subst hcs
    simp only [if_true] at hz
    have hlen : (zs.take len').length = len' := by rw [List.length_take]; omega
    refine ⟨some a, zs.take len', cap', by rw [hlen], by omega, fun hp => ?_⟩
    rw [hlen] at hp
    have h0 := hcell 0 (by omega)
    have hspot : a.spot = none := by simpa [Addr.add] using World.cell?_spot h0
    obtain ⟨b, off, spot⟩ := a
    simp only at hspot
    subst hspot
    have hb : b < w.heap.size := by
      have := lt_of_cell h0
      simpa [Addr.add] using this
    refine ⟨b, off, rfl, hb, fun j hj => ?_⟩
    have hc := hcell j (by omega)
    rw [add_plain] at hc
    rw [hc, List.getElem_take]
    simp [List.getD, List.getElem?_eq_getElem (show j < zs.length by omega)]

set_option maxRecDepth 100000 in
/-- A rule that comes in by value. -/
theorem open_rule {v : Value} {d : DataW H} {ps : List MemPlace} {r : Reach} {b0 : Nat} (hv : Value.okWide Tryd.prog w r b0 24 v) (h : DataW.Trod enc Tryd.prog w base (fun _ => true) held 24 v d ps) : ∃ x : Rul, RulAt w x v := by
  obtain ⟨cs, rfl, _⟩ := okWide_struct Tryd.underlying24 hv
  obtain ⟨fuel, hf⟩ := h
  obtain ⟨ys, n, rfl, _, hlen, hyl, hf⟩ := DataW.trod_struct Tryd.underlying24 hf
  have hC : Tryd.prog.cellsOf 24 = 9 := by kernel_rfl
  rw [hC] at hlen
  obtain ⟨cs⟩ := cs
  change cs.length = 9 at hlen
  match cs, hlen with
  | [q0, q1, q2, q3, q4, q5, q6, q7, q8], _ =>
    have hys : ys.length = 9 := hyl
    match ys, hys with
    | [y0, y1, y2, y3, y4, y5, y6, y7, y8], _ =>
      have hi1 : Tryd.prog.cellsOf 3 = 1 := by kernel_rfl
      have hl1 : Tryd.prog.cellsOf 22 = 1 := by kernel_rfl
      have t0 : DataW.trod enc Tryd.prog w base (fun _ => true) held n 3 (([q0, q1, q2, q3, q4, q5, q6, q7, q8].drop 0).take (Tryd.prog.cellsOf 3)) = some y0 := hf 0 _ rfl
      have t1 : DataW.trod enc Tryd.prog w base (fun _ => true) held n 3 (([q0, q1, q2, q3, q4, q5, q6, q7, q8].drop 1).take (Tryd.prog.cellsOf 3)) = some y1 := hf 1 _ rfl
      have t2 : DataW.trod enc Tryd.prog w base (fun _ => true) held n 3 (([q0, q1, q2, q3, q4, q5, q6, q7, q8].drop 2).take (Tryd.prog.cellsOf 3)) = some y2 := hf 2 _ rfl
      have t3 : DataW.trod enc Tryd.prog w base (fun _ => true) held n 3 (([q0, q1, q2, q3, q4, q5, q6, q7, q8].drop 3).take (Tryd.prog.cellsOf 3)) = some y3 := hf 3 _ rfl
      have t4 : DataW.trod enc Tryd.prog w base (fun _ => true) held n 3 (([q0, q1, q2, q3, q4, q5, q6, q7, q8].drop 4).take (Tryd.prog.cellsOf 3)) = some y4 := hf 4 _ rfl
      have t5 : DataW.trod enc Tryd.prog w base (fun _ => true) held n 22 (([q0, q1, q2, q3, q4, q5, q6, q7, q8].drop 5).take (Tryd.prog.cellsOf 22)) = some y5 := hf 5 _ rfl
      have t6 : DataW.trod enc Tryd.prog w base (fun _ => true) held n 22 (([q0, q1, q2, q3, q4, q5, q6, q7, q8].drop 6).take (Tryd.prog.cellsOf 22)) = some y6 := hf 6 _ rfl
      have t7 : DataW.trod enc Tryd.prog w base (fun _ => true) held n 3 (([q0, q1, q2, q3, q4, q5, q6, q7, q8].drop 7).take (Tryd.prog.cellsOf 3)) = some y7 := hf 7 _ rfl
      have t8 : DataW.trod enc Tryd.prog w base (fun _ => true) held n 22 (([q0, q1, q2, q3, q4, q5, q6, q7, q8].drop 8).take (Tryd.prog.cellsOf 22)) = some y8 := hf 8 _ rfl
      rw [hi1] at t0 t1 t2 t3 t4 t7
      rw [hl1] at t5 t6 t8
      simp only [List.drop_zero, List.drop_succ_cons, List.take_succ_cons, List.take_zero] at t0 t1 t2 t3 t4 t5 t6 t7 t8
      obtain ⟨k0, e0, _, _⟩ := DataW.trod_int Tryd.underlying3 t0
      obtain ⟨k1, e1, _, _⟩ := DataW.trod_int Tryd.underlying3 t1
      obtain ⟨k2, e2, _, _⟩ := DataW.trod_int Tryd.underlying3 t2
      obtain ⟨k3, e3, _, _⟩ := DataW.trod_int Tryd.underlying3 t3
      obtain ⟨k4, e4, _, _⟩ := DataW.trod_int Tryd.underlying3 t4
      obtain ⟨k7, e7, _, _⟩ := DataW.trod_int Tryd.underlying3 t7
      obtain ⟨A, l5, c5, e5, m5, i5⟩ := ints_of_trod t5
      obtain ⟨B, l6, c6, e6, m6, i6⟩ := ints_of_trod t6
      obtain ⟨C, l8, c8, e8, m8, i8⟩ := ints_of_trod t8
      simp only [List.cons.injEq, and_true] at e0 e1 e2 e3 e4 e7
      subst e0 e1 e2 e3 e4 e5 e6 e7 e8
      exact ⟨⟨k0, k1, k2, k3, k4, k7, l5, l6, l8⟩, ⟨A, B, C, c5, c6, c8, rfl, i5, i6, i8, m5, m6, m8⟩⟩
end

theorem strs_inj : ∀ {a b : List ByteArray}, (strs a : List (DataW Unit)) = strs b → a = b
  | [], [], _ => rfl
  | [], _ :: _, h => by simp [strs] at h
  | _ :: _, [], h => by simp [strs] at h
  | x :: a, y :: b, h => by
    simp only [strs, List.map_cons, List.cons.injEq] at h
    obtain ⟨h1, h2⟩ := h
    have hxy : x = y := by
      injection h1 with h1
      injection h1 with h1
      exact ByteArray.ext (Array.toList_inj.1 h1)
    rw [hxy, strs_inj (a := a) (b := b) h2]
theorem strsTab_of_head {P : Program} {W : World} {name : String} {xs : List ByteArray} {rest : List (String × DataW Unit)} {g : Nat} {t e : TypeId}
    (hg : P.globalNamed name = some g) (hty : (P.globals[g]?).map (·.type) = some t) (ht : P.underlying t = some (.slice e)) (he : P.underlying e = some .string) (hce : P.cellsOf e = 1) (hx : 0 < xs.length)
    (h : laidMet P ((name, .slice (strs xs) []) :: rest) W) : ∃ b o c, StrsTab W g b o c xs := by
  obtain ⟨ps, ⟨g', t', cs, fuel, p, q, hg', ht', hvar, hd, _, _⟩, _⟩ := h
  obtain rfl := Option.some.inj (hg.symm.trans hg')
  obtain rfl := Option.some.inj (hty.symm.trans ht')
  rcases open_strings ht he hce hd with ⟨_, h0⟩ | ⟨a, len, cap, ss, hcs, _, hl, _, hlen, hxx, hcell, _⟩
  · cases h0
  · obtain ⟨h1, _⟩ := Prod.mk.inj hxx
    injection h1 with h1 h2
    have hxs := strs_inj h1
    simp only [if_true] at hlen
    have hln : len = xs.length := by rw [hxs, List.length_take]; omega
    have c0 := hcell 0 (by omega)
    have hspot : a.spot = none := by simpa [Addr.add] using World.cell?_spot c0
    obtain ⟨b, off, spot⟩ := a
    simp only at hspot
    subst hspot
    have hb : b < W.heap.size := by
      have := lt_of_cell c0
      simpa [Addr.add] using this
    have htop : W.cell? ⟨g, 0, none⟩ = some (.slice (some ⟨b, off, none⟩) xs.length cap) := by
      have := World.var?_cell hg hvar 0
      rw [this, ← Array.getElem?_toList, hcs, ← hln]
      rfl
    refine ⟨b, off, cap, htop, lt_of_cell htop, hb, fun k hk => ?_⟩
    have hc := hcell k (by omega)
    rw [add_plain] at hc
    rw [hc]
    have : xs[k] = ss.getD k ByteArray.empty := by
      have hks : k < ss.length := by omega
      rw [List.getD_eq_getElem?_getD, List.getElem?_eq_getElem hks]
      subst hxs
      rw [List.getElem_take]
      rfl
    rw [this]

theorem out_cases (r : Rul) : r.err ≠ 0 ∨ (r.err = 0 ∧ (¬ 2000 < r.s7.size ∨ 2000 < r.s7.size)) := by
  by_cases h : r.err = 0
  · exact .inr ⟨h, (Nat.lt_or_ge 2000 r.s7.size).symm.imp (fun h => by omega) id⟩
  · exact .inl h
theorem ruleText_any (r : Rul) (v : Value) (w : World) (h : RulAt w r v) (hp : PowTab w) : Calls Tryd.prog 7 #[v] w (TextR r w) := by
  rcases out_cases r with he | ⟨he, h7⟩
  · exact ruleText_bad r v w h he
  · exact ruleText_good r v w h he hp h7
theorem ruleString_any (r : Rul) (v : Value) (w : World) (h : RulAt w r v) (hp : PowTab w) (bu ou cu bs os' cs : Nat) (hU : StrsTab w 0 bu ou cu unitsL) (hS : StrsTab w 1 bs os' cs wdaysL) :
    Calls Tryd.prog 8 #[v] w (TextR r w) := by
  rcases out_cases r with he | ⟨he, h7⟩
  · exact ruleString_bad r v w h he
  · exact ruleString_good r v w h he hp bu ou cu bs os' cs hU hS h7

set_option maxHeartbeats 3200000 in
set_option maxRecDepth 100000 in
theorem ruleChecks_any (r : Rul) (v : Value) (w : World) (h : RulAt w r v) (hp : PowTab w) (bu ou cu bs os' cs : Nat) (hU : StrsTab w 0 bu ou cu unitsL) (hS : StrsTab w 1 bs os' cs wdaysL) :
    Calls Tryd.prog 3 #[v] w fun e w' => e = .returned (.bool true) ∧ Below w.heap.size w w' := by
  have h1 := fun w' hb => ruleText_any r v w' (h.below hb) (powTab_below hp hb)
  have h2 := fun w' hb => ruleString_any r v w' (h.below hb) (powTab_below hp hb) bu ou cu bs os' cs (hU.below hb) (hS.below hb)
  have h3 := fun w' hb => checkRule_any r v w' (h.below hb)
  have h4 := fun w' hb => ruleFault_any r v w' (h.below hb)
  unfold TextR at h1 h2
  have H1 := hide h1
  have H2 := hide h2
  have H3 := hide h3
  have H4 := hide h4
  clear h1 h2 h3 h4 hp hU hS
  obtain ⟨A, B, C, a, b, c, rfl, i1, i2, i3, i4, i5, i6⟩ := h.ex
  generalize r.out = O at *
  obtain ⟨O1, O2⟩ := O
  generalize r.err = E at *
  clear i1 i2 i3 i4 i5 i6 h
  go_enter Tryd.func3, Tryd.ntmps3
  go_upto_region 3 with (first
    | (go_at_call 7; refine (H1.out _ (by repeat (first | exact Below.refl _ _ | refine bl_plus ?_ | refine bl_alloc ?_ _ | refine bl_drew ?_))).mono ?_; rintro e w' ⟨rfl, hbl⟩; obtain ⟨os1, n1, rfl⟩ := below_plus hbl; clear hbl)
    | (go_at_call 8; refine (H2.out _ (by repeat (first | exact Below.refl _ _ | refine bl_plus ?_ | refine bl_alloc ?_ _ | refine bl_drew ?_))).mono ?_; rintro e w' ⟨rfl, hbl⟩; obtain ⟨os2, n2, rfl⟩ := below_plus hbl; clear hbl))
  have hcs : RCells (plus (plus (w.alloc (.cells #[.int .i64 r.u, .int .i64 r.e, .int .i64 r.f, .int .i64 r.t, .int .i64 r.c, .slice A r.wd.length a, .slice B r.da.length b, .int .i64 r.n, .slice C r.sk.length c] 24)) os1 n1) os2 n2) w.heap.size r A B C a b c := by
    have h := ((Blk.new w 24 #[.int .i64 r.u, .int .i64 r.e, .int .i64 r.f, .int .i64 r.t, .int .i64 r.c, .slice A r.wd.length a, .slice B r.da.length b, .int .i64 r.n, .slice C r.sk.length c]).plus (os := os1) (n := n1)).plus (os := os2) (n := n2)
    exact ⟨h.cell 0, h.cell 1, h.cell 2, h.cell 3, h.cell 4, h.cell 5, h.cell 6, h.cell 7, h.cell 8⟩
  have hbw : Below w.heap.size w (plus (plus (w.alloc (.cells #[.int .i64 r.u, .int .i64 r.e, .int .i64 r.f, .int .i64 r.t, .int .i64 r.c, .slice A r.wd.length a, .slice B r.da.length b, .int .i64 r.n, .slice C r.sk.length c] 24)) os1 n1) os2 n2) := (by repeat (first | exact Below.refl _ _ | refine bl_plus ?_ | refine bl_alloc ?_ _ | refine bl_drew ?_))
  have hrg : w.heap.size < (plus (plus (w.alloc (.cells #[.int .i64 r.u, .int .i64 r.e, .int .i64 r.f, .int .i64 r.t, .int .i64 r.c, .slice A r.wd.length a, .slice B r.da.length b, .int .i64 r.n, .slice C r.sk.length c] 24)) os1 n1) os2 n2).heap.size := by rw [plus_size, plus_size, World.size_alloc]; omega
  generalize (plus (plus (w.alloc (.cells #[.int .i64 r.u, .int .i64 r.e, .int .i64 r.f, .int .i64 r.t, .int .i64 r.c, .slice A r.wd.length a, .slice B r.da.length b, .int .i64 r.n, .slice C r.sk.length c] 24)) os1 n1) os2 n2) = W at *
  obtain ⟨c0, c1, c2, c3, c4, c5, c6, c7, c8⟩ := hcs
  have HBW := hide hbw
  clear hbw
  go_region_held3 (fun w' => w'.cell? ⟨w.heap.size, 0, none⟩ = some (.int .i64 r.u) ∧ w'.cell? ⟨w.heap.size, 1, none⟩ = some (.int .i64 r.e) ∧ w'.cell? ⟨w.heap.size, 2, none⟩ = some (.int .i64 r.f) ∧ w'.cell? ⟨w.heap.size, 3, none⟩ = some (.int .i64 r.t) ∧ w'.cell? ⟨w.heap.size, 4, none⟩ = some (.int .i64 r.c) ∧ w'.cell? ⟨w.heap.size, 5, none⟩ = some (.slice A r.wd.length a) ∧ w'.cell? ⟨w.heap.size, 6, none⟩ = some (.slice B r.da.length b) ∧ w'.cell? ⟨w.heap.size, 7, none⟩ = some (.int .i64 r.n) ∧ w'.cell? ⟨w.heap.size, 8, none⟩ = some (.slice C r.sk.length c)) (simp [*, plus_cell, plus_size, lt_more1])
    (first
      | (go_at_call 9; refine (H3.out _ (HBW.out.trans (Below.mono (by repeat (first | exact Below.refl _ _ | refine bl_plus ?_ | refine bl_alloc ?_ _ | refine bl_drew ?_)) HBW.out.size))).mono ?_; rintro e w' ⟨rfl, hb⟩; obtain ⟨os7, n7, rfl⟩ := below_plus hb; clear hb)
      | (go_at_call 10; refine (H4.out _ (HBW.out.trans (Below.mono (by repeat (first | exact Below.refl _ _ | refine bl_plus ?_ | refine bl_alloc ?_ _ | refine bl_drew ?_)) HBW.out.size))).mono ?_; rintro e w' ⟨rfl, hb⟩; obtain ⟨os8, n8, rfl⟩ := below_plus hb; clear hb))
  all_goals go_wp2
  all_goals go_ret
  all_goals exact ⟨by simp, HBW.out.trans (Below.mono (by repeat (first | exact Below.refl _ _ | refine bl_plus ?_ | refine bl_alloc ?_ _ | refine bl_drew ?_)) HBW.out.size)⟩

end Go.Proofs.YtididkdmbpfjnaaDoor
