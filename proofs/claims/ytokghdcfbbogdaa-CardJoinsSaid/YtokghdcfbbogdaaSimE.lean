/-
  WALKS: the reference's Simulate.
-/
import Derived.Test.YtokghdcfbbogdaaSimD
import Derived.Test.YtokghdcfbbogdaaDueD
import Derived.Test.YtokghdcfbbogdaaTopA
namespace Go.Proofs.Ytokghdcfbbogdaa
open Go.RowKit

theorem plus_heap_swap {B B' : World} {O : Array Obj} {n n' g : Nat} (hs : B.heap.size = B'.heap.size) (hg : B.heap.size ≤ g) : (plus B O n).heap[g]? = (plus B' O n').heap[g]? := by
  unfold plus
  simp only [Array.getElem?_append]
  rw [if_neg (by omega), if_neg (by omega), hs]
theorem OwnK.ints {w : World} {base n : Nat} {A : Option Addr} {c m : Nat} {ns : List Int} (h : OwnK 1 3 w base (.slice A m c) n (ns.map (Value.int .i64))) : m = n ∧ ns.length = n ∧ IntsAt w A ns := by
  obtain ⟨hl, A', c', hv, h1, h2, h3⟩ := h
  injection hv with e1 e2 e3
  subst e1 e2 e3
  have hn : ns.length = m := by simpa using hl
  refine ⟨rfl, hn, fun hp => ?_⟩
  rcases h3 with ⟨_, h0, _⟩ | ⟨g, cur, hA, hg, hb, h4, h5⟩
  · omega
  · refine ⟨g, 0, hA, (Array.getElem?_eq_some_iff.1 hb).1, fun j hj => ?_⟩
    rw [Nat.zero_add, cell_of_row w g j cur _ (0, 0) hb]
    have : (cur.toList.take (m * 1))[j]? = (ns.map (Value.int .i64))[j]? := by rw [h5]
    rw [List.getElem?_take_of_lt (by omega), List.getElem?_map, List.getElem?_eq_getElem hj] at this
    simpa using this
theorem OwnK.none_cap {K : Nat} {e : TypeId} {w : World} {base : Nat} {A : Option Addr} {m c n : Nat} {xs : List Value} (h : OwnK K e w base (.slice A m c) n xs) : A = none → c = 0 := by
  obtain ⟨_, A', c', hv, _, _, h3⟩ := h
  injection hv with e1 e2 e3
  subst e1 e2 e3
  rintro rfl
  rcases h3 with ⟨_, _, h⟩ | ⟨g, _, h, _⟩
  · exact h
  · cases h
theorem OwnK.form {K : Nat} {e : TypeId} {w : World} {base : Nat} {v : Value} {n : Nat} {xs : List Value} (h : OwnK K e w base v n xs) : ∃ A c, v = .slice A n c ∧ n ≤ c := by
  obtain ⟨_, A, c, rfl, h1, _⟩ := h
  exact ⟨A, c, rfl, h1⟩
theorem OwnK.plus {K : Nat} {e : TypeId} {w : World} {base : Nat} {v : Value} {n : Nat} {xs : List Value} (h : OwnK K e w base v n xs) (os : Array Obj) (q : Nat) : OwnK K e (plus w os q) base v n xs := h.kept fun k hk => plus_heap (h.lt k hk).2
theorem OwnK.alloc {K : Nat} {e : TypeId} {w : World} {base : Nat} {v : Value} {n : Nat} {xs : List Value} (h : OwnK K e w base v n xs) (o : Obj) : OwnK K e (w.alloc o) base v n xs := h.kept fun k hk => Below.heap_alloc w o k (h.lt k hk).2
/-- A row of reviews that the call owns reads as reviews. -/
theorem OwnK.rvs {w : World} {base n : Nat} {A : Option Addr} {c m : Nat} {rs : List Rv} (h : OwnK 4 65 w base (.slice A m c) n (flatR rs)) : m = n ∧ rs.length = n ∧ RvsAt w A rs := by
  obtain ⟨hl, A', c', hv, h1, h2, h3⟩ := h
  injection hv with e1 e2 e3
  subst e1 e2 e3
  rw [flatR_len] at hl
  have hn : rs.length = m := by omega
  refine ⟨rfl, hn, fun hp => ?_⟩
  rcases h3 with ⟨_, h0, _⟩ | ⟨g, cur, hA, hg, hb, h4, h5⟩
  · omega
  · have hc : ∀ j i, j < rs.length → i < 4 → w.cell? ⟨g, j * 4 + i, none⟩ = (flatR rs)[j * 4 + i]? := fun j i hj hi => by
      rw [cell_of_row w g _ cur _ (0, 0) hb, ← h5, List.getElem?_take_of_lt (by omega)]; simp
    refine ⟨g, 0, hA, (Array.getElem?_eq_some_iff.1 hb).1, fun j hj => ?_⟩
    simp only [Nat.zero_add]
    have q0 := hc j 0 hj (by omega)
    have q1 := hc j 1 hj (by omega)
    have q2 := hc j 2 hj (by omega)
    have q3 := hc j 3 hj (by omega)
    rw [flatR_get rs j _ hj (by omega)] at q0 q1 q2 q3
    exact ⟨q0, q1, q2, q3⟩
theorem HalfOwn.ownK {w : World} {base : Nat} {v : Value} {ns : List Int} (h : HalfOwn w base v ns) (base' : Nat) (hb : base' ≤ base) : OwnK 1 3 w base' v ns.length (ns.map (Value.int .i64)) := by
  obtain ⟨A, c, rfl, h1, h2, h3⟩ := h
  refine ⟨by simp, A, c, rfl, h1, h2, ?_⟩
  rcases h3 with h3 | ⟨g, cur, hA, hg, hb2, h4, h5⟩
  · exact .inl h3
  · exact .inr ⟨g, cur, hA, by omega, hb2, by omega, by rw [Nat.mul_one]; exact h5⟩
theorem HalfOwn.block {w : World} {base : Nat} {v : Value} {ns : List Int} (h : HalfOwn w base v ns) : ∀ g, v.ownBlock = some g → base ≤ g := by
  obtain ⟨A, c, rfl, h1, h2, h3⟩ := h
  intro g hg
  rcases h3 with ⟨rfl, _⟩ | ⟨g', cur, rfl, hg', _⟩
  · cases hg
  · injection hg with hg; subst hg; exact hg'
theorem grade_good2 {x : St} {d g : Int} (h : x.err = 0) (hg : gradeErr x g d = 0) : x.grade g d = (x.graded g d, 0) := by simp [St.grade, h, hg]
/-- Two rows do not lie in one block. -/
def Apart (u v : Value) : Prop := ∀ g, u.ownBlock = some g → v.ownBlock ≠ some g

theorem after_append {B W w1 : World} {base n1 n2 : Nat} {v1 va v2 v' : Value} {l1 l2 : List Value} (hB : base = B.heap.size) (hW : Below B.heap.size B W) (o1 : OwnK 1 3 W base v1 n1 l1) (o2 : OwnK 1 3 W base va n2 l2) (hgr : W.grownBy w1 v2.ownBlock)
    (hv2 : ∀ k, v2.ownBlock = some k → base ≤ k) (hf : v'.ownBlock = v2.ownBlock ∨ ∃ g, v'.ownBlock = some g ∧ W.heap.size ≤ g) (ap1 : Apart v1 v2) (ap2 : Apart va v2) :
    ∃ os n, w1 = plus B os n ∧ OwnK 1 3 w1 base v1 n1 l1 ∧ OwnK 1 3 w1 base va n2 l2 ∧ Apart v1 v' ∧ Apart va v' := by
  subst hB
  obtain ⟨os, n, he⟩ := below_plus (hW.grown hgr hW.size hv2)
  have far : ∀ u : Value, (∀ g, u.ownBlock = some g → g < W.heap.size) → Apart u v2 → Apart u v' := fun u hu ha g hg h2 => by
    rcases hf with e | ⟨g', e, hlt⟩
    · rw [e] at h2; exact ha g hg h2
    · rw [e] at h2; injection h2 with h2; subst h2; have := hu g' hg; omega
  exact ⟨os, n, he, o1.kept fun k hk => hgr.block k (o1.lt k hk).2 (fun e => ap1 k hk e.symm), o2.kept fun k hk => hgr.block k (o2.lt k hk).2 (fun e => ap2 k hk e.symm), far v1 (fun g hg => (o1.lt g hg).2) ap1, far va (fun g hg => (o2.lt g hg).2) ap2⟩
theorem after_append_one {K : Nat} {e : TypeId} {B W w1 : World} {base n : Nat} {vo v2 v' : Value} {l : List Value} (hB : base = B.heap.size) (hW : Below B.heap.size B W) (o : OwnK K e W base vo n l) (hgr : W.grownBy w1 v2.ownBlock)
    (hv2 : ∀ k, v2.ownBlock = some k → base ≤ k) (hf : v'.ownBlock = v2.ownBlock ∨ ∃ g, v'.ownBlock = some g ∧ W.heap.size ≤ g) (ap : Apart v2 vo) : ∃ os q, w1 = plus B os q ∧ OwnK K e w1 base vo n l ∧ Apart v' vo := by
  subst hB
  obtain ⟨os, q, he⟩ := below_plus (hW.grown hgr hW.size hv2)
  refine ⟨os, q, he, o.kept fun k hk => hgr.block k (o.lt k hk).2 (fun e => ap k e.symm hk), fun g h1 h2 => ?_⟩
  rcases hf with e | ⟨g', e, hlt⟩
  · rw [e] at h1; exact ap g h1 h2
  · rw [e] at h1; injection h1 with h1; subst h1; have := (o.lt g' h2).2; omega
theorem new_cells4 {w : World} {t : TypeId} {a b c d : Value} {g : Nat} (hg : g = w.heap.size) : ∀ j u, [a, b, c, d][j]? = some u → (w.alloc (.cells #[a, b, c, d] t)).cell? ((⟨g, 0, none⟩ : Addr).add j) = some u := by
  subst hg
  intro j u hj
  have hadd : (⟨w.heap.size, 0, none⟩ : Addr).add j = ⟨w.heap.size, j, none⟩ := by unfold Addr.add; split <;> simp_all
  rw [hadd, (Blk.new w t #[a, b, c, d]).cell j]
  simpa using hj
theorem new_cells1 {w : World} {t : TypeId} {a : Value} {g : Nat} (hg : g = w.heap.size) : ∀ j u, [a][j]? = some u → (w.alloc (.cells #[a] t)).cell? ((⟨g, 0, none⟩ : Addr).add j) = some u := by
  subst hg
  intro j u hj
  have hadd : (⟨w.heap.size, 0, none⟩ : Addr).add j = ⟨w.heap.size, j, none⟩ := by unfold Addr.add; split <;> simp_all
  rw [hadd, (Blk.new w t #[a]).cell j]
  simpa using hj

set_option maxHeartbeats 12800000 in
set_option maxRecDepth 100000 in
theorem simulateOf_ok (A A2 : Option Addr) (c c2 : Nat) (xs : List St) (gs : List Int) (fr : Int) (N : Nat) (bn ba : Int) (w : World) (hA : StsAt w A xs) (hnil : A = none → xs = [] ∧ c = 0) (hG : IntsAt w A2 gs) (h : statesErr xs = 0) (hse : simErr gs fr N bn ba = 0) (hx0 : 0 < xs.length)
    (h0 : 0 < gs.length) (hgl : gs.length ≤ 20000) (hgk : gradesOk gs = true) (hfr : 0 ≤ fr ∧ fr ≤ 100000) (hN : N ≤ 1500) (hfN : fr + N ≤ 100000) (hbd : bndOk bn ba) :
    Calls Try.prog 38 #[.slice A xs.length c, .slice A2 gs.length c2, .int .i64 fr, .int .i64 N, .agg #[.int .i64 bn, .int .i64 ba]] w (SimOut (simulate xs gs fr N bn ba) w) := by
  have hl := len_of_statesErr h
  obtain ⟨iR, hiR, hzR0, hzR1, hzR2⟩ := info_parts info_rv
  obtain ⟨iI, hiI, hzI0, hzI1, hzI2⟩ := info_parts info_int
  have HIR := hide (And.intro hiR (And.intro hzR0 (And.intro hzR1 hzR2)))
  have HII := hide (And.intro hiI (And.intro hzI0 (And.intro hzI1 hzI2)))
  clear hiR hzR0 hzR1 hzR2 hiI hzI0 hzI1 hzI2
  have hR := simulate_eq h hse
  rw [hR]
  generalize hRR : simDays gs bn ba N fr xs 0 [] = R
  have HRR := hide hRR
  have hck := fun w h => statesFault_any A c xs w h
  rw [h] at hck
  have hcs := fun w h => containsBad_any A2 c2 gs w h hgl
  rw [hgk] at hcs
  have hbf := fun w => boundsFault_any bn ba w
  rw [decide_eq_true hbd] at hbf
  have HD := hide (fun w => isDay_yes fr w hfr.1 hfr.2)
  have hcl := hide (fun w hA => cloneSts_any A c xs w hA hnil hl)
  have hb1 : ((gs.length : Int) == 0) = false := by simp only [beq_eq_false_iff_ne, ne_eq]; omega
  have hb2 : decide (20000 < (gs.length : Int)) = false := by simp only [decide_eq_false_iff_not]; omega
  have hb3 : decide ((N : Int) < 0) = false := by simp only [decide_eq_false_iff_not]; omega
  have hb4 : decide (1500 < (N : Int)) = false := by simp only [decide_eq_false_iff_not]; omega
  have hb5 : decide (100000 < fr + (N : Int)) = false := by simp only [decide_eq_false_iff_not]; omega
  have H1 := hide hck
  have H2 := hide hcs
  have H3 := hide hbf
  have HA := hide hA
  have HG := hide hG
  have HSE := hide h
  have HGK := hide hgk
  have HBD := hide hbd
  clear hck hcs hA hG hR hRR h hse hgk hbd hnil hbf
  go_enter Try.func38, Try.ntmps38
  go_upto_region 10 with (first | (go_at_call 49; refine (H1.out _ (HA.out.alloc _)).mono ?_; rintro e w' ⟨rfl, hb⟩; obtain ⟨os1, n1, rfl⟩ := below_plus hb; clear hb) | (go_at_call 51; refine (H2.out _ ((HG.out.alloc _).plus _ _)).mono ?_; rintro e w' ⟨rfl, hb⟩; obtain ⟨os2, n2, rfl⟩ := below_plus hb; clear hb) | (go_at_call 59; refine (HD.out _).mono ?_; rintro e w' ⟨rfl, rfl⟩) | (go_at_call 70; refine (H3.out _).mono ?_; rintro e w' ⟨rfl, hb⟩; obtain ⟨os5, n5, rfl⟩ := below_plus hb; clear hb))
  have hv0 : (plus (plus (plus (w.alloc (.cells #[.int .i64 bn, .int .i64 ba] 43)) os1 n1) os2 n2) os5 n5).cell? ⟨w.heap.size, 0, none⟩ = some (.int .i64 bn) ∧ (plus (plus (plus (w.alloc (.cells #[.int .i64 bn, .int .i64 ba] 43)) os1 n1) os2 n2) os5 n5).cell? ⟨w.heap.size, 1, none⟩ = some (.int .i64 ba) := by
    rw [plus_cell (by simp only [plus_size, World.size_alloc]; omega), plus_cell (by simp only [plus_size, World.size_alloc]; omega), plus_cell (by rw [World.size_alloc]; omega), plus_cell (by simp only [plus_size, World.size_alloc]; omega), plus_cell (by simp only [plus_size, World.size_alloc]; omega), plus_cell (by rw [World.size_alloc]; omega)]
    simp
  have hVb : Below w.heap.size w (plus (plus (plus (w.alloc (.cells #[.int .i64 bn, .int .i64 ba] 43)) os1 n1) os2 n2) os5 n5) := by repeat (first | exact Below.refl _ _ | refine bl_plus ?_ | refine bl_alloc ?_ _ | refine bl_drew ?_)
  have hvlt : w.heap.size < (plus (plus (plus (w.alloc (.cells #[.int .i64 bn, .int .i64 ba] 43)) os1 n1) os2 n2) os5 n5).heap.size := by simp only [plus_size, World.size_alloc]; omega
  generalize (plus (plus (plus (w.alloc (.cells #[.int .i64 bn, .int .i64 ba] 43)) os1 n1) os2 n2) os5 n5) = V at hv0 hVb hvlt ⊢
  obtain ⟨hv0, hv1⟩ := hv0
  have HV := hide hVb
  clear hVb
  go_wp2_with (go_at_call 62; refine (hcl.out _ (HA.out.below (by repeat (first | exact HV.out | exact Below.refl _ _ | refine bl_plus ?_ | refine bl_alloc ?_ _ | refine bl_drew ?_)))).mono ?_; rintro e w' ⟨v, rfl, hown, hb⟩; obtain ⟨g2, cs, cap, rfl, hge, hB, hnc, _, hRow⟩ := own_bare hown hx0; obtain ⟨os3, n3, os4, n4, rfl, rfl⟩ := bare hb hB hge; have HRow := hide hRow; clear hb hB hge hown hRow)
  go_loopw [15, 16, 17] (fun v1 v2 dv wr => ∃ (k : Nat) (ys : List St) (cs' : Array Value) (dn : List Rv) (cnt : List Int) (os : Array Obj) (n : Nat), k ≤ N ∧ dv = .int .i64 (fr + (k : Int)) ∧ dn.length ≤ 20000 ∧
      Hid (statesErr ys = 0 ∧ ys.length = xs.length ∧ RowOf cs' ys ∧ cnt.length = k ∧ (∀ r ∈ dn, r.da < fr + k) ∧ Apart v1 v2 ∧ simDays gs bn ba (N - k) (fr + k) ys dn.length cnt = R) ∧
      OwnK 1 3 wr (V.heap.size + os3.size + 1) v1 k (cnt.map (Value.int .i64)) ∧ OwnK 4 65 wr (V.heap.size + os3.size + 1) v2 dn.length (flatR dn) ∧ wr = plus ((plus V os3 n3).alloc (.cells cs' 24)) os n)
    (fun _ _ dv _ => (fr + N - intOf dv).toNat)
  case atStart => exact ⟨0, xs, _, [], [], _, _, Nat.zero_le _, by simp, Nat.zero_le _, ⟨HSE.out, rfl, HRow.out, rfl, fun r hr => by simp at hr, fun g hg => by simp [Value.ownBlock] at hg, by simpa using HRR.out⟩, OwnK.empty, OwnK.empty, rfl⟩
  case round =>
    obtain ⟨k, ys, cs', dn, cnt, os, n, hk, rfl, hdl, HI, ho1, ho2, rfl⟩ := hrel
    by_cases hlt : k < N
    · obtain ⟨i1, i2, i3, i4, i5, i6, i7⟩ := HI.out
      have hNk : N - k = (N - k - 1) + 1 := by omega
      rw [hNk] at i7
      simp only [simDays] at i7
      have hask := todayList_askable (first := 0) (all := 0) (bn := bn) (ba := ba) i1 (d := fr + k) (by omega)
      have htd := fun A B c2 w hA hB => rtoday_ok A B cap c2 ys dn (fr + k) bn ba w hA hB i1 hdl HBD.out.1 HBD.out.2
      rw [cntFirst_new i5, cntAll_new i5, i2] at htd
      have hask5 : (todayList ys (fr + k) 0 0 bn ba).length ≤ 10000 := by
        have := tdTo_len ys (fr + k) 0 0 bn ba ys.length
        unfold todayList; omega
      simp only [Int.natCast_zero] at htd
      generalize todayList ys (fr + k) 0 0 bn ba = ask at htd i7 hask hask5
      generalize hRA : simAsk gs (fr + k) ask ys dn.length = RA at i7
      obtain ⟨Ac, cc, rfl, _⟩ := ho1.form
      obtain ⟨Ad, cd, rfl, hcd⟩ := ho2.form
      obtain ⟨_, _, hrv⟩ := ho2.rvs
      have HTD := hide htd
      have HASK := hide hask
      have HRA := hide hRA
      have HR7 := hide i7
      have HRW := hide i3
      have HI1 := hide i1
      have HI2 := hide i2
      have HI4 := hide i4
      have HI5 := hide i5
      have HI6 := hide i6
      have HRV := hide hrv
      have HO1 := hide ho1
      have HO2 := hide ho2
      have hltz : fr + (k : Int) < fr + (N : Int) := by omega
      clear htd hask hRA i1 i2 i3 i4 i5 i6 i7 HI hrv ho1 ho2
      go_wp2_with (go_at_call 71; refine (HTD.out _ _ _ _ (StsAt.at2 (stsAt_of_cells (Blk.new _ _ _).plus HRW.out) (by simp only [plus_size])) HRV.out).mono ?_; rintro e w' ⟨v, rfl, hh, hb⟩; obtain ⟨os6, n6, rfl⟩ := below_plus hb; obtain ⟨A5, c5, rfl, hc5⟩ := hh.form; have HH := hide hh; clear hb hh; rw [plus_plus])
      have HA1 : Hid (OwnK 1 3 (plus ((plus V os3 n3).alloc (.cells cs' 24)) (os ++ os6) n6) (V.heap.size + os3.size + 1) (.slice A5 ask.length c5) ask.length (ask.map (Value.int .i64))) := by
        have := HH.out.ownK (V.heap.size + os3.size + 1) (by simp only [plus_size, World.size_alloc]; omega)
        rwa [plus_plus] at this
      have HA2 : Hid (OwnK 1 3 (plus ((plus V os3 n3).alloc (.cells cs' 24)) (os ++ os6) n6) (V.heap.size + os3.size + 1) (.slice Ac k cc) k (cnt.map (Value.int .i64))) := by
        have := HO1.out.plus os6 n6
        rwa [plus_plus] at this
      have HA3 : Hid (OwnK 4 65 (plus ((plus V os3 n3).alloc (.cells cs' 24)) (os ++ os6) n6) (V.heap.size + os3.size + 1) (.slice Ad dn.length cd) dn.length (flatR dn)) := by
        have := HO2.out.plus os6 n6
        rwa [plus_plus] at this
      have HAP : Hid (Apart (.slice A5 ask.length c5) (.slice Ad dn.length cd)) := fun g h1 h2 => by
        have h3 := HH.out.block g h1
        have h4 := HO2.out.lt g h2
        omega
      clear HH HO1 HO2 HRV
      go_loopw [16, 77] (fun v2 j wr => ∃ (m : Nat) (zs : List St) (cs2 : Array Value) (dn2 : List Rv) (os' : Array Obj) (n' : Nat), m ≤ ask.length ∧ j = .int .i64 m ∧ dn2.length ≤ 20000 ∧
          Hid (statesErr zs = 0 ∧ zs.length = xs.length ∧ RowOf cs2 zs ∧ (∀ r ∈ dn2, r.da < fr + k + 1) ∧ Apart (.slice Ac k cc) v2 ∧ Apart (.slice A5 ask.length c5) v2 ∧ (∀ z ∈ ask.drop m, Askable zs (fr + k) z) ∧ simAsk gs (fr + k) (ask.drop m) zs dn2.length = RA) ∧
          Hid (OwnK 1 3 wr (V.heap.size + os3.size + 1) (.slice Ac k cc) k (cnt.map (Value.int .i64)) ∧ OwnK 1 3 wr (V.heap.size + os3.size + 1) (.slice A5 ask.length c5) ask.length (ask.map (Value.int .i64)) ∧ OwnK 4 65 wr (V.heap.size + os3.size + 1) v2 dn2.length (flatR dn2)) ∧ wr = plus ((plus V os3 n3).alloc (.cells cs2 24)) os' n')
        (fun _ j _ => ask.length - (intOf j).toNat)
      case atStart => exact ⟨0, ys, _, dn, _, _, Nat.zero_le _, rfl, hdl, ⟨HI1.out, HI2.out, HRW.out, fun r hr => by have := HI5.out r hr; omega, HI6.out, HAP.out, by simpa using HASK.out, by simpa using HRA.out⟩, ⟨HA2.out, HA1.out, HA3.out⟩, rfl⟩
      case round =>
        clear HA1 HA2 HA3 HAP
        obtain ⟨m, zs, cs2, dn2, os', n', hm, rfl, hd2, HJ, HK, rfl⟩ := hrel
        by_cases hlm : m < ask.length
        · have hdrop := drop_cons ask m hlm
          obtain ⟨j1, j2, j3, j4, j5, j6, j7, j8⟩ := HJ.out
          obtain ⟨o1, o2, o3⟩ := HK.out
          rw [hdrop] at j7 j8
          obtain ⟨zi, x, hzi, hx, hxl⟩ := j7 ask[m] (List.mem_cons_self ..)
          rw [hzi] at j8
          obtain ⟨ga, og5, rfl, hgal, hgac⟩ := o2.ints.2.2 (by omega)
          have hac := hgac m hlm
          rw [hzi] at hac
          obtain ⟨A6, c6, rfl, hc6⟩ := o3.form
          by_cases hfull : dn2.length = 20000
          · have hfz : ((dn2.length : Int) == 20000) = true := by simp [hfull]
            have h6 := HR7.out
            rw [hfull, simAsk_full] at j8
            rw [← j8] at h6
            simp only at h6
            have HR8 := hide h6
            clear HJ HK j1 j2 j3 j4 j5 j6 j7 j8 o1 o2 o3 hx hxl hgac hgal hdrop hzi h6 hfull HR7
            go_wp2
            go_returns
            rw [← HR8.out]
            exact simOut_err (by repeat (first | exact HV.out | exact Below.refl _ _ | refine bl_plus ?_ | refine bl_alloc ?_ _ | refine bl_drew ?_))
          · have hzl : zi < zs.length := by
              rcases Nat.lt_or_ge zi zs.length with h' | h'
              · exact h'
              · rw [List.getElem?_eq_none h'] at hx; cases hx
            have hx2 : zs[zi] = x := by rw [List.getElem?_eq_getElem hzl] at hx; injection hx
            rw [simAsk_step hfull (by simpa using hx)] at j8
            obtain ⟨a0, a1, a2, a3, a4, a5, a6, a7, a8⟩ := j3.at_ hzl hx2
            have hxe : x.err = 0 := by rw [← hx2]; exact err_of_statesErr j1 zi hzl
            have hgl2 := nextGrade_ok HGK.out h0 dn2.length
            have hge : gradeErr x (nextGrade gs dn2.length) (fr + k) = 0 := by unfold gradeErr; rw [if_neg (by omega), if_neg (by omega), if_neg (by omega)]
            have hgd := fun w => gradeOf_any x (nextGrade gs dn2.length) (fr + k) w
            rw [grade_good2 hxe hge] at hgd
            have hye := St.err_graded hxe hge
            have hyl : (x.graded (nextGrade gs dn2.length) (fr + k)).la ≤ fr + k := Int.le_refl _
            have hyb : (x.graded (nextGrade gs dn2.length) (fr + k)).bl = zs[zi].bl := by rw [hx2]; rfl
            have hyn : (x.graded (nextGrade gs dn2.length) (fr + k)).no = zs[zi].no := by rw [hx2]; rfl
            obtain ⟨bg, og, rfl, hbg, hgc⟩ := HG.out h0
            have hq : dn2.length % gs.length < gs.length := Nat.mod_lt _ h0
            have hgc2 : V.cell? ⟨bg, og + dn2.length % gs.length, none⟩ = some (.int .i64 (nextGrade gs dn2.length)) := by
              rw [HV.out.cell (p := ⟨bg, _, none⟩) hbg, hgc _ hq]
              unfold nextGrade
              rw [List.getElem?_eq_getElem hq, Option.getD_some]
            have hbgV : bg < V.heap.size := by have := HV.out.size; omega
            generalize x.graded (nextGrade gs dn2.length) (fr + k) = y at hgd j8 hye hyl hyb hyn
            generalize nextGrade gs dn2.length = gr at hgd hgc2
            simp only [St.val] at hgd
            have hg0 : ¬ (gs.length : Int) = 0 := by omega
            have hg1 : ¬ gs = [] := by intro e; rw [e] at h0; simp at h0
            have hg2 : ∀ t w, (binOp .rem t (.int .i64 (dn2.length : Int)) (.int .i64 (gs.length : Int))).run Try.prog w = .ok (.int .i64 ((dn2.length % gs.length : Nat) : Int)) w := fun t w => by
              rw [binOp_rem, Op.intDiv, if_neg hg0]
              have hrem : (dn2.length : Int).tmod (gs.length : Int) = ((dn2.length % gs.length : Nat) : Int) := by rw [Int.tmod_eq_emod_of_nonneg (by omega)]; omega
              simp [hrem]
            have hqz : ((dn2.length % gs.length : Nat) : Int) < (gs.length : Int) := by omega
            have hq0 : (0 : Int) ≤ ((dn2.length % gs.length : Nat) : Int) := by omega
            have hqt : (((dn2.length % gs.length : Nat) : Int)).toNat = dn2.length % gs.length := by omega
            have hzlz : (zi : Int) < (xs.length : Int) := by omega
            have hfz : ((dn2.length : Int) == 20000) = false := by simp; omega
            have HGD := hide hgd
            have HQ : Hid (statesErr (zs.set zi y) = 0 ∧ (zs.set zi y).length = xs.length ∧ (∀ z ∈ ask.drop (m + 1), Askable (zs.set zi y) (fr + k) z) ∧ simAsk gs (fr + k) (ask.drop (m + 1)) (zs.set zi y) (dn2.length + 1) = RA) := by
              refine ⟨statesErr_set j1 hzl hye hyb hyn, by rw [List.length_set]; exact j2, fun z hz => askable_set hyl (j7 z (List.mem_cons_of_mem _ hz)), ?_⟩
              have : ((zi : Int)).toNat = zi := by omega
              rw [this] at j8
              exact j8
            have HS9 : Hid (RowOf _ (zs.set zi y)) := RowOf.set9 j3 hzl y
            have J4 := hide j4
            have J5 := hide j5
            have J6 := hide j6
            have O1 := hide o1
            have O2 := hide o2
            have O3 := hide o3
            clear HJ HK j1 j2 j3 j4 j5 j6 j7 j8 o1 o2 o3 hx hx2 hxl hxe hge hye hyl hyb hyn hgd hgl2 hgc hgac hgal hdrop hzi
            go_upto_region 27 with (go_at_call 16; refine (HGD.out _).mono ?_; rintro e w' ⟨rfl, hb⟩; obtain ⟨os8, n8, rfl⟩ := below_plus hb; clear hb)
            have O1b := hide (O1.out.kept (w' := plus ((plus V os3 n3).alloc (.cells (((((((((cs2.setIfInBounds (zi * 9) (.int .i64 y.bl)).setIfInBounds (zi * 9 + 1) (.int .i64 y.no)).setIfInBounds (zi * 9 + 2) (.int .i64 y.st)).setIfInBounds (zi * 9 + 3) (.int .i64 y.ea)).setIfInBounds (zi * 9 + 4) (.int .i64 y.du)).setIfInBounds (zi * 9 + 5) (.int .i64 y.la)).setIfInBounds (zi * 9 + 6) (.int .i64 y.ti)).setIfInBounds (zi * 9 + 7) (.int .i64 y.lp)).setIfInBounds (zi * 9 + 8) (.int .i64 y.bu)) 24)) os' n') (fun k hk => plus_heap_swap (B' := ((plus V os3 n3).alloc (.cells (((((((((cs2.setIfInBounds (zi * 9) (.int .i64 y.bl)).setIfInBounds (zi * 9 + 1) (.int .i64 y.no)).setIfInBounds (zi * 9 + 2) (.int .i64 y.st)).setIfInBounds (zi * 9 + 3) (.int .i64 y.ea)).setIfInBounds (zi * 9 + 4) (.int .i64 y.du)).setIfInBounds (zi * 9 + 5) (.int .i64 y.la)).setIfInBounds (zi * 9 + 6) (.int .i64 y.ti)).setIfInBounds (zi * 9 + 7) (.int .i64 y.lp)).setIfInBounds (zi * 9 + 8) (.int .i64 y.bu)) 24))) (by simp only [plus_size, World.size_alloc]) (by have := (O1.out.lt k hk).1; simp only [plus_size, World.size_alloc]; omega) |>.symm))
            have O2b := hide (O2.out.kept (w' := plus ((plus V os3 n3).alloc (.cells (((((((((cs2.setIfInBounds (zi * 9) (.int .i64 y.bl)).setIfInBounds (zi * 9 + 1) (.int .i64 y.no)).setIfInBounds (zi * 9 + 2) (.int .i64 y.st)).setIfInBounds (zi * 9 + 3) (.int .i64 y.ea)).setIfInBounds (zi * 9 + 4) (.int .i64 y.du)).setIfInBounds (zi * 9 + 5) (.int .i64 y.la)).setIfInBounds (zi * 9 + 6) (.int .i64 y.ti)).setIfInBounds (zi * 9 + 7) (.int .i64 y.lp)).setIfInBounds (zi * 9 + 8) (.int .i64 y.bu)) 24)) os' n') (fun k hk => plus_heap_swap (B' := ((plus V os3 n3).alloc (.cells (((((((((cs2.setIfInBounds (zi * 9) (.int .i64 y.bl)).setIfInBounds (zi * 9 + 1) (.int .i64 y.no)).setIfInBounds (zi * 9 + 2) (.int .i64 y.st)).setIfInBounds (zi * 9 + 3) (.int .i64 y.ea)).setIfInBounds (zi * 9 + 4) (.int .i64 y.du)).setIfInBounds (zi * 9 + 5) (.int .i64 y.la)).setIfInBounds (zi * 9 + 6) (.int .i64 y.ti)).setIfInBounds (zi * 9 + 7) (.int .i64 y.lp)).setIfInBounds (zi * 9 + 8) (.int .i64 y.bu)) 24))) (by simp only [plus_size, World.size_alloc]) (by have := (O2.out.lt k hk).1; simp only [plus_size, World.size_alloc]; omega) |>.symm))
            have O3b := hide (O3.out.kept (w' := plus ((plus V os3 n3).alloc (.cells (((((((((cs2.setIfInBounds (zi * 9) (.int .i64 y.bl)).setIfInBounds (zi * 9 + 1) (.int .i64 y.no)).setIfInBounds (zi * 9 + 2) (.int .i64 y.st)).setIfInBounds (zi * 9 + 3) (.int .i64 y.ea)).setIfInBounds (zi * 9 + 4) (.int .i64 y.du)).setIfInBounds (zi * 9 + 5) (.int .i64 y.la)).setIfInBounds (zi * 9 + 6) (.int .i64 y.ti)).setIfInBounds (zi * 9 + 7) (.int .i64 y.lp)).setIfInBounds (zi * 9 + 8) (.int .i64 y.bu)) 24)) os' n') (fun k hk => plus_heap_swap (B' := ((plus V os3 n3).alloc (.cells (((((((((cs2.setIfInBounds (zi * 9) (.int .i64 y.bl)).setIfInBounds (zi * 9 + 1) (.int .i64 y.no)).setIfInBounds (zi * 9 + 2) (.int .i64 y.st)).setIfInBounds (zi * 9 + 3) (.int .i64 y.ea)).setIfInBounds (zi * 9 + 4) (.int .i64 y.du)).setIfInBounds (zi * 9 + 5) (.int .i64 y.la)).setIfInBounds (zi * 9 + 6) (.int .i64 y.ti)).setIfInBounds (zi * 9 + 7) (.int .i64 y.lp)).setIfInBounds (zi * 9 + 8) (.int .i64 y.bu)) 24))) (by simp only [plus_size, World.size_alloc]) (by have := (O3.out.lt k hk).1; simp only [plus_size, World.size_alloc]; omega) |>.symm))
            clear O1 O2 O3
            go_wp2_with (at_builtin; go_loud (refine wpList_append_k rfl (.tmp 109) (.tmp 117) rfl rfl Try.underlying22 HIR.out.1 HIR.out.2.1 HIR.out.2.2.1 (by decide) rfl (by have := HIR.out.2.2.2; omega) (V.heap.size + os3.size + 1) dn2.length _ (flatR dn2) (rvCells ⟨y.bl, y.no, gr, fr + k⟩) _ rfl (((O3b.out.plus _ _).alloc _).alloc _) rfl (by intro u hu; simp [rvCells] at hu; rcases hu with rfl | rfl | rfl | rfl <;> rfl) rfl (new_cells4 (by simp only [plus_size, World.size_alloc])) (by omega) (by simp only [World.size_alloc, plus_size]; omega) ?_; intro v' w1 hown1 hgr1 hfr1; obtain ⟨os9, n9, rfl, P1, P2, P3, P4⟩ := after_append (B := ((plus V os3 n3).alloc (.cells (((((((((cs2.setIfInBounds (zi * 9) (.int .i64 y.bl)).setIfInBounds (zi * 9 + 1) (.int .i64 y.no)).setIfInBounds (zi * 9 + 2) (.int .i64 y.st)).setIfInBounds (zi * 9 + 3) (.int .i64 y.ea)).setIfInBounds (zi * 9 + 4) (.int .i64 y.du)).setIfInBounds (zi * 9 + 5) (.int .i64 y.la)).setIfInBounds (zi * 9 + 6) (.int .i64 y.ti)).setIfInBounds (zi * 9 + 7) (.int .i64 y.lp)).setIfInBounds (zi * 9 + 8) (.int .i64 y.bu)) 24))) (by simp only [World.size_alloc, plus_size]) (by repeat (first | exact Below.refl _ _ | refine bl_plus ?_ | refine bl_alloc ?_ _ | refine bl_drew ?_)) (((O1b.out.plus _ _).alloc _).alloc _) (((O2b.out.plus _ _).alloc _).alloc _) hgr1 (fun k hk => (O3b.out.lt k hk).1) hfr1 J5.out J6.out; have PP := hide (And.intro P1 (And.intro P2 (And.intro P3 P4))); have HN := hide hown1; clear P1 P2 P3 P4 hown1 hgr1 hfr1))
            go_roundw
            case rel =>
              refine ⟨m + 1, zs.set zi y, _, dn2 ++ [⟨y.bl, y.no, gr, fr + k⟩], _, _, hlm, by go_num, by simp; omega, ⟨HQ.out.1, HQ.out.2.1, HS9.out, ?_, PP.out.2.2.1, PP.out.2.2.2, HQ.out.2.2.1, by simpa using HQ.out.2.2.2⟩, ⟨PP.out.1, PP.out.2.1, ?_⟩, rfl⟩
              · intro r hr
                rcases List.mem_append.1 hr with hr | hr
                · exact J4.out r hr
                · simp at hr; subst hr; show fr + (k : Int) < _; omega
              · have h1 := HN.out
                simp only [List.length_append, List.length_cons, List.length_nil, flatR, List.flatMap_append, List.flatMap_cons, List.flatMap_nil, List.append_nil]
                exact h1
            case measure => simp [intOf]; omega
        · have hml : m = ask.length := by omega
          subst hml
          obtain ⟨j1, j2, j3, j4, j5, j6, j7, j8⟩ := HJ.out
          rw [List.drop_length] at j8
          simp only [simAsk] at j8
          have h6 := HR7.out
          rw [← j8] at h6
          simp only at h6
          obtain ⟨o1, o2, o3⟩ := HK.out
          obtain ⟨A6, c6, rfl, _⟩ := o3.form
          have HJ3 : Hid (statesErr zs = 0 ∧ zs.length = xs.length ∧ RowOf cs2 zs ∧ (cnt ++ [(ask.length : Int)]).length = k + 1 ∧ (∀ r ∈ dn2, r.da < fr + ((k + 1 : Nat) : Int)) ∧ simDays gs bn ba (N - (k + 1)) (fr + ((k + 1 : Nat) : Int)) zs dn2.length (cnt ++ [(ask.length : Int)]) = R) :=
            ⟨j1, j2, j3, by simp [HI4.out], fun r hr => by have := j4 r hr; omega, by rw [show fr + ((k + 1 : Nat) : Int) = fr + k + 1 by omega, ← Nat.sub_sub]; exact h6⟩
          have O1 := hide o1
          have O3 := hide o3
          have J5 := hide j5
          clear HJ HK j1 j2 j3 j4 j5 j6 j7 j8 o1 o2 o3 h6
          go_wp2_with (at_builtin; go_loud (refine wpList_append_k rfl (.tmp 120) (.tmp 123) rfl rfl Try.underlying31 HII.out.1 HII.out.2.1 HII.out.2.2.1 (by decide) rfl (by have := HII.out.2.2.2; omega) (V.heap.size + os3.size + 1) k _ (cnt.map (Value.int .i64)) [.int .i64 (ask.length : Int)] _ rfl (O1.out.alloc _) rfl (by intro u hu; simp at hu; subst hu; rfl) rfl (new_cells1 (by simp only [plus_size, World.size_alloc])) (by omega) (by simp only [World.size_alloc, plus_size]; omega) ?_; intro v' w1 hown1 hgr1 hfr1; obtain ⟨os9, n9, rfl, P1, P2⟩ := after_append_one (B := ((plus V os3 n3).alloc (.cells cs2 24))) (by simp only [World.size_alloc, plus_size]) (by repeat (first | exact Below.refl _ _ | refine bl_plus ?_ | refine bl_alloc ?_ _ | refine bl_drew ?_)) (O3.out.alloc _) hgr1 (fun k hk => (O1.out.lt k hk).1) hfr1 J5.out; have PP := hide (And.intro P1 P2); have HN := hide hown1; clear P1 P2 hown1 hgr1 hfr1))
          go_roundw
          case rel => exact ⟨k + 1, zs, cs2, dn2, cnt ++ [(ask.length : Int)], _, _, hlt, by go_num, hd2, ⟨HJ3.out.1, HJ3.out.2.1, HJ3.out.2.2.1, HJ3.out.2.2.2.1, HJ3.out.2.2.2.2.1, PP.out.2, HJ3.out.2.2.2.2.2⟩, by simpa using HN.out, PP.out.1, rfl⟩
          case measure => simp [intOf]; omega
    · have hkN : k = N := by omega
      subst hkN
      obtain ⟨i1, i2, i3, i4, i5, i6, i7⟩ := HI.out
      rw [Nat.sub_self] at i7
      simp only [simDays] at i7
      obtain ⟨Ac, cc, rfl, hcc⟩ := ho1.form
      obtain ⟨_, hcl2, hci⟩ := ho1.ints
      have hz0 := ho1.none_cap
      have HC := hide hci
      have HRW := hide i3
      have HL1 := hide i2
      have HL2 := hide i4
      have HR6 := hide i7
      clear HI i1 i2 i3 i4 i5 i6 i7 ho1 ho2 hci hcl2
      go_wp2
      go_returns
      rw [← HR6.out]
      show SimOut ((ys, cnt), 0) w _ _
      refine simOut_mk rfl HL1.out HL2.out (StsAt.at2 (stsAt_of_cells (Blk.new _ _ _).plus HRW.out) ?_) HC.out ⟨(fun h => by cases h), hz0⟩ (by repeat (first | exact HV.out | exact Below.refl _ _ | refine bl_plus ?_ | refine bl_alloc ?_ _ | refine bl_drew ?_))
      simp only [plus_size]

end Go.Proofs.Ytokghdcfbbogdaa
