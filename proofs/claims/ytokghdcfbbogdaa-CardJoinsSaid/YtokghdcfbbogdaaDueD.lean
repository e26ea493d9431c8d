/-
  WALKS: due and the reference's.
-/
import Derived.Test.YtokghdcfbbogdaaDueA
import Derived.Test.YtokghdcfbbogdaaWalkV
namespace Go.Proofs.Ytokghdcfbbogdaa
open Go.RowKit Go.Shelf Go.Lib

/-- A slice of numbers in a block that the call has made; the block may be longer than the slice can grow. -/
def HalfOwn (w : World) (base : Nat) (v : Value) (ns : List Int) : Prop :=
  ∃ A c, v = .slice A ns.length c ∧ ns.length ≤ c ∧ c ≤ maxLen ∧ ((A = none ∧ ns.length = 0 ∧ c = 0) ∨ ∃ g cur, A = some ⟨g, 0, none⟩ ∧ base ≤ g ∧ w.heap[g]? = some (.cells cur 3 (0, 0)) ∧ c ≤ cur.size ∧ cur.toList.take ns.length = ns.map (Value.int .i64))
def DueOut (xs : List St) (d : Int) (w : World) (e : Ending) (w' : World) : Prop := ∃ v, e = .returned v ∧ HalfOwn w' w.heap.size v (dueList xs d) ∧ Below w.heap.size w w'
theorem dueOut_mk {w w' : World} {A : Option Addr} {c c2 n : Nat} {xs : List St} {d : Int} (h : w'.ownsRow (w.heap.size + 1) 3 1 (.slice A n c) n ((dueList xs d).map (Value.int .i64))) (h1 : n ≤ c2) (hb : Below w.heap.size w w') (hc2 : c2 ≤ c := by first | assumption | exact Nat.le_refl _) : DueOut xs d w (.returned (.slice A n c2)) w' := by
  have hlen : (dueList xs d).length = n := by have := h.1; simpa using this
  refine ⟨_, rfl, ⟨A, c2, by rw [hlen], by omega, ?_⟩, hb⟩
  rcases h.2 with ⟨hv, h0⟩ | ⟨g, cap, cur, hv, hg, hh, h3, h4, h5, h6⟩
  · injection hv with hA _ hc
    refine ⟨by omega, .inl ⟨hA, by omega, by omega⟩⟩
  · injection hv with hA _ hc
    refine ⟨by omega, .inr ⟨g, cur, hA, by omega, hh, by omega, ?_⟩⟩
    rw [hlen, ← h6, Nat.mul_one]

set_option maxHeartbeats 3200000 in
set_option maxRecDepth 100000 in
theorem due_any (A : Option Addr) (c : Nat) (xs : List St) (d : Int) (w : World) (hA : StsAt w A xs) (h : statesErr xs = 0) :
    Calls Try.prog 66 #[.slice A xs.length c, .int .i64 d] w (DueOut xs d w) := by
  have hl := len_of_statesErr h
  have HA := hide hA
  clear h hA
  go_enter Try.func66, Try.ntmps66
  go_wp2
  go_loopw [5, 10] (fun v i wr => ∃ (k : Nat) (os : Array Obj) (n : Nat), k ≤ xs.length ∧ i = .int .i64 k ∧ wr = plus (w.alloc (.cells #[.slice A xs.length c] 36)) os n ∧ wr.ownsRow (w.heap.size + 1) 3 1 v (pick (asked d) xs k).length ((pick (asked d) xs k).map (Value.int .i64)))
    (fun _ i _ => xs.length - (intOf i).toNat)
  case atStart => exact ⟨0, #[], _, Nat.zero_le _, rfl, plus_nil.symm, own_none⟩
  case round =>
    obtain ⟨k, os, n, hk, rfl, rfl, hown⟩ := hrel
    by_cases hlt : k < xs.length
    · obtain ⟨b, off, rfl, hb, hcell⟩ := HA.out (by omega)
      have hxk : xs[k]? = some xs[k] := List.getElem?_eq_getElem hlt
      have hc0 := hcell k hlt
      clear hcell
      generalize xs[k] = x at hc0 hxk
      have hask := fun w => askedFor_any x d w
      simp only [St.val] at hask
      have hcases : asked d x = true ∨ asked d x = false := by cases asked d x <;> simp
      obtain ⟨c0, c1, c2, c3, c4, c5, c6, c7, c8⟩ := hc0
      have HX := hide hxk
      have hpl := pick_le (asked d) xs k
      clear hxk
      rcases hcases with hq | hq
      · rw [hq] at hask
        have HK := hide hask
        have HQ := hide hq
        clear hq hask
        go_wp2_with (first | (go_at_call 73; refine (HK.out _).mono ?_; rintro e w' ⟨rfl, hb⟩; obtain ⟨os1, n1, rfl⟩ := below_plus hb; clear hb) | (at_builtin; refine wpList_append_int rfl (.tmp 18) (.tmp 20) rfl (w.heap.size + 1) _ _ (pick (asked d) xs k) _ _ rfl ((hown.alloc _) |> fun h => own_plus h) rfl (by simp [plus_size]) (by omega) (by simp [plus_size]; omega) ?_; intro v' w1 hown1 hb1; obtain ⟨os3, n3, rfl⟩ := over_plus (L := w.alloc (.cells #[.slice (some ⟨b, off, none⟩) xs.length c] 36)) (by simp) (by repeat (first | exact Below.refl _ _ | refine bl_plus ?_ | refine bl_alloc ?_ _ | refine bl_drew ?_)) hb1; clear hb1))
        go_roundw
        case rel => exact ⟨k + 1, _, _, hlt, by go_num, rfl, by rw [pick_yes HX.out HQ.out]; simpa using hown1⟩
        case measure => simp [intOf]; omega
      · rw [hq] at hask
        have HK := hide hask
        have HQ := hide hq
        clear hq hask
        go_wp2_with (go_at_call 73; refine (HK.out _).mono ?_; rintro e w' ⟨rfl, hb⟩; obtain ⟨os1, n1, rfl⟩ := below_plus hb; clear hb)
        go_roundw
        case rel => exact ⟨k + 1, _, _, hlt, by go_num, by rw [plus_alloc, plus_plus], by rw [pick_no HX.out HQ.out]; exact own_plus (hown.alloc _)⟩
        case measure => simp [intOf]; omega
    · have hkl : k = xs.length := by omega
      subst hkl
      obtain ⟨B, c', rfl, hnc, hcm, hBn⟩ := own_form hown
      have hsrt := sortDue_any w.heap.size A B c c' _ (w.heap.size + 1) xs d w _ HA.out (bl_plus (bl_alloc (Below.refl _ _) _)) (Nat.le_succ _) (by rw [plus_size, World.size_alloc]; omega) (Nat.lt_succ_self _) (by rw [plus_cell (by simp)]; simp) hl hown
      have HS := hide hsrt
      clear hsrt hown
      go_wp2_with (first | (go_at_call 72; refine (clipInts_any _ _ _ _ (by assumption)).mono ?_; rintro e w' ⟨rfl, rfl⟩) | (go_at_call 93; refine HS.out.mono ?_; rintro e w' ⟨rfl, hb, hown2⟩; obtain ⟨os3, n3, rfl⟩ := over_plus (L := w.alloc (.cells #[.slice A xs.length c] 36)) (by simp) (by repeat (first | exact Below.refl _ _ | refine bl_plus ?_ | refine bl_alloc ?_ _ | refine bl_drew ?_)) hb; clear hb; have HO := hide hown2; clear hown2))
      go_returns
      exact dueOut_mk HO.out (by first | exact Nat.le_refl _ | assumption) (by repeat (first | exact Below.refl _ _ | refine bl_plus ?_ | refine bl_alloc ?_ _ | refine bl_drew ?_))

set_option maxHeartbeats 3200000 in
set_option maxRecDepth 100000 in
theorem dueAt_any (A : Option Addr) (c : Nat) (xs : List St) (d : Int) (w : World) (hA : StsAt w A xs) (h : statesErr xs = 0) :
    Calls Try.prog 67 #[.slice A xs.length c, .int .i64 d] w (DueOut xs d w) := by
  have hl := len_of_statesErr h
  have hgood := fun k (hk : k < xs.length) => asked_of_err (err_of_statesErr h k hk)
  have HG := hide hgood
  clear hgood
  have HA := hide hA
  clear h hA
  go_enter Try.func67, Try.ntmps67
  go_wp2
  go_loopw [5, 10] (fun v i wr => ∃ (k : Nat) (os : Array Obj) (n : Nat), k ≤ xs.length ∧ i = .int .i64 k ∧ wr = plus (w.alloc (.cells #[.slice A xs.length c] 36)) os n ∧ wr.ownsRow (w.heap.size + 1) 3 1 v (pick (asked d) xs k).length ((pick (asked d) xs k).map (Value.int .i64)))
    (fun _ i _ => xs.length - (intOf i).toNat)
  case atStart => exact ⟨0, #[], _, Nat.zero_le _, rfl, plus_nil.symm, own_none⟩
  case round =>
    obtain ⟨k, os, n, hk, rfl, rfl, hown⟩ := hrel
    by_cases hlt : k < xs.length
    · obtain ⟨b, off, rfl, hb, hcell⟩ := HA.out (by omega)
      have hxk : xs[k]? = some xs[k] := List.getElem?_eq_getElem hlt
      have hc0 := hcell k hlt
      clear hcell
      have hgk := HG.out k hlt
      generalize xs[k] = x at hc0 hxk hgk
      have hcases : ((0 < x.ti ∧ x.du ≤ d ∧ x.bu < d) ∧ asked d x = true) ∨ (¬ 0 < x.ti ∧ asked d x = false) ∨ (0 < x.ti ∧ ¬ x.du ≤ d ∧ asked d x = false) ∨ (0 < x.ti ∧ x.du ≤ d ∧ ¬ x.bu < d ∧ asked d x = false) := by
        have h0 := hgk.1
        unfold asked
        simp only [decide_eq_true_eq, decide_eq_false_iff_not]
        omega
      clear hgk
      obtain ⟨c0, c1, c2, c3, c4, c5, c6, c7, c8⟩ := hc0
      have HX := hide hxk
      have hpl := pick_le (asked d) xs k
      clear hxk
      rcases hcases with ⟨⟨q1, q2, q3⟩, hq⟩ | ⟨q1, hq⟩ | ⟨q1, q2, hq⟩ | ⟨q1, q2, q3, hq⟩
      · have HQ := hide hq
        clear hq
        go_wp2_with ((at_builtin; refine wpList_append_int rfl (.tmp 30) (.tmp 32) rfl (w.heap.size + 1) _ _ (pick (asked d) xs k) _ _ rfl ((hown.alloc _)) rfl (by simp [plus_size]) (by omega) (by simp [plus_size]; omega) ?_; intro v' w1 hown1 hb1; obtain ⟨os3, n3, rfl⟩ := over_plus (L := w.alloc (.cells #[.slice (some ⟨b, off, none⟩) xs.length c] 36)) (by simp) (by repeat (first | exact Below.refl _ _ | refine bl_plus ?_ | refine bl_alloc ?_ _ | refine bl_drew ?_)) hb1; clear hb1))
        go_roundw
        case rel => exact ⟨k + 1, _, _, hlt, by go_num, rfl, by rw [pick_yes HX.out HQ.out]; simpa using hown1⟩
        case measure => simp [intOf]; omega
      · have HQ := hide hq
        clear hq
        go_wp2
        go_roundw
        case rel => exact ⟨k + 1, _, _, hlt, by go_num, by rw [plus_alloc], by rw [pick_no HX.out HQ.out]; exact hown.alloc _⟩
        case measure => simp [intOf]; omega
      · have HQ := hide hq
        clear hq
        go_wp2
        go_roundw
        case rel => exact ⟨k + 1, _, _, hlt, by go_num, by rw [plus_alloc], by rw [pick_no HX.out HQ.out]; exact hown.alloc _⟩
        case measure => simp [intOf]; omega
      · have HQ := hide hq
        clear hq
        go_wp2
        go_roundw
        case rel => exact ⟨k + 1, _, _, hlt, by go_num, by rw [plus_alloc], by rw [pick_no HX.out HQ.out]; exact hown.alloc _⟩
        case measure => simp [intOf]; omega
    · have hkl : k = xs.length := by omega
      subst hkl
      obtain ⟨B, c', rfl, hnc, hcm, hBn⟩ := own_form hown
      have hsrt := sortDueAt_any w.heap.size A B c c' _ (w.heap.size + 1) xs d w _ HA.out (bl_plus (bl_alloc (Below.refl _ _) _)) (Nat.le_succ _) (by rw [plus_size, World.size_alloc]; omega) (Nat.lt_succ_self _) (by rw [plus_cell (by simp)]; simp) hl hown
      have HS := hide hsrt
      clear hsrt hown
      go_wp2_with ((go_at_call 93; refine HS.out.mono ?_; rintro e w' ⟨rfl, hb, hown2⟩; obtain ⟨os3, n3, rfl⟩ := over_plus (L := w.alloc (.cells #[.slice A xs.length c] 36)) (by simp) (by repeat (first | exact Below.refl _ _ | refine bl_plus ?_ | refine bl_alloc ?_ _ | refine bl_drew ?_)) hb; clear hb; have HO := hide hown2; clear hown2))
      go_returns
      exact dueOut_mk HO.out (by first | exact Nat.le_refl _ | assumption) (by repeat (first | exact Below.refl _ _ | refine bl_plus ?_ | refine bl_alloc ?_ _ | refine bl_drew ?_))

end Go.Proofs.Ytokghdcfbbogdaa
/-
  A LAW AT append: one int to a slice of ints in a block that the call has made and that may be longer than the slice can grow (behind slices.Clip, behind a slice of a slice).
-/
namespace Go.Proofs.Ytokghdcfbbogdaa
open Go.RowKit

theorem HalfOwn.kept {w w' : World} {base : Nat} {v : Value} {ns : List Int} (h : HalfOwn w base v ns) (hh : ∀ k o, w.heap[k]? = some o → base ≤ k → w'.heap[k]? = some o) : HalfOwn w' base v ns := by
  obtain ⟨A, c, rfl, h1, h2, h3⟩ := h
  refine ⟨A, c, rfl, h1, h2, ?_⟩
  rcases h3 with h3 | ⟨g, cur, hA, hg, hb, h4, h5⟩
  · exact .inl h3
  · exact .inr ⟨g, cur, hA, hg, hh g _ hb hg, h4, h5⟩
theorem HalfOwn.alloc {w : World} {base : Nat} {v : Value} {ns : List Int} (h : HalfOwn w base v ns) (o : Obj) : HalfOwn (w.alloc o) base v ns :=
  h.kept fun k o' hk _ => by
    rcases Nat.lt_or_ge k w.heap.size with h1 | h1
    · rw [Below.heap_alloc w o k h1]; exact hk
    · rw [Array.getElem?_eq_none h1] at hk; cases hk
theorem HalfOwn.plus {w : World} {base : Nat} {v : Value} {ns : List Int} (h : HalfOwn w base v ns) (os : Array Obj) (n : Nat) : HalfOwn (plus w os n) base v ns :=
  h.kept fun k o' hk _ => by
    rcases Nat.lt_or_ge k w.heap.size with h1 | h1
    · rw [plus_heap h1]; exact hk
    · rw [Array.getElem?_eq_none h1] at hk; cases hk
theorem HalfOwn.lower {w : World} {base base' : Nat} {v : Value} {ns : List Int} (h : HalfOwn w base v ns) (hb : base' ≤ base) : HalfOwn w base' v ns := by
  obtain ⟨A, c, rfl, h1, h2, h3⟩ := h
  refine ⟨A, c, rfl, h1, h2, ?_⟩
  rcases h3 with h3 | ⟨g, cur, hA, hg, h4⟩
  · exact .inl h3
  · exact .inr ⟨g, cur, hA, by omega, h4⟩
/-- What is half owned reads as numbers. -/
theorem HalfOwn.ints {w : World} {base : Nat} {A : Option Addr} {n c : Nat} {ns : List Int} (h : HalfOwn w base (.slice A n c) ns) : n = ns.length ∧ n ≤ c ∧ c ≤ maxLen ∧ IntsAt w A ns := by
  obtain ⟨A', c', hv, h1, h2, h3⟩ := h
  injection hv with e1 e2 e3
  subst e1 e2 e3
  refine ⟨rfl, h1, h2, fun hl => ?_⟩
  rcases h3 with ⟨_, h0, _⟩ | ⟨g, cur, hA, hg, hb, h4, h5⟩
  · omega
  · refine ⟨g, 0, hA, ?_, fun j hj => ?_⟩
    · rcases Nat.lt_or_ge g w.heap.size with hlt | hge
      · exact hlt
      · rw [Array.getElem?_eq_none hge] at hb; cases hb
    · rw [Nat.zero_add, cell_of_row w g j cur _ (0, 0) hb]
      have : (cur.toList.take ns.length)[j]? = (ns.map (Value.int .i64))[j]? := by rw [h5]
      rw [List.getElem?_take_of_lt (by omega), List.getElem?_map, List.getElem?_eq_getElem hj] at this
      simpa using this
/-- The head of what is half owned. -/
theorem HalfOwn.take {w : World} {base : Nat} {A : Option Addr} {n c : Nat} {ns : List Int} (h : HalfOwn w base (.slice A n c) ns) (k : Nat) (hk : k ≤ n) : HalfOwn w base (.slice A k c) (ns.take k) := by
  obtain ⟨A', c', hv, h1, h2, h3⟩ := h
  injection hv with e1 e2 e3
  subst e1 e2 e3
  have hl : (ns.take k).length = k := by rw [List.length_take]; omega
  refine ⟨A, c, by rw [hl], by omega, h2, ?_⟩
  rcases h3 with ⟨h4, h5, h6⟩ | ⟨g, cur, hA, hg, hb, h4, h5⟩
  · exact .inl ⟨h4, by omega, h6⟩
  · refine .inr ⟨g, cur, hA, hg, hb, h4, ?_⟩
    rw [hl, List.map_take, ← h5, List.take_take, Nat.min_eq_left (by omega)]

theorem run_append_half {W : World} {base : Nat} {v : Value} {ns : List Int} {y : Int} {ad : Addr} (h : HalfOwn W base v ns) (hx : W.cell? ad = some (.int .i64 y)) (hplain : ad.add 0 = ad) (hn : ns.length < 17000000000000) (hbase : base ≤ W.heap.size) :
    ∃ v' w', (Builtin.append_ #[31, 31] 31 #[v, .slice (some ad) 1 1]).run Try.prog W = .ok v' w' ∧ HalfOwn w' base v' (ns ++ [y]) ∧ Below base W w' := by
  obtain ⟨i0, hi, hz0, hz1, hz2⟩ := info_parts info_int
  have hnews : ∀ j u, [Value.int .i64 y][j]? = some u → W.cell? (ad.add j) = some u := by
    intro j u hj
    match j, hj with
    | 0, hj => simp at hj; subst hj; rw [hplain]; exact hx
    | _ + 1, hj => simp at hj
  have h1 : ∀ u ∈ [Value.int .i64 y], u.oneCell' = true := by intro u hu; simp at hu; subst hu; rfl
  obtain ⟨A, c, rfl, hc1, hc2, h3⟩ := h
  rcases h3 with ⟨rfl, h0, rfl⟩ | ⟨g, cur, rfl, hg, hb, h4, h5⟩
  · have hns : ns = [] := List.length_eq_zero_iff.1 h0
    subst hns
    obtain ⟨v', w', hr, hown, hgr, _⟩ := run_append_own W base 31 31 3 i0 (.int .i64 0) 1 8 Try.underlying31 hi hz0 hz1 hz2 rfl (by decide) (.slice none 0 0) 0 [] (World.ownsRow_nil _ _ _ _) ad 1 1 [.int .i64 y] rfl hnews h1 (by unfold maxLen; omega) (by omega) hbase
    refine ⟨v', w', hr, ?_, ⟨hgr.os, hgr.tape, hgr.output, hgr.size, fun k hk => hgr.block k (by omega) (by simp [Value.ownBlock])⟩⟩
    obtain ⟨B, cb, rfl, e1, e2, e3⟩ := own_form hown
    refine ⟨B, cb, rfl, e1, e2, ?_⟩
    rcases hown.2 with ⟨hv, h0⟩ | ⟨g, cap, cur, hv, q1, q2, q3, q4, q5, q6⟩
    · omega
    · injection hv with f1 _ f3
      subst f3
      exact .inr ⟨g, cur, f1, q1, q2, by omega, by simpa using q6⟩
  · by_cases hroom : ns.length + 1 ≤ c
    · have hr := run_append_room (P := Try.prog) W 31 31 3 i0 Try.underlying31 hi g ns.length c cur hb ad 1 1 [.int .i64 y] (by simp [hz1]) hnews h1 hroom (by rw [hz1]; simp; omega)
      refine ⟨_, _, hr, ⟨some ⟨g, 0, none⟩, c, by simp, by simp; omega, hc2, .inr ⟨g, _, rfl, hg, setRow_heap W g cur _ _ _ hb, ?_, ?_⟩⟩, ⟨rfl, rfl, rfl, by simp, fun k hk => setRow_other W g k _ (by omega)⟩⟩
      · simp only [hz1, Nat.mul_one, List.size_toArray, List.length_append, List.length_take, List.length_drop, Array.length_toList, List.length_cons, List.length_nil]
        omega
      · rw [hz1, Nat.mul_one, h5]
        simp [List.take_append]
        exact List.take_of_length_le (by simp)
    · have holds : ∀ j u, (ns.map (Value.int .i64))[j]? = some u → W.cell? ((⟨g, 0, none⟩ : Addr).add j) = some u := by
        intro j u hj
        have hadd : (⟨g, 0, none⟩ : Addr).add j = ⟨g, j, none⟩ := by unfold Addr.add; split <;> simp_all
        rw [hadd, cell_of_row W g j cur _ (0, 0) hb]
        rw [← h5, List.getElem?_take] at hj
        split at hj
        · simpa using hj
        · cases hj
      have hr := run_append_grow (P := Try.prog) W 31 31 3 i0 (.int .i64 0) Try.underlying31 hi hz0 ⟨g, 0, none⟩ ns.length c (ns.map (Value.int .i64)) (by simp [hz1]) holds ad 1 1 [.int .i64 y] (by simp [hz1]) hnews (by omega) (by omega) (growslice_fits (by omega) (by rw [hz2]; omega))
      have hge := grownCap_ge W (ns.length + 1) c 3
      have hcm : grownCap W (ns.length + 1) c 3 ≤ maxLen := grownCap_le_maxLen W (ns.length + 1) c 3 (by unfold maxLen; omega)
      refine ⟨_, _, hr, ⟨some ⟨W.heap.size, 0, none⟩, _, by simp, by simpa using hge, hcm, .inr ⟨W.heap.size, _, rfl, hbase, heap_alloc_new W.drew _, ?_, ?_⟩⟩, ⟨rfl, rfl, rfl, by simp, fun k hk => Below.heap_alloc W.drew _ k (by show k < W.heap.size; omega)⟩⟩
      · simp only [Array.size_append, List.size_toArray, size_zeroCells, List.length_map, List.length_cons, List.length_nil, Value.cells]
        simp
        omega
      · simp [List.take_append]
        exact List.take_of_length_le (by simp)

/-- .. in a walk. -/
theorem wpList_append_half {ops : Array Oper} {rest : List Oper} {o : Oper} {a : Act} {W : World} {Q : Exit → Act → World → Prop} (hgd : o.guard = none) (s x : Operand)
    (ho : o.op = .call { callee := .builtin .append, args := #[s, x], argTypes := #[31, 31] }) (hty : o.type = 31) (base : Nat) (v : Value) (ns : List Int) (y : Int) (g : Nat) (hs : a.eval s = v)
    (hown : HalfOwn W base v ns) (hx : a.eval x = .slice (some ⟨g, 0, none⟩) 1 1) (hg : g = W.heap.size) (hn : ns.length < 17000000000000) (hbase : base ≤ W.heap.size)
    (h : ∀ v' w', HalfOwn w' base v' (ns ++ [y]) → Below base W w' → wpList Try.prog ops Q rest (a.put o.dst v') w') :
    wpList Try.prog ops Q (o :: rest) a (W.alloc (.cells #[.int .i64 y] 3)) := by
  subst hg
  refine wpList_plain hgd fun K hK => ?_
  obtain ⟨v', w', hr, h2, h3⟩ := run_append_half (hown.alloc (.cells #[.int .i64 y] 3)) (ad := ⟨W.heap.size, 0, none⟩) (y := y) (by simp) (by simp [Addr.add]) hn (by rw [World.size_alloc]; omega)
  unfold Oper.wp execOp
  simp only [ho, resolve, invoke, builtin, Sem.run_bind, Sem.run_pure, Result.andThen_ok, List.map_toArray, List.map_cons, List.map_nil, hs, hx, hty, hr]
  exact hK _ _ (h v' w' h2 ((Below.alloc (Below.refl _ _) hbase _).trans h3))

end Go.Proofs.Ytokghdcfbbogdaa
/-
  A LAW AT append: one element of K cells to a row that the call owns, with word of what else stays and of where the row then lies (for calls that own two rows at once).
-/
namespace Go.Proofs.Ytokghdcfbbogdaa
open Go.RowKit

/-- A row of elements of K cells in a block that the call has made. -/
def OwnK (K : Nat) (e : TypeId) (w : World) (base : Nat) (v : Value) (n : Nat) (xs : List Value) : Prop :=
  xs.length = n * K ∧ ∃ A c, v = .slice A n c ∧ n ≤ c ∧ c ≤ maxLen ∧ ((A = none ∧ n = 0 ∧ c = 0) ∨ ∃ g cur, A = some ⟨g, 0, none⟩ ∧ base ≤ g ∧ w.heap[g]? = some (.cells cur e (0, 0)) ∧ c * K ≤ cur.size ∧ cur.toList.take (n * K) = xs)
theorem OwnK.empty {K : Nat} {e : TypeId} {w : World} {base : Nat} : OwnK K e w base (.slice none 0 0) 0 [] := ⟨by simp, none, 0, rfl, Nat.le_refl _, by simp [maxLen], .inl ⟨rfl, rfl, rfl⟩⟩
theorem OwnK.kept {K : Nat} {e : TypeId} {w w' : World} {base : Nat} {v : Value} {n : Nat} {xs : List Value} (h : OwnK K e w base v n xs) (hh : ∀ k, v.ownBlock = some k → w'.heap[k]? = w.heap[k]?) : OwnK K e w' base v n xs := by
  obtain ⟨hl, A, c, rfl, h1, h2, h3⟩ := h
  refine ⟨hl, A, c, rfl, h1, h2, ?_⟩
  rcases h3 with h3 | ⟨g, cur, rfl, hg, hb, h4, h5⟩
  · exact .inl h3
  · exact .inr ⟨g, cur, rfl, hg, by rw [hh g rfl]; exact hb, h4, h5⟩
theorem OwnK.lt {K : Nat} {e : TypeId} {w : World} {base : Nat} {v : Value} {n : Nat} {xs : List Value} (h : OwnK K e w base v n xs) : ∀ k, v.ownBlock = some k → base ≤ k ∧ k < w.heap.size := by
  intro k hk
  obtain ⟨_, A, c, rfl, _, _, h3⟩ := h
  rcases h3 with ⟨rfl, _⟩ | ⟨g, cur, rfl, hg, hb, _⟩
  · cases hk
  · injection hk with hk
    subst hk
    exact ⟨hg, (Array.getElem?_eq_some_iff.1 hb).1⟩

theorem run_append_k {K : Nat} {t e : TypeId} {i0 : TypeInfo} {z : Value} {W : World} {base n : Nat} {v : Value} {xs news : List Value} {ad : Addr} (ht : Try.prog.underlying t = some (.slice e)) (hi : Try.prog.info? e = some i0) (hz0 : i0.zero = some z) (hz1 : i0.size = K) (hK : 0 < K) (hzs : z.cells.size = K)
    (hby : i0.bytes ≤ 1000) (h : OwnK K e W base v n xs) (hl : news.length = K) (hnews : ∀ j u, news[j]? = some u → W.cell? (ad.add j) = some u) (h1 : ∀ u ∈ news, u.oneCell' = true) (hn : n < 1000000) (hbase : base ≤ W.heap.size) :
    ∃ v' w', (Builtin.append_ #[t, t] t #[v, .slice (some ad) 1 1]).run Try.prog W = .ok v' w' ∧ OwnK K e w' base v' (n + 1) (xs ++ news) ∧ W.grownBy w' v.ownBlock ∧ (v'.ownBlock = v.ownBlock ∨ ∃ g, v'.ownBlock = some g ∧ W.heap.size ≤ g) := by
  have hmul : (n + 1) * i0.bytes ≤ 140737488355328 := Nat.le_trans (Nat.mul_le_mul (show n + 1 ≤ 1000000 by omega) hby) (by omega)
  obtain ⟨hxl, A, c, rfl, hc1, hc2, h3⟩ := h
  have hlen : (xs ++ news).length = (n + 1) * K := by rw [List.length_append, hxl, hl, Nat.add_mul, Nat.one_mul]
  rcases h3 with ⟨rfl, rfl, rfl⟩ | ⟨g, cur, rfl, hg, hb, h4, h5⟩
  · have hns : xs = [] := List.length_eq_zero_iff.1 (by simpa using hxl)
    subst hns
    have hr := run_append_nil (P := Try.prog) W t t e i0 z ht hi hz0 ad 1 1 news (by rw [hz1, hl]; simp) hnews (by omega) (by omega) (by have := hby; omega)
    have hge := grownCap_ge W 1 0 e
    have hcm : grownCap W 1 0 e ≤ maxLen := grownCap_le_maxLen W 1 0 e (by unfold maxLen; omega)
    refine ⟨_, _, hr, ⟨hlen, some ⟨W.heap.size, 0, none⟩, _, rfl, by simpa using hge, hcm, .inr ⟨W.heap.size, _, rfl, hbase, heap_alloc_new W.drew _, ?_, ?_⟩⟩, ⟨rfl, rfl, rfl, by simp, fun k hk _ => Below.heap_alloc W.drew _ k hk⟩, .inr ⟨_, rfl, Nat.le_refl _⟩⟩
    · simp only [Array.size_append, List.size_toArray, size_zeroCells, hl, hzs]
      generalize grownCap W 1 0 e = G at hge
      obtain ⟨G, rfl⟩ : ∃ q, G = q + 1 := ⟨G - 1, by omega⟩
      rw [Nat.add_sub_cancel, Nat.add_mul, Nat.one_mul]
      try simp
      omega
    · simp only [Array.toList_append, Nat.zero_add, Nat.one_mul, List.nil_append]
      rw [List.take_append_of_le_length (by first | omega | (simp; omega))]
      exact List.take_of_length_le (by first | omega | (simp; omega))
  · by_cases hroom : n + 1 ≤ c
    · have hfit : n * i0.size + news.length ≤ cur.size := by
        rw [hl, hz1]
        have : (n + 1) * K ≤ c * K := Nat.mul_le_mul_right _ hroom
        rw [Nat.add_mul, Nat.one_mul] at this
        omega
      have hr := run_append_room (P := Try.prog) W t t e i0 ht hi g n c cur hb ad 1 1 news (by rw [hz1, hl]; simp) hnews h1 hroom hfit
      refine ⟨_, _, hr, ⟨hlen, some ⟨g, 0, none⟩, c, rfl, hroom, hc2, .inr ⟨g, _, rfl, hg, setRow_heap W g cur _ _ _ hb, ?_, ?_⟩⟩, ⟨rfl, rfl, rfl, by simp, fun k _ hk => setRow_other W g k _ (fun e => hk (by simp [Value.ownBlock, e]))⟩, .inl rfl⟩
      · simp only [List.size_toArray, List.length_append, List.length_take, List.length_drop, Array.length_toList]
        rw [hz1] at hfit ⊢
        omega
      · rw [hz1, h5, ← hlen]
        exact List.take_left
    · have holds : ∀ j u, xs[j]? = some u → W.cell? ((⟨g, 0, none⟩ : Addr).add j) = some u := by
        intro j u hj
        have hadd : (⟨g, 0, none⟩ : Addr).add j = ⟨g, j, none⟩ := by unfold Addr.add; split <;> simp_all
        rw [hadd, cell_of_row W g j cur _ (0, 0) hb]
        rw [← h5, List.getElem?_take] at hj
        split at hj
        · simpa using hj
        · cases hj
      have hr := run_append_grow (P := Try.prog) W t t e i0 z ht hi hz0 ⟨g, 0, none⟩ n c xs (by rw [hz1]; exact hxl) holds ad 1 1 news (by rw [hz1, hl]; simp) hnews (by omega) (by omega) (growslice_fits (by omega) hmul)
      have hge := grownCap_ge W (n + 1) c e
      have hcm : grownCap W (n + 1) c e ≤ maxLen := grownCap_le_maxLen W (n + 1) c e (by unfold maxLen; omega)
      refine ⟨_, _, hr, ⟨hlen, some ⟨W.heap.size, 0, none⟩, _, rfl, hge, hcm, .inr ⟨W.heap.size, _, rfl, hbase, heap_alloc_new W.drew _, ?_, ?_⟩⟩, ⟨rfl, rfl, rfl, by simp, fun k hk _ => Below.heap_alloc W.drew _ k hk⟩, .inr ⟨_, rfl, Nat.le_refl _⟩⟩
      · simp only [Array.size_append, List.size_toArray, size_zeroCells, hl, hzs, hxl]
        generalize grownCap W (n + 1) c e = G at hge
        obtain ⟨G, rfl⟩ : ∃ q, G = q + (n + 1) := ⟨G - (n + 1), by omega⟩
        rw [Nat.add_sub_cancel, Nat.add_mul, Nat.add_mul, Nat.one_mul]
        omega
      · simp only [Array.toList_append]
        rw [← hlen]
        exact List.take_left

/-- .. in a walk. -/
theorem wpList_append_k {K : Nat} {t e : TypeId} {i0 : TypeInfo} {z : Value} {ops : Array Oper} {rest : List Oper} {o : Oper} {a : Act} {W : World} {Q : Exit → Act → World → Prop} (hgd : o.guard = none) (s x : Operand)
    (ho : o.op = .call { callee := .builtin .append, args := #[s, x], argTypes := #[t, t] }) (hty : o.type = t) (ht : Try.prog.underlying t = some (.slice e)) (hi : Try.prog.info? e = some i0) (hz0 : i0.zero = some z) (hz1 : i0.size = K) (hK : 0 < K) (hzs : z.cells.size = K) (hby : i0.bytes ≤ 1000)
    (base n : Nat) (v : Value) (xs news : List Value) (g : Nat) (hs : a.eval s = v) (hown : OwnK K e W base v n xs) (hl : news.length = K) (h1 : ∀ u ∈ news, u.oneCell' = true)
    (hx : a.eval x = .slice (some ⟨g, 0, none⟩) 1 1) (hnews : ∀ j u, news[j]? = some u → W.cell? ((⟨g, 0, none⟩ : Addr).add j) = some u) (hn : n < 1000000) (hbase : base ≤ W.heap.size)
    (h : ∀ v' w', OwnK K e w' base v' (n + 1) (xs ++ news) → W.grownBy w' v.ownBlock → (v'.ownBlock = v.ownBlock ∨ ∃ g, v'.ownBlock = some g ∧ W.heap.size ≤ g) → wpList Try.prog ops Q rest (a.put o.dst v') w') :
    wpList Try.prog ops Q (o :: rest) a W := by
  refine wpList_plain hgd fun K' hK' => ?_
  obtain ⟨v', w', hr, h2, h3, h4⟩ := run_append_k ht hi hz0 hz1 hK hzs hby hown hl hnews h1 hn hbase
  unfold Oper.wp execOp
  simp only [ho, resolve, invoke, builtin, Sem.run_bind, Sem.run_pure, Result.andThen_ok, List.map_toArray, List.map_cons, List.map_nil, hs, hx, hty, hr]
  exact hK' _ _ (h v' w' h2 h3 h4)

end Go.Proofs.Ytokghdcfbbogdaa
