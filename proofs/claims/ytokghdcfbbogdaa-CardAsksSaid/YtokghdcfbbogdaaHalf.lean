/-
  A LAW AT append: one int to a slice of ints in a block that the call has made and that may be longer than the slice can grow (behind slices.Clip, behind a slice of a slice).
-/
import Derived.Test.YtokghdcfbbogdaaDueD
namespace Go.Proofs.Ytokghdcfbbogdaa
open Go.RowKit

theorem HalfOwn.kept {w w' : World} {base : Nat} {v : Value} {ns : List Int} (h : HalfOwn w base v ns) (hh : ∀ k o, w.heap[k]? = some o → base ≤ k → w'.heap[k]? = some o) : HalfOwn w' base v ns := by
  obtain ⟨A, c, rfl, h1, h2, h3⟩ := h
  refine ⟨A, c, rfl, h1, h2, ?_⟩
  rcases h3 with h3 | ⟨g, cur, hA, hg, hb, h4, h5⟩
  · exact .inl h3
  · exact .inr ⟨g, cur, hA, hg, hh g _ hb hg, h4, h5⟩
theorem HalfOwn.alloc {w : World} {base : Nat} {v : Value} {ns : List Int} (h : HalfOwn w base v ns) (o : Obj) : HalfOwn (w.alloc o) base v ns :=
  h.kept fun k o' hk _ => by
    rcases Nat.lt_or_ge k w.heap.size with h1 | h1
    · rw [Below.heap_alloc w o k h1]; exact hk
    · rw [Array.getElem?_eq_none h1] at hk; cases hk
theorem HalfOwn.plus {w : World} {base : Nat} {v : Value} {ns : List Int} (h : HalfOwn w base v ns) (os : Array Obj) (n : Nat) : HalfOwn (plus w os n) base v ns :=
  h.kept fun k o' hk _ => by
    rcases Nat.lt_or_ge k w.heap.size with h1 | h1
    · rw [plus_heap h1]; exact hk
    · rw [Array.getElem?_eq_none h1] at hk; cases hk
theorem HalfOwn.lower {w : World} {base base' : Nat} {v : Value} {ns : List Int} (h : HalfOwn w base v ns) (hb : base' ≤ base) : HalfOwn w base' v ns := by
  obtain ⟨A, c, rfl, h1, h2, h3⟩ := h
  refine ⟨A, c, rfl, h1, h2, ?_⟩
  rcases h3 with h3 | ⟨g, cur, hA, hg, h4⟩
  · exact .inl h3
  · exact .inr ⟨g, cur, hA, by omega, h4⟩
/-- What is half owned reads as numbers. -/
theorem HalfOwn.ints {w : World} {base : Nat} {A : Option Addr} {n c : Nat} {ns : List Int} (h : HalfOwn w base (.slice A n c) ns) : n = ns.length ∧ n ≤ c ∧ c ≤ maxLen ∧ IntsAt w A ns := by
  obtain ⟨A', c', hv, h1, h2, h3⟩ := h
  injection hv with e1 e2 e3
  subst e1 e2 e3
  refine ⟨rfl, h1, h2, fun hl => ?_⟩
  rcases h3 with ⟨_, h0, _⟩ | ⟨g, cur, hA, hg, hb, h4, h5⟩
  · omega
  · refine ⟨g, 0, hA, ?_, fun j hj => ?_⟩
    · rcases Nat.lt_or_ge g w.heap.size with hlt | hge
      · exact hlt
      · rw [Array.getElem?_eq_none hge] at hb; cases hb
    · rw [Nat.zero_add, cell_of_row w g j cur _ (0, 0) hb]
      have : (cur.toList.take ns.length)[j]? = (ns.map (Value.int .i64))[j]? := by rw [h5]
      rw [List.getElem?_take_of_lt (by omega), List.getElem?_map, List.getElem?_eq_getElem hj] at this
      simpa using this
/-- The head of what is half owned. -/
theorem HalfOwn.take {w : World} {base : Nat} {A : Option Addr} {n c : Nat} {ns : List Int} (h : HalfOwn w base (.slice A n c) ns) (k : Nat) (hk : k ≤ n) : HalfOwn w base (.slice A k c) (ns.take k) := by
  obtain ⟨A', c', hv, h1, h2, h3⟩ := h
  injection hv with e1 e2 e3
  subst e1 e2 e3
  have hl : (ns.take k).length = k := by rw [List.length_take]; omega
  refine ⟨A, c, by rw [hl], by omega, h2, ?_⟩
  rcases h3 with ⟨h4, h5, h6⟩ | ⟨g, cur, hA, hg, hb, h4, h5⟩
  · exact .inl ⟨h4, by omega, h6⟩
  · refine .inr ⟨g, cur, hA, hg, hb, h4, ?_⟩
    rw [hl, List.map_take, ← h5, List.take_take, Nat.min_eq_left (by omega)]

theorem run_append_half {W : World} {base : Nat} {v : Value} {ns : List Int} {y : Int} {ad : Addr} (h : HalfOwn W base v ns) (hx : W.cell? ad = some (.int .i64 y)) (hplain : ad.add 0 = ad) (hn : ns.length < 17000000000000) (hbase : base ≤ W.heap.size) :
    ∃ v' w', (Builtin.append_ #[31, 31] 31 #[v, .slice (some ad) 1 1]).run Try.prog W = .ok v' w' ∧ HalfOwn w' base v' (ns ++ [y]) ∧ Below base W w' := by
  obtain ⟨i0, hi, hz0, hz1, hz2⟩ := info_parts info_int
  have hnews : ∀ j u, [Value.int .i64 y][j]? = some u → W.cell? (ad.add j) = some u := by
    intro j u hj
    match j, hj with
    | 0, hj => simp at hj; subst hj; rw [hplain]; exact hx
    | _ + 1, hj => simp at hj
  have h1 : ∀ u ∈ [Value.int .i64 y], u.oneCell' = true := by intro u hu; simp at hu; subst hu; rfl
  obtain ⟨A, c, rfl, hc1, hc2, h3⟩ := h
  rcases h3 with ⟨rfl, h0, rfl⟩ | ⟨g, cur, rfl, hg, hb, h4, h5⟩
  · have hns : ns = [] := List.length_eq_zero_iff.1 h0
    subst hns
    obtain ⟨v', w', hr, hown, hgr, _⟩ := run_append_own W base 31 31 3 i0 (.int .i64 0) 1 8 Try.underlying31 hi hz0 hz1 hz2 rfl (by decide) (.slice none 0 0) 0 [] (World.ownsRow_nil _ _ _ _) ad 1 1 [.int .i64 y] rfl hnews h1 (by unfold maxLen; omega) (by omega) hbase
    refine ⟨v', w', hr, ?_, ⟨hgr.os, hgr.tape, hgr.output, hgr.size, fun k hk => hgr.block k (by omega) (by simp [Value.ownBlock])⟩⟩
    obtain ⟨B, cb, rfl, e1, e2, e3⟩ := own_form hown
    refine ⟨B, cb, rfl, e1, e2, ?_⟩
    rcases hown.2 with ⟨hv, h0⟩ | ⟨g, cap, cur, hv, q1, q2, q3, q4, q5, q6⟩
    · omega
    · injection hv with f1 _ f3
      subst f3
      exact .inr ⟨g, cur, f1, q1, q2, by omega, by simpa using q6⟩
  · by_cases hroom : ns.length + 1 ≤ c
    · have hr := run_append_room (P := Try.prog) W 31 31 3 i0 Try.underlying31 hi g ns.length c cur hb ad 1 1 [.int .i64 y] (by simp [hz1]) hnews h1 hroom (by rw [hz1]; simp; omega)
      refine ⟨_, _, hr, ⟨some ⟨g, 0, none⟩, c, by simp, by simp; omega, hc2, .inr ⟨g, _, rfl, hg, setRow_heap W g cur _ _ _ hb, ?_, ?_⟩⟩, ⟨rfl, rfl, rfl, by simp, fun k hk => setRow_other W g k _ (by omega)⟩⟩
      · simp only [hz1, Nat.mul_one, List.size_toArray, List.length_append, List.length_take, List.length_drop, Array.length_toList, List.length_cons, List.length_nil]
        omega
      · rw [hz1, Nat.mul_one, h5]
        simp [List.take_append]
        exact List.take_of_length_le (by simp)
    · have holds : ∀ j u, (ns.map (Value.int .i64))[j]? = some u → W.cell? ((⟨g, 0, none⟩ : Addr).add j) = some u := by
        intro j u hj
        have hadd : (⟨g, 0, none⟩ : Addr).add j = ⟨g, j, none⟩ := by unfold Addr.add; split <;> simp_all
        rw [hadd, cell_of_row W g j cur _ (0, 0) hb]
        rw [← h5, List.getElem?_take] at hj
        split at hj
        · simpa using hj
        · cases hj
      have hr := run_append_grow (P := Try.prog) W 31 31 3 i0 (.int .i64 0) Try.underlying31 hi hz0 ⟨g, 0, none⟩ ns.length c (ns.map (Value.int .i64)) (by simp [hz1]) holds ad 1 1 [.int .i64 y] (by simp [hz1]) hnews (by omega) (by omega) (growslice_fits (by omega) (by rw [hz2]; omega))
      have hge := grownCap_ge W (ns.length + 1) c 3
      have hcm : grownCap W (ns.length + 1) c 3 ≤ maxLen := grownCap_le_maxLen W (ns.length + 1) c 3 (by unfold maxLen; omega)
      refine ⟨_, _, hr, ⟨some ⟨W.heap.size, 0, none⟩, _, by simp, by simpa using hge, hcm, .inr ⟨W.heap.size, _, rfl, hbase, heap_alloc_new W.drew _, ?_, ?_⟩⟩, ⟨rfl, rfl, rfl, by simp, fun k hk => Below.heap_alloc W.drew _ k (by show k < W.heap.size; omega)⟩⟩
      · simp only [Array.size_append, List.size_toArray, size_zeroCells, List.length_map, List.length_cons, List.length_nil, Value.cells]
        simp
        omega
      · simp [List.take_append]
        exact List.take_of_length_le (by simp)

/-- .. in a walk. -/
theorem wpList_append_half {ops : Array Oper} {rest : List Oper} {o : Oper} {a : Act} {W : World} {Q : Exit → Act → World → Prop} (hgd : o.guard = none) (s x : Operand)
    (ho : o.op = .call { callee := .builtin .append, args := #[s, x], argTypes := #[31, 31] }) (hty : o.type = 31) (base : Nat) (v : Value) (ns : List Int) (y : Int) (g : Nat) (hs : a.eval s = v)
    (hown : HalfOwn W base v ns) (hx : a.eval x = .slice (some ⟨g, 0, none⟩) 1 1) (hg : g = W.heap.size) (hn : ns.length < 17000000000000) (hbase : base ≤ W.heap.size)
    (h : ∀ v' w', HalfOwn w' base v' (ns ++ [y]) → Below base W w' → wpList Try.prog ops Q rest (a.put o.dst v') w') :
    wpList Try.prog ops Q (o :: rest) a (W.alloc (.cells #[.int .i64 y] 3)) := by
  subst hg
  refine wpList_plain hgd fun K hK => ?_
  obtain ⟨v', w', hr, h2, h3⟩ := run_append_half (hown.alloc (.cells #[.int .i64 y] 3)) (ad := ⟨W.heap.size, 0, none⟩) (y := y) (by simp) (by simp [Addr.add]) hn (by rw [World.size_alloc]; omega)
  unfold Oper.wp execOp
  simp only [ho, resolve, invoke, builtin, Sem.run_bind, Sem.run_pure, Result.andThen_ok, List.map_toArray, List.map_cons, List.map_nil, hs, hx, hty, hr]
  exact hK _ _ (h v' w' h2 ((Below.alloc (Below.refl _ _) hbase _).trans h3))

end Go.Proofs.Ytokghdcfbbogdaa
