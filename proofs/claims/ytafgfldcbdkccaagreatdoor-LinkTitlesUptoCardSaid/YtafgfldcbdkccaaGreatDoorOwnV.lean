/-
  A LAW AT append: the elements of any slice, none too, to a row that the call owns and that is not empty.
-/
import Derived.Test.YtafgfldcbdkccaaGreatDoorOwnK
set_option linter.all false
namespace Go.Proofs.YtafgfldcbdkccaaGreatDoor
open Go.RowKit

theorem run_append_v {K : Nat} {t e : TypeId} {i0 : TypeInfo} {z : Value} {W : World} {base n q c2 : Nat} {v : Value} {xs news : List Value} {A2 : Option Addr} (ht : Tryz.prog.underlying t = some (.slice e)) (hi : Tryz.prog.info? e = some i0) (hz0 : i0.zero = some z) (hz1 : i0.size = K) (_ : 0 < K) (hzs : z.cells.size = K)
    (hby : i0.bytes ≤ 1000) (h : OwnK K e W base v n xs) (hn0 : 0 < n) (hl : news.length = q * K) (hsrc : 0 < q → ∃ ad, A2 = some ad ∧ ∀ j u, news[j]? = some u → W.cell? (ad.add j) = some u) (h1 : ∀ u ∈ news, u.oneCell' = true) (hn : n + q ≤ 1000000) (hbase : base ≤ W.heap.size) :
    ∃ v' w', (Builtin.append_ #[t, t] t #[v, .slice A2 q c2]).run Tryz.prog W = .ok v' w' ∧ OwnK K e w' base v' (n + q) (xs ++ news) ∧ W.grownBy w' v.ownBlock ∧ (v'.ownBlock = v.ownBlock ∨ ∃ g, v'.ownBlock = some g ∧ W.heap.size ≤ g) := by
  have hmul : (n + q) * i0.bytes ≤ 140737488355328 := Nat.le_trans (Nat.mul_le_mul (hn) hby) (by omega)
  have hq0 : q = 0 → news = [] := fun e0 => by subst e0; exact List.length_eq_zero_iff.1 (by simpa using hl)
  have hown := h
  obtain ⟨hxl, A, c, rfl, hc1, hc2, h3⟩ := h
  have hlen : (xs ++ news).length = (n + q) * K := by rw [List.length_append, hxl, hl, Nat.add_mul]
  rcases h3 with ⟨rfl, rfl, rfl⟩ | ⟨g, cur, rfl, hg, hb, h4, h5⟩
  · omega
  · cases A2 with
    | none =>
      have hq : q = 0 := by
        rcases Nat.eq_zero_or_pos q with h | h
        · exact h
        · obtain ⟨ad, e, _⟩ := hsrc h
          cases e
      subst hq
      obtain rfl := hq0 rfl
      refine ⟨.slice (some ⟨g, 0, none⟩) n c, W, ?_, by simpa using hown, ⟨rfl, rfl, rfl, Nat.le_refl _, fun _ _ _ => rfl⟩, .inl rfl⟩
      have hst : (storeCells (Addr.add ⟨g, 0, none⟩ (n * i0.size)) []).run Tryz.prog W = .ok () W := by
        simp [storeCells]
      simp [Builtin.append_, run_underlying ht, sizeOf, typeInfo, hi, Builtin.lenOf, Builtin.firstCells, hc1, hst]
    | some ad =>
      have hnews : ∀ j u, news[j]? = some u → W.cell? (ad.add j) = some u := by
        rcases Nat.eq_zero_or_pos q with h | h
        · rw [hq0 h]; intro j u hj; simp at hj
        · obtain ⟨ad', e, hx⟩ := hsrc h
          obtain rfl := Option.some.inj e
          exact hx
      by_cases hroom : n + q ≤ c
      · have hfit : n * i0.size + news.length ≤ cur.size := by
          rw [hl, hz1]
          have : (n + q) * K ≤ c * K := Nat.mul_le_mul_right _ hroom
          rw [Nat.add_mul] at this
          omega
        have hr := run_append_room (P := Tryz.prog) W t t e i0 ht hi g n c cur hb ad q c2 news (by rw [hz1, hl]) hnews h1 hroom hfit
        refine ⟨_, _, hr, ⟨hlen, some ⟨g, 0, none⟩, c, rfl, hroom, hc2, .inr ⟨g, _, rfl, hg, setRow_heap W g cur _ _ _ hb, ?_, ?_⟩⟩, ⟨rfl, rfl, rfl, by simp, fun k _ hk => setRow_other W g k _ (fun e => hk (by simp [Value.ownBlock, e]))⟩, .inl rfl⟩
        · simp only [List.size_toArray, List.length_append, List.length_take, List.length_drop, Array.length_toList]
          rw [hz1] at hfit ⊢
          omega
        · rw [hz1, h5, ← hlen]
          exact List.take_left
      · have holds : ∀ j u, xs[j]? = some u → W.cell? ((⟨g, 0, none⟩ : Addr).add j) = some u := by
          intro j u hj
          have hadd : (⟨g, 0, none⟩ : Addr).add j = ⟨g, j, none⟩ := by unfold Addr.add; split <;> simp_all
          rw [hadd, cell_of_row W g j cur _ (0, 0) hb]
          rw [← h5, List.getElem?_take] at hj
          split at hj
          · simpa using hj
          · cases hj
        have hr := run_append_grow (P := Tryz.prog) W t t e i0 z ht hi hz0 ⟨g, 0, none⟩ n c xs (by rw [hz1]; exact hxl) holds ad q c2 news (by rw [hz1, hl]) hnews (by omega) (by omega) (growslice_fits (by omega) hmul)
        have hge := grownCap_ge W (n + q) c e
        have hcm : grownCap W (n + q) c e ≤ maxLen := grownCap_le_maxLen W (n + q) c e (by unfold maxLen; omega)
        refine ⟨_, _, hr, ⟨hlen, some ⟨W.heap.size, 0, none⟩, _, rfl, hge, hcm, .inr ⟨W.heap.size, _, rfl, hbase, heap_alloc_new W.drew _, ?_, ?_⟩⟩, ⟨rfl, rfl, rfl, by simp, fun k hk _ => Below.heap_alloc W.drew _ k hk⟩, .inr ⟨_, rfl, Nat.le_refl _⟩⟩
        · simp only [Array.size_append, List.size_toArray, size_zeroCells, hl, hzs, hxl]
          generalize grownCap W (n + q) c e = G at hge
          obtain ⟨G, rfl⟩ : ∃ p, G = p + (n + q) := ⟨G - (n + q), by omega⟩
          rw [Nat.add_sub_cancel, Nat.add_mul, Nat.add_mul]
          omega
        · simp only [Array.toList_append]
          rw [← hlen]
          exact List.take_left

/-- .. in a walk. -/
theorem wpList_append_v {K : Nat} {t e : TypeId} {i0 : TypeInfo} {z : Value} {ops : Array Oper} {rest : List Oper} {o : Oper} {a : Act} {W : World} {Q : Exit → Act → World → Prop} (hgd : o.guard = none) (s x : Operand)
    (ho : o.op = .call { callee := .builtin .append, args := #[s, x], argTypes := #[t, t] }) (hty : o.type = t) (ht : Tryz.prog.underlying t = some (.slice e)) (hi : Tryz.prog.info? e = some i0) (hz0 : i0.zero = some z) (hz1 : i0.size = K) (hK : 0 < K) (hzs : z.cells.size = K) (hby : i0.bytes ≤ 1000)
    (base n q c2 : Nat) (v : Value) (xs news : List Value) (A2 : Option Addr) (hs : a.eval s = v) (hown : OwnK K e W base v n xs) (hn0 : 0 < n) (hl : news.length = q * K) (h1 : ∀ u ∈ news, u.oneCell' = true)
    (hx : a.eval x = .slice A2 q c2) (hsrc : 0 < q → ∃ ad, A2 = some ad ∧ ∀ j u, news[j]? = some u → W.cell? (ad.add j) = some u) (hn : n + q ≤ 1000000) (hbase : base ≤ W.heap.size)
    (h : ∀ v' w', OwnK K e w' base v' (n + q) (xs ++ news) → W.grownBy w' v.ownBlock → (v'.ownBlock = v.ownBlock ∨ ∃ g, v'.ownBlock = some g ∧ W.heap.size ≤ g) → wpList Tryz.prog ops Q rest (a.put o.dst v') w') :
    wpList Tryz.prog ops Q (o :: rest) a W := by
  refine wpList_plain hgd fun K' hK' => ?_
  obtain ⟨v', w', hr, h2, h3, h4⟩ := run_append_v (c2 := c2) ht hi hz0 hz1 hK hzs hby hown hn0 hl hsrc h1 hn hbase
  unfold Oper.wp execOp
  simp only [ho, resolve, invoke, builtin, Sem.run_bind, Sem.run_pure, Result.andThen_ok, List.map_toArray, List.map_cons, List.map_nil, hs, hx, hty, hr]
  exact hK' _ _ (h v' w' h2 h3 h4)

end Go.Proofs.YtafgfldcbdkccaaGreatDoor
