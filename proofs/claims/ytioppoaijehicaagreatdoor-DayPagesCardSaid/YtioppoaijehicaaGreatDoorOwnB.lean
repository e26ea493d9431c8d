/-
  A LAW AT append: one element of K cells to a row that the call owns, however long, as far as it fits into memory.
-/
import Derived.Test.YtioppoaijehicaaGreatDoorOwnG
set_option linter.all false
namespace Go.Proofs.YtioppoaijehicaaGreatDoor
open Go.RowKit

theorem run_append_b {K : Nat} {t e : TypeId} {i0 : TypeInfo} {z : Value} {W : World} {base n : Nat} {v : Value} {xs news : List Value} {ad : Addr} (ht : Tryz.prog.underlying t = some (.slice e)) (hi : Tryz.prog.info? e = some i0) (hz0 : i0.zero = some z) (hz1 : i0.size = K) (hK : 0 < K) (hzs : z.cells.size = K)
    (hby : i0.bytes ≤ 1000) (h : OwnK K e W base v n xs) (hl : news.length = K) (hnews : ∀ j u, news[j]? = some u → W.cell? (ad.add j) = some u) (h1 : ∀ u ∈ news, u.oneCell' = true) (hn : (n + 1) * i0.bytes ≤ 140737488355328 ∧ n + 1 ≤ 140737488355328) (hbase : base ≤ W.heap.size) :
    ∃ v' w', (Builtin.append_ #[t, t] t #[v, .slice (some ad) 1 1]).run Tryz.prog W = .ok v' w' ∧ OwnK K e w' base v' (n + 1) (xs ++ news) ∧ W.grownBy w' v.ownBlock ∧ (v'.ownBlock = v.ownBlock ∨ ∃ g, v'.ownBlock = some g ∧ W.heap.size ≤ g) := by
  obtain ⟨hmul, hn⟩ := hn
  obtain ⟨hxl, A, c, rfl, hc1, hc2, h3⟩ := h
  have hlen : (xs ++ news).length = (n + 1) * K := by rw [List.length_append, hxl, hl, Nat.add_mul, Nat.one_mul]
  rcases h3 with ⟨rfl, rfl, rfl⟩ | ⟨g, cur, rfl, hg, hb, h4, h5⟩
  · have hns : xs = [] := List.length_eq_zero_iff.1 (by simpa using hxl)
    subst hns
    have hr := run_append_nil (P := Tryz.prog) W t t e i0 z ht hi hz0 ad 1 1 news (by rw [hz1, hl]; simp) hnews (by omega) (by omega) (by have := hby; omega)
    have hge := grownCap_ge W 1 0 e
    have hcm : grownCap W 1 0 e ≤ maxLen := grownCap_le_maxLen W 1 0 e (by unfold maxLen; omega)
    refine ⟨_, _, hr, ⟨hlen, some ⟨W.heap.size, 0, none⟩, _, rfl, by simpa using hge, hcm, .inr ⟨W.heap.size, _, rfl, hbase, heap_alloc_new W.drew _, ?_, ?_⟩⟩, ⟨rfl, rfl, rfl, by simp, fun k hk _ => Below.heap_alloc W.drew _ k hk⟩, .inr ⟨_, rfl, Nat.le_refl _⟩⟩
    · simp only [Array.size_append, List.size_toArray, size_zeroCells, hl, hzs]
      generalize grownCap W 1 0 e = G at hge
      obtain ⟨G, rfl⟩ : ∃ q, G = q + 1 := ⟨G - 1, by omega⟩
      rw [Nat.add_sub_cancel, Nat.add_mul, Nat.one_mul]
      try simp
      omega
    · simp only [Array.toList_append, Nat.zero_add, Nat.one_mul, List.nil_append]
      rw [List.take_append_of_le_length (by first | omega | (simp; omega))]
      exact List.take_of_length_le (by first | omega | (simp; omega))
  · by_cases hroom : n + 1 ≤ c
    · have hfit : n * i0.size + news.length ≤ cur.size := by
        rw [hl, hz1]
        have : (n + 1) * K ≤ c * K := Nat.mul_le_mul_right _ hroom
        rw [Nat.add_mul, Nat.one_mul] at this
        omega
      have hr := run_append_room (P := Tryz.prog) W t t e i0 ht hi g n c cur hb ad 1 1 news (by rw [hz1, hl]; simp) hnews h1 hroom hfit
      refine ⟨_, _, hr, ⟨hlen, some ⟨g, 0, none⟩, c, rfl, hroom, hc2, .inr ⟨g, _, rfl, hg, setRow_heap W g cur _ _ _ hb, ?_, ?_⟩⟩, ⟨rfl, rfl, rfl, by simp, fun k _ hk => setRow_other W g k _ (fun e => hk (by simp [Value.ownBlock, e]))⟩, .inl rfl⟩
      · simp only [List.size_toArray, List.length_append, List.length_take, List.length_drop, Array.length_toList]
        rw [hz1] at hfit ⊢
        omega
      · rw [hz1, h5, ← hlen]
        exact List.take_left
    · have holds : ∀ j u, xs[j]? = some u → W.cell? ((⟨g, 0, none⟩ : Addr).add j) = some u := by
        intro j u hj
        have hadd : (⟨g, 0, none⟩ : Addr).add j = ⟨g, j, none⟩ := by unfold Addr.add; split <;> simp_all
        rw [hadd, cell_of_row W g j cur _ (0, 0) hb]
        rw [← h5, List.getElem?_take] at hj
        split at hj
        · simpa using hj
        · cases hj
      have hr := run_append_grow (P := Tryz.prog) W t t e i0 z ht hi hz0 ⟨g, 0, none⟩ n c xs (by rw [hz1]; exact hxl) holds ad 1 1 news (by rw [hz1, hl]; simp) hnews (by omega) (by omega) (growslice_fits (by omega) hmul)
      have hge := grownCap_ge W (n + 1) c e
      have hcm : grownCap W (n + 1) c e ≤ maxLen := grownCap_le_maxLen W (n + 1) c e (by unfold maxLen; omega)
      refine ⟨_, _, hr, ⟨hlen, some ⟨W.heap.size, 0, none⟩, _, rfl, hge, hcm, .inr ⟨W.heap.size, _, rfl, hbase, heap_alloc_new W.drew _, ?_, ?_⟩⟩, ⟨rfl, rfl, rfl, by simp, fun k hk _ => Below.heap_alloc W.drew _ k hk⟩, .inr ⟨_, rfl, Nat.le_refl _⟩⟩
      · simp only [Array.size_append, List.size_toArray, size_zeroCells, hl, hzs, hxl]
        generalize grownCap W (n + 1) c e = G at hge
        obtain ⟨G, rfl⟩ : ∃ q, G = q + (n + 1) := ⟨G - (n + 1), by omega⟩
        rw [Nat.add_sub_cancel, Nat.add_mul, Nat.add_mul, Nat.one_mul]
        omega
      · simp only [Array.toList_append]
        rw [← hlen]
        exact List.take_left

/-- .. in a walk. -/
theorem wpList_append_b {K : Nat} {t e : TypeId} {i0 : TypeInfo} {z : Value} {ops : Array Oper} {rest : List Oper} {o : Oper} {a : Act} {W : World} {Q : Exit → Act → World → Prop} (hgd : o.guard = none) (s x : Operand)
    (ho : o.op = .call { callee := .builtin .append, args := #[s, x], argTypes := #[t, t] }) (hty : o.type = t) (ht : Tryz.prog.underlying t = some (.slice e)) (hi : Tryz.prog.info? e = some i0) (hz0 : i0.zero = some z) (hz1 : i0.size = K) (hK : 0 < K) (hzs : z.cells.size = K) (hby : i0.bytes ≤ 1000)
    (base n : Nat) (v : Value) (xs news : List Value) (g : Nat) (hs : a.eval s = v) (hown : OwnK K e W base v n xs) (hl : news.length = K) (h1 : ∀ u ∈ news, u.oneCell' = true)
    (hx : a.eval x = .slice (some ⟨g, 0, none⟩) 1 1) (hnews : ∀ j u, news[j]? = some u → W.cell? ((⟨g, 0, none⟩ : Addr).add j) = some u) (hn : (n + 1) * i0.bytes ≤ 140737488355328 ∧ n + 1 ≤ 140737488355328) (hbase : base ≤ W.heap.size)
    (h : ∀ v' w', OwnK K e w' base v' (n + 1) (xs ++ news) → W.grownBy w' v.ownBlock → (v'.ownBlock = v.ownBlock ∨ ∃ g, v'.ownBlock = some g ∧ W.heap.size ≤ g) → wpList Tryz.prog ops Q rest (a.put o.dst v') w') :
    wpList Tryz.prog ops Q (o :: rest) a W := by
  refine wpList_plain hgd fun K' hK' => ?_
  obtain ⟨v', w', hr, h2, h3, h4⟩ := run_append_b ht hi hz0 hz1 hK hzs hby hown hl hnews h1 hn hbase
  unfold Oper.wp execOp
  simp only [ho, resolve, invoke, builtin, Sem.run_bind, Sem.run_pure, Result.andThen_ok, List.map_toArray, List.map_cons, List.map_nil, hs, hx, hty, hr]
  exact hK' _ _ (h v' w' h2 h3 h4)

/-- .. as a step of a region that draws its order. -/
theorem step_append_b {K : Nat} {t e : TypeId} {i0 : TypeInfo} {z : Value} {ops : Array Oper} {o : Oper} {a : Act} {W : World} {KK : Act → World → Prop} {Q : Exit → Act → World → Prop} {E : Prop} (hgd : o.guard = none) (s x : Operand)
    (ho : o.op = .call { callee := .builtin .append, args := #[s, x], argTypes := #[t, t] }) (hty : o.type = t) (ht : Tryz.prog.underlying t = some (.slice e)) (hi : Tryz.prog.info? e = some i0) (hz0 : i0.zero = some z) (hz1 : i0.size = K) (hK : 0 < K) (hzs : z.cells.size = K) (hby : i0.bytes ≤ 1000)
    (base n : Nat) (v : Value) (xs news : List Value) (g : Nat) (hs : a.eval s = v) (hown : OwnK K e W base v n xs) (hl : news.length = K) (h1 : ∀ u ∈ news, u.oneCell' = true)
    (hx : a.eval x = .slice (some ⟨g, 0, none⟩) 1 1) (hnews : ∀ j u, news[j]? = some u → W.cell? ((⟨g, 0, none⟩ : Addr).add j) = some u) (hn : (n + 1) * i0.bytes ≤ 140737488355328 ∧ n + 1 ≤ 140737488355328) (hbase : base ≤ W.heap.size)
    (h : ∀ v' w', OwnK K e w' base v' (n + 1) (xs ++ news) → W.grownBy w' v.ownBlock → (v'.ownBlock = v.ownBlock ∨ ∃ g, v'.ownBlock = some g ∧ W.heap.size ≤ g) → KK (a.put o.dst v') w') :
    if Region.wanted o (yielded ops a.tmps) = true then Oper.wp Tryz.prog o a W KK Q else E := by
  have hw : Region.wanted o (yielded ops a.tmps) = true := by simp [Region.wanted, hgd]
  rw [if_pos hw]
  obtain ⟨v', w', hr, h2, h3, h4⟩ := run_append_b ht hi hz0 hz1 hK hzs hby hown hl hnews h1 hn hbase
  unfold Oper.wp execOp
  simp only [ho, resolve, invoke, builtin, Sem.run_bind, Sem.run_pure, Result.andThen_ok, List.map_toArray, List.map_cons, List.map_nil, hs, hx, hty, hr]
  exact h v' w' h2 h3 h4

end Go.Proofs.YtioppoaijehicaaGreatDoor
