/-
  A LAW AT append: one element of K cells to a row that the call owns, with word of what else stays and of where the row then lies (for calls that own two rows at once).
-/
import Derived.Test.YtioppoaijehicaaGreatDoorInts
set_option linter.all false
namespace Go.Proofs.YtioppoaijehicaaGreatDoor
open Go.RowKit

/-- A row of elements of K cells in a block that the call has made. -/
def OwnK (K : Nat) (e : TypeId) (w : World) (base : Nat) (v : Value) (n : Nat) (xs : List Value) : Prop :=
  xs.length = n * K ∧ ∃ A c, v = .slice A n c ∧ n ≤ c ∧ c ≤ maxLen ∧ ((A = none ∧ n = 0 ∧ c = 0) ∨ ∃ g cur, A = some ⟨g, 0, none⟩ ∧ base ≤ g ∧ w.heap[g]? = some (.cells cur e (0, 0)) ∧ c * K ≤ cur.size ∧ cur.toList.take (n * K) = xs)

theorem OwnK.empty {K : Nat} {e : TypeId} {w : World} {base : Nat} : OwnK K e w base (.slice none 0 0) 0 [] := ⟨by simp, none, 0, rfl, Nat.le_refl _, by simp [maxLen], .inl ⟨rfl, rfl, rfl⟩⟩

theorem OwnK.kept {K : Nat} {e : TypeId} {w w' : World} {base : Nat} {v : Value} {n : Nat} {xs : List Value} (h : OwnK K e w base v n xs) (hh : ∀ k, v.ownBlock = some k → w'.heap[k]? = w.heap[k]?) : OwnK K e w' base v n xs := by
  obtain ⟨hl, A, c, rfl, h1, h2, h3⟩ := h
  refine ⟨hl, A, c, rfl, h1, h2, ?_⟩
  rcases h3 with h3 | ⟨g, cur, rfl, hg, hb, h4, h5⟩
  · exact .inl h3
  · exact .inr ⟨g, cur, rfl, hg, by rw [hh g rfl]; exact hb, h4, h5⟩

theorem OwnK.lt {K : Nat} {e : TypeId} {w : World} {base : Nat} {v : Value} {n : Nat} {xs : List Value} (h : OwnK K e w base v n xs) : ∀ k, v.ownBlock = some k → base ≤ k ∧ k < w.heap.size := by
  intro k hk
  obtain ⟨_, A, c, rfl, _, _, h3⟩ := h
  rcases h3 with ⟨rfl, _⟩ | ⟨g, cur, rfl, hg, hb, _⟩
  · cases hk
  · injection hk with hk
    subst hk
    exact ⟨hg, (Array.getElem?_eq_some_iff.1 hb).1⟩

theorem run_append_k {K : Nat} {t e : TypeId} {i0 : TypeInfo} {z : Value} {W : World} {base n : Nat} {v : Value} {xs news : List Value} {ad : Addr} (ht : Tryz.prog.underlying t = some (.slice e)) (hi : Tryz.prog.info? e = some i0) (hz0 : i0.zero = some z) (hz1 : i0.size = K) (hK : 0 < K) (hzs : z.cells.size = K)
    (hby : i0.bytes ≤ 1000) (h : OwnK K e W base v n xs) (hl : news.length = K) (hnews : ∀ j u, news[j]? = some u → W.cell? (ad.add j) = some u) (h1 : ∀ u ∈ news, u.oneCell' = true) (hn : n < 1000000) (hbase : base ≤ W.heap.size) :
    ∃ v' w', (Builtin.append_ #[t, t] t #[v, .slice (some ad) 1 1]).run Tryz.prog W = .ok v' w' ∧ OwnK K e w' base v' (n + 1) (xs ++ news) ∧ W.grownBy w' v.ownBlock ∧ (v'.ownBlock = v.ownBlock ∨ ∃ g, v'.ownBlock = some g ∧ W.heap.size ≤ g) := by
  have hmul : (n + 1) * i0.bytes ≤ 140737488355328 := Nat.le_trans (Nat.mul_le_mul (show n + 1 ≤ 1000000 by omega) hby) (by omega)
  obtain ⟨hxl, A, c, rfl, hc1, hc2, h3⟩ := h
  have hlen : (xs ++ news).length = (n + 1) * K := by rw [List.length_append, hxl, hl, Nat.add_mul, Nat.one_mul]
  rcases h3 with ⟨rfl, rfl, rfl⟩ | ⟨g, cur, rfl, hg, hb, h4, h5⟩
  · have hns : xs = [] := List.length_eq_zero_iff.1 (by simpa using hxl)
    subst hns
    have hr := run_append_nil (P := Tryz.prog) W t t e i0 z ht hi hz0 ad 1 1 news (by rw [hz1, hl]; simp) hnews (by omega) (by omega) (by have := hby; omega)
    have hge := grownCap_ge W 1 0 e
    have hcm : grownCap W 1 0 e ≤ maxLen := grownCap_le_maxLen W 1 0 e (by unfold maxLen; omega)
    refine ⟨_, _, hr, ⟨hlen, some ⟨W.heap.size, 0, none⟩, _, rfl, by simpa using hge, hcm, .inr ⟨W.heap.size, _, rfl, hbase, heap_alloc_new W.drew _, ?_, ?_⟩⟩, ⟨rfl, rfl, rfl, by simp, fun k hk _ => Below.heap_alloc W.drew _ k hk⟩, .inr ⟨_, rfl, Nat.le_refl _⟩⟩
    · simp only [Array.size_append, List.size_toArray, size_zeroCells, hl, hzs]
      generalize grownCap W 1 0 e = G at hge
      obtain ⟨G, rfl⟩ : ∃ q, G = q + 1 := ⟨G - 1, by omega⟩
      rw [Nat.add_sub_cancel, Nat.add_mul, Nat.one_mul]
      try simp
      omega
    · simp only [Array.toList_append, Nat.zero_add, Nat.one_mul, List.nil_append]
      rw [List.take_append_of_le_length (by first | omega | (simp; omega))]
      exact List.take_of_length_le (by first | omega | (simp; omega))
  · by_cases hroom : n + 1 ≤ c
    · have hfit : n * i0.size + news.length ≤ cur.size := by
        rw [hl, hz1]
        have : (n + 1) * K ≤ c * K := Nat.mul_le_mul_right _ hroom
        rw [Nat.add_mul, Nat.one_mul] at this
        omega
      have hr := run_append_room (P := Tryz.prog) W t t e i0 ht hi g n c cur hb ad 1 1 news (by rw [hz1, hl]; simp) hnews h1 hroom hfit
      refine ⟨_, _, hr, ⟨hlen, some ⟨g, 0, none⟩, c, rfl, hroom, hc2, .inr ⟨g, _, rfl, hg, setRow_heap W g cur _ _ _ hb, ?_, ?_⟩⟩, ⟨rfl, rfl, rfl, by simp, fun k _ hk => setRow_other W g k _ (fun e => hk (by simp [Value.ownBlock, e]))⟩, .inl rfl⟩
      · simp only [List.size_toArray, List.length_append, List.length_take, List.length_drop, Array.length_toList]
        rw [hz1] at hfit ⊢
        omega
      · rw [hz1, h5, ← hlen]
        exact List.take_left
    · have holds : ∀ j u, xs[j]? = some u → W.cell? ((⟨g, 0, none⟩ : Addr).add j) = some u := by
        intro j u hj
        have hadd : (⟨g, 0, none⟩ : Addr).add j = ⟨g, j, none⟩ := by unfold Addr.add; split <;> simp_all
        rw [hadd, cell_of_row W g j cur _ (0, 0) hb]
        rw [← h5, List.getElem?_take] at hj
        split at hj
        · simpa using hj
        · cases hj
      have hr := run_append_grow (P := Tryz.prog) W t t e i0 z ht hi hz0 ⟨g, 0, none⟩ n c xs (by rw [hz1]; exact hxl) holds ad 1 1 news (by rw [hz1, hl]; simp) hnews (by omega) (by omega) (growslice_fits (by omega) hmul)
      have hge := grownCap_ge W (n + 1) c e
      have hcm : grownCap W (n + 1) c e ≤ maxLen := grownCap_le_maxLen W (n + 1) c e (by unfold maxLen; omega)
      refine ⟨_, _, hr, ⟨hlen, some ⟨W.heap.size, 0, none⟩, _, rfl, hge, hcm, .inr ⟨W.heap.size, _, rfl, hbase, heap_alloc_new W.drew _, ?_, ?_⟩⟩, ⟨rfl, rfl, rfl, by simp, fun k hk _ => Below.heap_alloc W.drew _ k hk⟩, .inr ⟨_, rfl, Nat.le_refl _⟩⟩
      · simp only [Array.size_append, List.size_toArray, size_zeroCells, hl, hzs, hxl]
        generalize grownCap W (n + 1) c e = G at hge
        obtain ⟨G, rfl⟩ : ∃ q, G = q + (n + 1) := ⟨G - (n + 1), by omega⟩
        rw [Nat.add_sub_cancel, Nat.add_mul, Nat.add_mul, Nat.one_mul]
        omega
      · simp only [Array.toList_append]
        rw [← hlen]
        exact List.take_left

/-- .. in a walk. -/
theorem wpList_append_k {K : Nat} {t e : TypeId} {i0 : TypeInfo} {z : Value} {ops : Array Oper} {rest : List Oper} {o : Oper} {a : Act} {W : World} {Q : Exit → Act → World → Prop} (hgd : o.guard = none) (s x : Operand)
    (ho : o.op = .call { callee := .builtin .append, args := #[s, x], argTypes := #[t, t] }) (hty : o.type = t) (ht : Tryz.prog.underlying t = some (.slice e)) (hi : Tryz.prog.info? e = some i0) (hz0 : i0.zero = some z) (hz1 : i0.size = K) (hK : 0 < K) (hzs : z.cells.size = K) (hby : i0.bytes ≤ 1000)
    (base n : Nat) (v : Value) (xs news : List Value) (g : Nat) (hs : a.eval s = v) (hown : OwnK K e W base v n xs) (hl : news.length = K) (h1 : ∀ u ∈ news, u.oneCell' = true)
    (hx : a.eval x = .slice (some ⟨g, 0, none⟩) 1 1) (hnews : ∀ j u, news[j]? = some u → W.cell? ((⟨g, 0, none⟩ : Addr).add j) = some u) (hn : n < 1000000) (hbase : base ≤ W.heap.size)
    (h : ∀ v' w', OwnK K e w' base v' (n + 1) (xs ++ news) → W.grownBy w' v.ownBlock → (v'.ownBlock = v.ownBlock ∨ ∃ g, v'.ownBlock = some g ∧ W.heap.size ≤ g) → wpList Tryz.prog ops Q rest (a.put o.dst v') w') :
    wpList Tryz.prog ops Q (o :: rest) a W := by
  refine wpList_plain hgd fun K' hK' => ?_
  obtain ⟨v', w', hr, h2, h3, h4⟩ := run_append_k ht hi hz0 hz1 hK hzs hby hown hl hnews h1 hn hbase
  unfold Oper.wp execOp
  simp only [ho, resolve, invoke, builtin, Sem.run_bind, Sem.run_pure, Result.andThen_ok, List.map_toArray, List.map_cons, List.map_nil, hs, hx, hty, hr]
  exact hK' _ _ (h v' w' h2 h3 h4)

end Go.Proofs.YtioppoaijehicaaGreatDoor
/-
  A LAW AT append: some elements of K cells at once to a row that the call owns.
-/
namespace Go.Proofs.YtioppoaijehicaaGreatDoor
open Go.RowKit

theorem run_append_m {K : Nat} {t e : TypeId} {i0 : TypeInfo} {z : Value} {W : World} {base n q : Nat} {v : Value} {xs news : List Value} {ad : Addr} (ht : Tryz.prog.underlying t = some (.slice e)) (hi : Tryz.prog.info? e = some i0) (hz0 : i0.zero = some z) (hz1 : i0.size = K) (_ : 0 < K) (hzs : z.cells.size = K)
    (hby : i0.bytes ≤ 1000) (h : OwnK K e W base v n xs) (hq : 0 < q) (hl : news.length = q * K) (hnews : ∀ j u, news[j]? = some u → W.cell? (ad.add j) = some u) (h1 : ∀ u ∈ news, u.oneCell' = true) (hn : n + q ≤ 1000000) (hbase : base ≤ W.heap.size) :
    ∃ v' w', (Builtin.append_ #[t, t] t #[v, .slice (some ad) q q]).run Tryz.prog W = .ok v' w' ∧ OwnK K e w' base v' (n + q) (xs ++ news) ∧ W.grownBy w' v.ownBlock ∧ (v'.ownBlock = v.ownBlock ∨ ∃ g, v'.ownBlock = some g ∧ W.heap.size ≤ g) := by
  have hmul : (n + q) * i0.bytes ≤ 140737488355328 := Nat.le_trans (Nat.mul_le_mul (hn) hby) (by omega)
  obtain ⟨hxl, A, c, rfl, hc1, hc2, h3⟩ := h
  have hlen : (xs ++ news).length = (n + q) * K := by rw [List.length_append, hxl, hl, Nat.add_mul]
  rcases h3 with ⟨rfl, rfl, rfl⟩ | ⟨g, cur, rfl, hg, hb, h4, h5⟩
  · have hns : xs = [] := List.length_eq_zero_iff.1 (by simpa using hxl)
    subst hns
    have hr := run_append_nil (P := Tryz.prog) W t t e i0 z ht hi hz0 ad q q news (by rw [hz1, hl]) hnews (by omega) (by omega) (by rw [Nat.zero_add] at hmul; omega)
    have hge := grownCap_ge W q 0 e
    have hcm : grownCap W q 0 e ≤ maxLen := grownCap_le_maxLen W q 0 e (by unfold maxLen; omega)
    refine ⟨_, _, hr, ⟨hlen, some ⟨W.heap.size, 0, none⟩, _, by rw [Nat.zero_add], by simpa using hge, hcm, .inr ⟨W.heap.size, _, rfl, hbase, heap_alloc_new W.drew _, ?_, ?_⟩⟩, ⟨rfl, rfl, rfl, by simp, fun k hk _ => Below.heap_alloc W.drew _ k hk⟩, .inr ⟨_, rfl, Nat.le_refl _⟩⟩
    · simp only [Array.size_append, List.size_toArray, size_zeroCells, hl, hzs]
      generalize grownCap W q 0 e = G at hge
      obtain ⟨G, rfl⟩ : ∃ p, G = p + q := ⟨G - q, by omega⟩
      rw [Nat.add_sub_cancel, Nat.add_mul]
      try simp
      omega
    · simp only [Array.toList_append, Nat.zero_add, List.nil_append]
      rw [List.take_append_of_le_length (by first | omega | (simp; omega))]
      exact List.take_of_length_le (by first | omega | (simp; omega))
  · by_cases hroom : n + q ≤ c
    · have hfit : n * i0.size + news.length ≤ cur.size := by
        rw [hl, hz1]
        have : (n + q) * K ≤ c * K := Nat.mul_le_mul_right _ hroom
        rw [Nat.add_mul] at this
        omega
      have hr := run_append_room (P := Tryz.prog) W t t e i0 ht hi g n c cur hb ad q q news (by rw [hz1, hl]) hnews h1 hroom hfit
      refine ⟨_, _, hr, ⟨hlen, some ⟨g, 0, none⟩, c, rfl, hroom, hc2, .inr ⟨g, _, rfl, hg, setRow_heap W g cur _ _ _ hb, ?_, ?_⟩⟩, ⟨rfl, rfl, rfl, by simp, fun k _ hk => setRow_other W g k _ (fun e => hk (by simp [Value.ownBlock, e]))⟩, .inl rfl⟩
      · simp only [List.size_toArray, List.length_append, List.length_take, List.length_drop, Array.length_toList]
        rw [hz1] at hfit ⊢
        omega
      · rw [hz1, h5, ← hlen]
        exact List.take_left
    · have holds : ∀ j u, xs[j]? = some u → W.cell? ((⟨g, 0, none⟩ : Addr).add j) = some u := by
        intro j u hj
        have hadd : (⟨g, 0, none⟩ : Addr).add j = ⟨g, j, none⟩ := by unfold Addr.add; split <;> simp_all
        rw [hadd, cell_of_row W g j cur _ (0, 0) hb]
        rw [← h5, List.getElem?_take] at hj
        split at hj
        · simpa using hj
        · cases hj
      have hr := run_append_grow (P := Tryz.prog) W t t e i0 z ht hi hz0 ⟨g, 0, none⟩ n c xs (by rw [hz1]; exact hxl) holds ad q q news (by rw [hz1, hl]) hnews (by omega) (by omega) (growslice_fits (by omega) hmul)
      have hge := grownCap_ge W (n + q) c e
      have hcm : grownCap W (n + q) c e ≤ maxLen := grownCap_le_maxLen W (n + q) c e (by unfold maxLen; omega)
      refine ⟨_, _, hr, ⟨hlen, some ⟨W.heap.size, 0, none⟩, _, rfl, hge, hcm, .inr ⟨W.heap.size, _, rfl, hbase, heap_alloc_new W.drew _, ?_, ?_⟩⟩, ⟨rfl, rfl, rfl, by simp, fun k hk _ => Below.heap_alloc W.drew _ k hk⟩, .inr ⟨_, rfl, Nat.le_refl _⟩⟩
      · simp only [Array.size_append, List.size_toArray, size_zeroCells, hl, hzs, hxl]
        generalize grownCap W (n + q) c e = G at hge
        obtain ⟨G, rfl⟩ : ∃ p, G = p + (n + q) := ⟨G - (n + q), by omega⟩
        rw [Nat.add_sub_cancel, Nat.add_mul, Nat.add_mul]
        omega
      · simp only [Array.toList_append]
        rw [← hlen]
        exact List.take_left

/-- .. in a walk. -/
theorem wpList_append_m {K : Nat} {t e : TypeId} {i0 : TypeInfo} {z : Value} {ops : Array Oper} {rest : List Oper} {o : Oper} {a : Act} {W : World} {Q : Exit → Act → World → Prop} (hgd : o.guard = none) (s x : Operand)
    (ho : o.op = .call { callee := .builtin .append, args := #[s, x], argTypes := #[t, t] }) (hty : o.type = t) (ht : Tryz.prog.underlying t = some (.slice e)) (hi : Tryz.prog.info? e = some i0) (hz0 : i0.zero = some z) (hz1 : i0.size = K) (hK : 0 < K) (hzs : z.cells.size = K) (hby : i0.bytes ≤ 1000)
    (base n q : Nat) (v : Value) (xs news : List Value) (g : Nat) (hs : a.eval s = v) (hown : OwnK K e W base v n xs) (hq : 0 < q) (hl : news.length = q * K) (h1 : ∀ u ∈ news, u.oneCell' = true)
    (hx : a.eval x = .slice (some ⟨g, 0, none⟩) q q) (hnews : ∀ j u, news[j]? = some u → W.cell? ((⟨g, 0, none⟩ : Addr).add j) = some u) (hn : n + q ≤ 1000000) (hbase : base ≤ W.heap.size)
    (h : ∀ v' w', OwnK K e w' base v' (n + q) (xs ++ news) → W.grownBy w' v.ownBlock → (v'.ownBlock = v.ownBlock ∨ ∃ g, v'.ownBlock = some g ∧ W.heap.size ≤ g) → wpList Tryz.prog ops Q rest (a.put o.dst v') w') :
    wpList Tryz.prog ops Q (o :: rest) a W := by
  refine wpList_plain hgd fun K' hK' => ?_
  obtain ⟨v', w', hr, h2, h3, h4⟩ := run_append_m ht hi hz0 hz1 hK hzs hby hown hq hl hnews h1 hn hbase
  unfold Oper.wp execOp
  simp only [ho, resolve, invoke, builtin, Sem.run_bind, Sem.run_pure, Result.andThen_ok, List.map_toArray, List.map_cons, List.map_nil, hs, hx, hty, hr]
  exact hK' _ _ (h v' w' h2 h3 h4)

end Go.Proofs.YtioppoaijehicaaGreatDoor
/-
  WORDS FOR ROWS THAT THE CALL OWNS, elements of K cells: carried over new blocks, stores elsewhere; read as ints.
-/
namespace Go.Proofs.YtioppoaijehicaaGreatDoor
open Go.RowKit

section
variable {K : Nat} {e : TypeId} {w w' : World} {base : Nat} {v : Value} {n : Nat} {xs : List Value}

theorem ownK_alloc (h : OwnK K e w base v n xs) (o : Obj) : OwnK K e (w.alloc o) base v n xs := h.kept fun k hk => Below.heap_alloc w o k (h.lt k hk).2

theorem ownK_plus (h : OwnK K e w base v n xs) (os : Array Obj) (q : Nat) : OwnK K e (plus w os q) base v n xs := h.kept fun k hk => plus_heap (h.lt k hk).2

theorem ownK_drew (h : OwnK K e w base v n xs) : OwnK K e w.drew base v n xs := h.kept fun _ _ => rfl

theorem ownK_drewN (h : OwnK K e w base v n xs) (q : Nat) : OwnK K e (w.drewN q) base v n xs := h.kept fun _ _ => rfl

theorem ownK_below (h : OwnK K e w base v n xs) (hb : Below w.heap.size w w') : OwnK K e w' base v n xs := h.kept fun k hk => hb.block k (h.lt k hk).2

theorem ownK_set (h : OwnK K e w base v n xs) {p : Addr} (hp : p.block < base) (u : Value) : OwnK K e (w.setCell p u) base v n xs := h.kept fun k hk => Below.heap_setCell w p u k (fun e2 => by have := (h.lt k hk).1; omega)

theorem ownK_form (h : OwnK K e w base v n xs) : ∃ A c, v = .slice A n c ∧ n ≤ c ∧ c ≤ maxLen ∧ (A = none → c = 0) := by
  obtain ⟨_, A, c, hv, h1, h2, h3⟩ := h
  refine ⟨A, c, hv, h1, h2, fun hA => ?_⟩
  rcases h3 with ⟨_, _, h4⟩ | ⟨g, cur, h4, _⟩
  · exact h4
  · rw [hA] at h4
    cases h4

theorem ownK_low (h : OwnK K e w base v n xs) {b2 : Nat} (hb : b2 ≤ base) : OwnK K e w b2 v n xs := by
  obtain ⟨hl, A, c, hv, h1, h2, h3⟩ := h
  refine ⟨hl, A, c, hv, h1, h2, ?_⟩
  rcases h3 with h3 | ⟨g, cur, h3, h4, h5⟩
  · exact .inl h3
  · exact .inr ⟨g, cur, h3, Nat.le_trans hb h4, h5⟩

theorem ownK_addr {A : Option Addr} {c : Nat} (h : OwnK K e w base (.slice A n c) n xs) : ∀ a, A = some a → base ≤ a.block := by
  intro a ha
  subst ha
  exact (h.lt a.block rfl).1
end

theorem ownK_ints {e : TypeId} {w : World} {base n : Nat} {A : Option Addr} {c m : Nat} {ns : List Int} (h : OwnK 1 e w base (.slice A m c) n (ns.map (Value.int .i64))) : m = n ∧ ns.length = n ∧ IntsAt w A ns := by
  obtain ⟨hl, A', c', hv, h1, h2, h3⟩ := h
  injection hv with e1 e2 e3
  subst e1 e2 e3
  have hn : ns.length = m := by simpa using hl
  refine ⟨rfl, hn, fun hp => ?_⟩
  rcases h3 with ⟨_, h0, _⟩ | ⟨g, cur, rfl, hg, hb, h4, h5⟩
  · omega
  · refine ⟨g, 0, rfl, (Array.getElem?_eq_some_iff.1 hb).1, fun j hj => ?_⟩
    rw [Nat.zero_add, cell_of_row w g j cur e (0, 0) hb]
    have h6 : (cur.toList.take (m * 1))[j]? = (ns.map (Value.int .i64))[j]? := by rw [h5]
    rw [List.getElem?_take_of_lt (by omega), List.getElem?_map, List.getElem?_eq_getElem hj] at h6
    simpa using h6

/-- Some cells, new. -/
theorem newN_cells {w : World} {t : TypeId} {cs : List Value} {g : Nat} (hg : g = w.heap.size) : ∀ j u, cs[j]? = some u → (w.alloc (.cells cs.toArray t)).cell? ((⟨g, 0, none⟩ : Addr).add j) = some u := by
  subst hg
  intro j u hj
  have hadd : (⟨w.heap.size, 0, none⟩ : Addr).add j = ⟨w.heap.size, j, none⟩ := by unfold Addr.add; split <;> simp_all
  rw [hadd, (Blk.new w t cs.toArray).cell j]
  simpa using hj

/-- A block is not the row's. -/
theorem ownK_ne {K : Nat} {e : TypeId} {w : World} {base : Nat} {v : Value} {n : Nat} {xs : List Value} (h : OwnK K e w base v n xs) {g : Nat} (hg : g < base) : some g ≠ v.ownBlock := fun e1 => by
  have := (h.lt g e1.symm).1
  omega

end Go.Proofs.YtioppoaijehicaaGreatDoor
