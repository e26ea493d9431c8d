/-
  A LAW AT append: one element of K cells to a row that the call owns, with word of what else stays and of where the row then lies (for calls that own two rows at once).
-/
import Derived.Test.YtioppoaijehicaaGreatDoorInts
import Derived.Lib.BufferOwn
import Derived.Lib.SliceRun
import Derived.Laws.IdiomCopy
set_option linter.all false
namespace Go.Proofs.YtioppoaijehicaaGreatDoor
open Go.RowKit

/-- A row of elements of K cells in a block that the call has made. -/
def OwnK (K : Nat) (e : TypeId) (w : World) (base : Nat) (v : Value) (n : Nat) (xs : List Value) : Prop :=
  xs.length = n * K ∧ ∃ A c, v = .slice A n c ∧ n ≤ c ∧ c ≤ maxLen ∧ ((A = none ∧ n = 0 ∧ c = 0) ∨ ∃ g cur, A = some ⟨g, 0, none⟩ ∧ base ≤ g ∧ w.heap[g]? = some (.cells cur e (0, 0)) ∧ c * K ≤ cur.size ∧ cur.toList.take (n * K) = xs)

theorem OwnK.empty {K : Nat} {e : TypeId} {w : World} {base : Nat} : OwnK K e w base (.slice none 0 0) 0 [] := ⟨by simp, none, 0, rfl, Nat.le_refl _, by simp [maxLen], .inl ⟨rfl, rfl, rfl⟩⟩

theorem OwnK.kept {K : Nat} {e : TypeId} {w w' : World} {base : Nat} {v : Value} {n : Nat} {xs : List Value} (h : OwnK K e w base v n xs) (hh : ∀ k, v.ownBlock = some k → w'.heap[k]? = w.heap[k]?) : OwnK K e w' base v n xs := by
  obtain ⟨hl, A, c, rfl, h1, h2, h3⟩ := h
  refine ⟨hl, A, c, rfl, h1, h2, ?_⟩
  rcases h3 with h3 | ⟨g, cur, rfl, hg, hb, h4, h5⟩
  · exact .inl h3
  · exact .inr ⟨g, cur, rfl, hg, by rw [hh g rfl]; exact hb, h4, h5⟩

theorem OwnK.lt {K : Nat} {e : TypeId} {w : World} {base : Nat} {v : Value} {n : Nat} {xs : List Value} (h : OwnK K e w base v n xs) : ∀ k, v.ownBlock = some k → base ≤ k ∧ k < w.heap.size := by
  intro k hk
  obtain ⟨_, A, c, rfl, _, _, h3⟩ := h
  rcases h3 with ⟨rfl, _⟩ | ⟨g, cur, rfl, hg, hb, _⟩
  · cases hk
  · injection hk with hk
    subst hk
    exact ⟨hg, (Array.getElem?_eq_some_iff.1 hb).1⟩

theorem run_append_k {K : Nat} {t e : TypeId} {i0 : TypeInfo} {z : Value} {W : World} {base n : Nat} {v : Value} {xs news : List Value} {ad : Addr} (ht : Tryz.prog.underlying t = some (.slice e)) (hi : Tryz.prog.info? e = some i0) (hz0 : i0.zero = some z) (hz1 : i0.size = K) (hK : 0 < K) (hzs : z.cells.size = K)
    (hby : i0.bytes ≤ 1000) (h : OwnK K e W base v n xs) (hl : news.length = K) (hnews : ∀ j u, news[j]? = some u → W.cell? (ad.add j) = some u) (h1 : ∀ u ∈ news, u.oneCell' = true) (hn : n < 1000000) (hbase : base ≤ W.heap.size) :
    ∃ v' w', (Builtin.append_ #[t, t] t #[v, .slice (some ad) 1 1]).run Tryz.prog W = .ok v' w' ∧ OwnK K e w' base v' (n + 1) (xs ++ news) ∧ W.grownBy w' v.ownBlock ∧ (v'.ownBlock = v.ownBlock ∨ ∃ g, v'.ownBlock = some g ∧ W.heap.size ≤ g) := by
  have hmul : (n + 1) * i0.bytes ≤ 140737488355328 := Nat.le_trans (Nat.mul_le_mul (show n + 1 ≤ 1000000 by omega) hby) (by omega)
  obtain ⟨hxl, A, c, rfl, hc1, hc2, h3⟩ := h
  have hlen : (xs ++ news).length = (n + 1) * K := by rw [List.length_append, hxl, hl, Nat.add_mul, Nat.one_mul]
  rcases h3 with ⟨rfl, rfl, rfl⟩ | ⟨g, cur, rfl, hg, hb, h4, h5⟩
  · have hns : xs = [] := List.length_eq_zero_iff.1 (by simpa using hxl)
    subst hns
    have hr := run_append_nil (P := Tryz.prog) W t t e i0 z ht hi hz0 ad 1 1 news (by rw [hz1, hl]; simp) hnews (by omega) (by omega) (by have := hby; omega)
    have hge := grownCap_ge W 1 0 e
    have hcm : grownCap W 1 0 e ≤ maxLen := grownCap_le_maxLen W 1 0 e (by unfold maxLen; omega)
    refine ⟨_, _, hr, ⟨hlen, some ⟨W.heap.size, 0, none⟩, _, rfl, by simpa using hge, hcm, .inr ⟨W.heap.size, _, rfl, hbase, heap_alloc_new W.drew _, ?_, ?_⟩⟩, ⟨rfl, rfl, rfl, by simp, fun k hk _ => Below.heap_alloc W.drew _ k hk⟩, .inr ⟨_, rfl, Nat.le_refl _⟩⟩
    · simp only [Array.size_append, List.size_toArray, size_zeroCells, hl, hzs]
      generalize grownCap W 1 0 e = G at hge
      obtain ⟨G, rfl⟩ : ∃ q, G = q + 1 := ⟨G - 1, by omega⟩
      rw [Nat.add_sub_cancel, Nat.add_mul, Nat.one_mul]
      try simp
      omega
    · simp only [Array.toList_append, Nat.zero_add, Nat.one_mul, List.nil_append]
      rw [List.take_append_of_le_length (by first | omega | (simp; omega))]
      exact List.take_of_length_le (by first | omega | (simp; omega))
  · by_cases hroom : n + 1 ≤ c
    · have hfit : n * i0.size + news.length ≤ cur.size := by
        rw [hl, hz1]
        have : (n + 1) * K ≤ c * K := Nat.mul_le_mul_right _ hroom
        rw [Nat.add_mul, Nat.one_mul] at this
        omega
      have hr := run_append_room (P := Tryz.prog) W t t e i0 ht hi g n c cur hb ad 1 1 news (by rw [hz1, hl]; simp) hnews h1 hroom hfit
      refine ⟨_, _, hr, ⟨hlen, some ⟨g, 0, none⟩, c, rfl, hroom, hc2, .inr ⟨g, _, rfl, hg, setRow_heap W g cur _ _ _ hb, ?_, ?_⟩⟩, ⟨rfl, rfl, rfl, by simp, fun k _ hk => setRow_other W g k _ (fun e => hk (by simp [Value.ownBlock, e]))⟩, .inl rfl⟩
      · simp only [List.size_toArray, List.length_append, List.length_take, List.length_drop, Array.length_toList]
        rw [hz1] at hfit ⊢
        omega
      · rw [hz1, h5, ← hlen]
        exact List.take_left
    · have holds : ∀ j u, xs[j]? = some u → W.cell? ((⟨g, 0, none⟩ : Addr).add j) = some u := by
        intro j u hj
        have hadd : (⟨g, 0, none⟩ : Addr).add j = ⟨g, j, none⟩ := by unfold Addr.add; split <;> simp_all
        rw [hadd, cell_of_row W g j cur _ (0, 0) hb]
        rw [← h5, List.getElem?_take] at hj
        split at hj
        · simpa using hj
        · cases hj
      have hr := run_append_grow (P := Tryz.prog) W t t e i0 z ht hi hz0 ⟨g, 0, none⟩ n c xs (by rw [hz1]; exact hxl) holds ad 1 1 news (by rw [hz1, hl]; simp) hnews (by omega) (by omega) (growslice_fits (by omega) hmul)
      have hge := grownCap_ge W (n + 1) c e
      have hcm : grownCap W (n + 1) c e ≤ maxLen := grownCap_le_maxLen W (n + 1) c e (by unfold maxLen; omega)
      refine ⟨_, _, hr, ⟨hlen, some ⟨W.heap.size, 0, none⟩, _, rfl, hge, hcm, .inr ⟨W.heap.size, _, rfl, hbase, heap_alloc_new W.drew _, ?_, ?_⟩⟩, ⟨rfl, rfl, rfl, by simp, fun k hk _ => Below.heap_alloc W.drew _ k hk⟩, .inr ⟨_, rfl, Nat.le_refl _⟩⟩
      · simp only [Array.size_append, List.size_toArray, size_zeroCells, hl, hzs, hxl]
        generalize grownCap W (n + 1) c e = G at hge
        obtain ⟨G, rfl⟩ : ∃ q, G = q + (n + 1) := ⟨G - (n + 1), by omega⟩
        rw [Nat.add_sub_cancel, Nat.add_mul, Nat.add_mul, Nat.one_mul]
        omega
      · simp only [Array.toList_append]
        rw [← hlen]
        exact List.take_left

/-- .. in a walk. -/
theorem wpList_append_k {K : Nat} {t e : TypeId} {i0 : TypeInfo} {z : Value} {ops : Array Oper} {rest : List Oper} {o : Oper} {a : Act} {W : World} {Q : Exit → Act → World → Prop} (hgd : o.guard = none) (s x : Operand)
    (ho : o.op = .call { callee := .builtin .append, args := #[s, x], argTypes := #[t, t] }) (hty : o.type = t) (ht : Tryz.prog.underlying t = some (.slice e)) (hi : Tryz.prog.info? e = some i0) (hz0 : i0.zero = some z) (hz1 : i0.size = K) (hK : 0 < K) (hzs : z.cells.size = K) (hby : i0.bytes ≤ 1000)
    (base n : Nat) (v : Value) (xs news : List Value) (g : Nat) (hs : a.eval s = v) (hown : OwnK K e W base v n xs) (hl : news.length = K) (h1 : ∀ u ∈ news, u.oneCell' = true)
    (hx : a.eval x = .slice (some ⟨g, 0, none⟩) 1 1) (hnews : ∀ j u, news[j]? = some u → W.cell? ((⟨g, 0, none⟩ : Addr).add j) = some u) (hn : n < 1000000) (hbase : base ≤ W.heap.size)
    (h : ∀ v' w', OwnK K e w' base v' (n + 1) (xs ++ news) → W.grownBy w' v.ownBlock → (v'.ownBlock = v.ownBlock ∨ ∃ g, v'.ownBlock = some g ∧ W.heap.size ≤ g) → wpList Tryz.prog ops Q rest (a.put o.dst v') w') :
    wpList Tryz.prog ops Q (o :: rest) a W := by
  refine wpList_plain hgd fun K' hK' => ?_
  obtain ⟨v', w', hr, h2, h3, h4⟩ := run_append_k ht hi hz0 hz1 hK hzs hby hown hl hnews h1 hn hbase
  unfold Oper.wp execOp
  simp only [ho, resolve, invoke, builtin, Sem.run_bind, Sem.run_pure, Result.andThen_ok, List.map_toArray, List.map_cons, List.map_nil, hs, hx, hty, hr]
  exact hK' _ _ (h v' w' h2 h3 h4)

end Go.Proofs.YtioppoaijehicaaGreatDoor
/-
  A LAW AT append: some elements of K cells at once to a row that the call owns.
-/
namespace Go.Proofs.YtioppoaijehicaaGreatDoor
open Go.RowKit

theorem run_append_m {K : Nat} {t e : TypeId} {i0 : TypeInfo} {z : Value} {W : World} {base n q : Nat} {v : Value} {xs news : List Value} {ad : Addr} (ht : Tryz.prog.underlying t = some (.slice e)) (hi : Tryz.prog.info? e = some i0) (hz0 : i0.zero = some z) (hz1 : i0.size = K) (_ : 0 < K) (hzs : z.cells.size = K)
    (hby : i0.bytes ≤ 1000) (h : OwnK K e W base v n xs) (hq : 0 < q) (hl : news.length = q * K) (hnews : ∀ j u, news[j]? = some u → W.cell? (ad.add j) = some u) (h1 : ∀ u ∈ news, u.oneCell' = true) (hn : n + q ≤ 1000000) (hbase : base ≤ W.heap.size) :
    ∃ v' w', (Builtin.append_ #[t, t] t #[v, .slice (some ad) q q]).run Tryz.prog W = .ok v' w' ∧ OwnK K e w' base v' (n + q) (xs ++ news) ∧ W.grownBy w' v.ownBlock ∧ (v'.ownBlock = v.ownBlock ∨ ∃ g, v'.ownBlock = some g ∧ W.heap.size ≤ g) := by
  have hmul : (n + q) * i0.bytes ≤ 140737488355328 := Nat.le_trans (Nat.mul_le_mul (hn) hby) (by omega)
  obtain ⟨hxl, A, c, rfl, hc1, hc2, h3⟩ := h
  have hlen : (xs ++ news).length = (n + q) * K := by rw [List.length_append, hxl, hl, Nat.add_mul]
  rcases h3 with ⟨rfl, rfl, rfl⟩ | ⟨g, cur, rfl, hg, hb, h4, h5⟩
  · have hns : xs = [] := List.length_eq_zero_iff.1 (by simpa using hxl)
    subst hns
    have hr := run_append_nil (P := Tryz.prog) W t t e i0 z ht hi hz0 ad q q news (by rw [hz1, hl]) hnews (by omega) (by omega) (by rw [Nat.zero_add] at hmul; omega)
    have hge := grownCap_ge W q 0 e
    have hcm : grownCap W q 0 e ≤ maxLen := grownCap_le_maxLen W q 0 e (by unfold maxLen; omega)
    refine ⟨_, _, hr, ⟨hlen, some ⟨W.heap.size, 0, none⟩, _, by rw [Nat.zero_add], by simpa using hge, hcm, .inr ⟨W.heap.size, _, rfl, hbase, heap_alloc_new W.drew _, ?_, ?_⟩⟩, ⟨rfl, rfl, rfl, by simp, fun k hk _ => Below.heap_alloc W.drew _ k hk⟩, .inr ⟨_, rfl, Nat.le_refl _⟩⟩
    · simp only [Array.size_append, List.size_toArray, size_zeroCells, hl, hzs]
      generalize grownCap W q 0 e = G at hge
      obtain ⟨G, rfl⟩ : ∃ p, G = p + q := ⟨G - q, by omega⟩
      rw [Nat.add_sub_cancel, Nat.add_mul]
      try simp
      omega
    · simp only [Array.toList_append, Nat.zero_add, List.nil_append]
      rw [List.take_append_of_le_length (by first | omega | (simp; omega))]
      exact List.take_of_length_le (by first | omega | (simp; omega))
  · by_cases hroom : n + q ≤ c
    · have hfit : n * i0.size + news.length ≤ cur.size := by
        rw [hl, hz1]
        have : (n + q) * K ≤ c * K := Nat.mul_le_mul_right _ hroom
        rw [Nat.add_mul] at this
        omega
      have hr := run_append_room (P := Tryz.prog) W t t e i0 ht hi g n c cur hb ad q q news (by rw [hz1, hl]) hnews h1 hroom hfit
      refine ⟨_, _, hr, ⟨hlen, some ⟨g, 0, none⟩, c, rfl, hroom, hc2, .inr ⟨g, _, rfl, hg, setRow_heap W g cur _ _ _ hb, ?_, ?_⟩⟩, ⟨rfl, rfl, rfl, by simp, fun k _ hk => setRow_other W g k _ (fun e => hk (by simp [Value.ownBlock, e]))⟩, .inl rfl⟩
      · simp only [List.size_toArray, List.length_append, List.length_take, List.length_drop, Array.length_toList]
        rw [hz1] at hfit ⊢
        omega
      · rw [hz1, h5, ← hlen]
        exact List.take_left
    · have holds : ∀ j u, xs[j]? = some u → W.cell? ((⟨g, 0, none⟩ : Addr).add j) = some u := by
        intro j u hj
        have hadd : (⟨g, 0, none⟩ : Addr).add j = ⟨g, j, none⟩ := by unfold Addr.add; split <;> simp_all
        rw [hadd, cell_of_row W g j cur _ (0, 0) hb]
        rw [← h5, List.getElem?_take] at hj
        split at hj
        · simpa using hj
        · cases hj
      have hr := run_append_grow (P := Tryz.prog) W t t e i0 z ht hi hz0 ⟨g, 0, none⟩ n c xs (by rw [hz1]; exact hxl) holds ad q q news (by rw [hz1, hl]) hnews (by omega) (by omega) (growslice_fits (by omega) hmul)
      have hge := grownCap_ge W (n + q) c e
      have hcm : grownCap W (n + q) c e ≤ maxLen := grownCap_le_maxLen W (n + q) c e (by unfold maxLen; omega)
      refine ⟨_, _, hr, ⟨hlen, some ⟨W.heap.size, 0, none⟩, _, rfl, hge, hcm, .inr ⟨W.heap.size, _, rfl, hbase, heap_alloc_new W.drew _, ?_, ?_⟩⟩, ⟨rfl, rfl, rfl, by simp, fun k hk _ => Below.heap_alloc W.drew _ k hk⟩, .inr ⟨_, rfl, Nat.le_refl _⟩⟩
      · simp only [Array.size_append, List.size_toArray, size_zeroCells, hl, hzs, hxl]
        generalize grownCap W (n + q) c e = G at hge
        obtain ⟨G, rfl⟩ : ∃ p, G = p + (n + q) := ⟨G - (n + q), by omega⟩
        rw [Nat.add_sub_cancel, Nat.add_mul, Nat.add_mul]
        omega
      · simp only [Array.toList_append]
        rw [← hlen]
        exact List.take_left

/-- .. in a walk. -/
theorem wpList_append_m {K : Nat} {t e : TypeId} {i0 : TypeInfo} {z : Value} {ops : Array Oper} {rest : List Oper} {o : Oper} {a : Act} {W : World} {Q : Exit → Act → World → Prop} (hgd : o.guard = none) (s x : Operand)
    (ho : o.op = .call { callee := .builtin .append, args := #[s, x], argTypes := #[t, t] }) (hty : o.type = t) (ht : Tryz.prog.underlying t = some (.slice e)) (hi : Tryz.prog.info? e = some i0) (hz0 : i0.zero = some z) (hz1 : i0.size = K) (hK : 0 < K) (hzs : z.cells.size = K) (hby : i0.bytes ≤ 1000)
    (base n q : Nat) (v : Value) (xs news : List Value) (g : Nat) (hs : a.eval s = v) (hown : OwnK K e W base v n xs) (hq : 0 < q) (hl : news.length = q * K) (h1 : ∀ u ∈ news, u.oneCell' = true)
    (hx : a.eval x = .slice (some ⟨g, 0, none⟩) q q) (hnews : ∀ j u, news[j]? = some u → W.cell? ((⟨g, 0, none⟩ : Addr).add j) = some u) (hn : n + q ≤ 1000000) (hbase : base ≤ W.heap.size)
    (h : ∀ v' w', OwnK K e w' base v' (n + q) (xs ++ news) → W.grownBy w' v.ownBlock → (v'.ownBlock = v.ownBlock ∨ ∃ g, v'.ownBlock = some g ∧ W.heap.size ≤ g) → wpList Tryz.prog ops Q rest (a.put o.dst v') w') :
    wpList Tryz.prog ops Q (o :: rest) a W := by
  refine wpList_plain hgd fun K' hK' => ?_
  obtain ⟨v', w', hr, h2, h3, h4⟩ := run_append_m ht hi hz0 hz1 hK hzs hby hown hq hl hnews h1 hn hbase
  unfold Oper.wp execOp
  simp only [ho, resolve, invoke, builtin, Sem.run_bind, Sem.run_pure, Result.andThen_ok, List.map_toArray, List.map_cons, List.map_nil, hs, hx, hty, hr]
  exact hK' _ _ (h v' w' h2 h3 h4)

end Go.Proofs.YtioppoaijehicaaGreatDoor
/-
  WORDS FOR ROWS THAT THE CALL OWNS, elements of K cells: carried over new blocks, stores elsewhere; read as ints.
-/
namespace Go.Proofs.YtioppoaijehicaaGreatDoor
open Go.RowKit

section
variable {K : Nat} {e : TypeId} {w w' : World} {base : Nat} {v : Value} {n : Nat} {xs : List Value}

theorem ownK_alloc (h : OwnK K e w base v n xs) (o : Obj) : OwnK K e (w.alloc o) base v n xs := h.kept fun k hk => Below.heap_alloc w o k (h.lt k hk).2

theorem ownK_plus (h : OwnK K e w base v n xs) (os : Array Obj) (q : Nat) : OwnK K e (plus w os q) base v n xs := h.kept fun k hk => plus_heap (h.lt k hk).2

theorem ownK_drew (h : OwnK K e w base v n xs) : OwnK K e w.drew base v n xs := h.kept fun _ _ => rfl

theorem ownK_drewN (h : OwnK K e w base v n xs) (q : Nat) : OwnK K e (w.drewN q) base v n xs := h.kept fun _ _ => rfl

theorem ownK_below (h : OwnK K e w base v n xs) (hb : Below w.heap.size w w') : OwnK K e w' base v n xs := h.kept fun k hk => hb.block k (h.lt k hk).2

theorem ownK_set (h : OwnK K e w base v n xs) {p : Addr} (hp : p.block < base) (u : Value) : OwnK K e (w.setCell p u) base v n xs := h.kept fun k hk => Below.heap_setCell w p u k (fun e2 => by have := (h.lt k hk).1; omega)

theorem ownK_form (h : OwnK K e w base v n xs) : ∃ A c, v = .slice A n c ∧ n ≤ c ∧ c ≤ maxLen ∧ (A = none → c = 0) := by
  obtain ⟨_, A, c, hv, h1, h2, h3⟩ := h
  refine ⟨A, c, hv, h1, h2, fun hA => ?_⟩
  rcases h3 with ⟨_, _, h4⟩ | ⟨g, cur, h4, _⟩
  · exact h4
  · rw [hA] at h4
    cases h4

theorem ownK_low (h : OwnK K e w base v n xs) {b2 : Nat} (hb : b2 ≤ base) : OwnK K e w b2 v n xs := by
  obtain ⟨hl, A, c, hv, h1, h2, h3⟩ := h
  refine ⟨hl, A, c, hv, h1, h2, ?_⟩
  rcases h3 with h3 | ⟨g, cur, h3, h4, h5⟩
  · exact .inl h3
  · exact .inr ⟨g, cur, h3, Nat.le_trans hb h4, h5⟩

theorem ownK_addr {A : Option Addr} {c : Nat} (h : OwnK K e w base (.slice A n c) n xs) : ∀ a, A = some a → base ≤ a.block := by
  intro a ha
  subst ha
  exact (h.lt a.block rfl).1
end

theorem ownK_ints {e : TypeId} {w : World} {base n : Nat} {A : Option Addr} {c m : Nat} {ns : List Int} (h : OwnK 1 e w base (.slice A m c) n (ns.map (Value.int .i64))) : m = n ∧ ns.length = n ∧ IntsAt w A ns := by
  obtain ⟨hl, A', c', hv, h1, h2, h3⟩ := h
  injection hv with e1 e2 e3
  subst e1 e2 e3
  have hn : ns.length = m := by simpa using hl
  refine ⟨rfl, hn, fun hp => ?_⟩
  rcases h3 with ⟨_, h0, _⟩ | ⟨g, cur, rfl, hg, hb, h4, h5⟩
  · omega
  · refine ⟨g, 0, rfl, (Array.getElem?_eq_some_iff.1 hb).1, fun j hj => ?_⟩
    rw [Nat.zero_add, cell_of_row w g j cur e (0, 0) hb]
    have h6 : (cur.toList.take (m * 1))[j]? = (ns.map (Value.int .i64))[j]? := by rw [h5]
    rw [List.getElem?_take_of_lt (by omega), List.getElem?_map, List.getElem?_eq_getElem hj] at h6
    simpa using h6

/-- Some cells, new. -/
theorem newN_cells {w : World} {t : TypeId} {cs : List Value} {g : Nat} (hg : g = w.heap.size) : ∀ j u, cs[j]? = some u → (w.alloc (.cells cs.toArray t)).cell? ((⟨g, 0, none⟩ : Addr).add j) = some u := by
  subst hg
  intro j u hj
  have hadd : (⟨w.heap.size, 0, none⟩ : Addr).add j = ⟨w.heap.size, j, none⟩ := by unfold Addr.add; split <;> simp_all
  rw [hadd, (Blk.new w t cs.toArray).cell j]
  simpa using hj

/-- A block is not the row's. -/
theorem ownK_ne {K : Nat} {e : TypeId} {w : World} {base : Nat} {v : Value} {n : Nat} {xs : List Value} (h : OwnK K e w base v n xs) {g : Nat} (hg : g < base) : some g ≠ v.ownBlock := fun e1 => by
  have := (h.lt g e1.symm).1
  omega

end Go.Proofs.YtioppoaijehicaaGreatDoor
/-
  PLAIN AND MEMORY: rows of elements of K cells that the call owns, written over in their midst, and cut; what DeleteFunc leaves.
-/
namespace Go.Proofs.YtioppoaijehicaaGreatDoor
open Go.RowKit Go.Lib

theorem heap_setCellsK (g : Nat) (t : TypeId) : ∀ (vs : List Value) (o : Nat) (w : World) (cs : Array Value), w.heap[g]? = some (.cells cs t (0, 0)) →
    ∃ cs' : Array Value, (w.setCells g o vs).heap[g]? = some (.cells cs' t (0, 0)) ∧ cs'.size = cs.size ∧ ∀ k, cs'[k]? = if o ≤ k ∧ k < o + vs.length ∧ k < cs.size then vs[k - o]? else cs[k]?
  | [], o, w, cs, h => ⟨cs, h, rfl, fun k => by rw [if_neg (by simp; omega)]⟩
  | v :: vs, o, w, cs, h => by
    obtain ⟨cs', h1, h2, h3⟩ := heap_setCellsK g t vs (o + 1) (w.setCell ⟨g, o, none⟩ v) (cs.setIfInBounds o v) (heap_setCell_same w g o cs t v h)
    refine ⟨cs', h1, by rw [h2, Array.size_setIfInBounds], fun k => ?_⟩
    rw [h3 k, Array.size_setIfInBounds]
    simp only [List.length_cons]
    by_cases hk : k = o
    · subst hk
      rw [if_neg (by omega)]
      by_cases hs : k < cs.size
      · rw [if_pos ⟨Nat.le_refl _, by omega, hs⟩, Array.getElem?_setIfInBounds_self_of_lt hs]; simp
      · rw [if_neg (by omega), Array.getElem?_eq_none (by rw [Array.size_setIfInBounds]; omega), Array.getElem?_eq_none (by omega)]
    · rw [Array.getElem?_setIfInBounds_ne (by omega)]
      by_cases hin : o + 1 ≤ k ∧ k < o + 1 + vs.length ∧ k < cs.size
      · rw [if_pos hin, if_pos (by omega), show k - o = (k - (o + 1)) + 1 by omega, List.getElem?_cons_succ]
      · rw [if_neg hin, if_neg (by omega)]

theorem grownBy_cellsK (g : Nat) : ∀ (vs : List Value) (o : Nat) (w : World), w.grownBy (w.setCells g o vs) (some g)
  | [], _, w => ⟨rfl, rfl, rfl, Nat.le_refl _, fun _ _ _ => rfl⟩
  | v :: vs, o, w => grownBy_trans (grownBy_setCell w g o v) (grownBy_cellsK g vs (o + 1) _)

theorem OwnK.overK {K : Nat} {e : TypeId} {w : World} {base g n c : Nat} {xs : List Value} (h : OwnK K e w base (.slice (some ⟨g, 0, none⟩) n c) n xs) (o : Nat) (vs : List Value) (hv : o + vs.length ≤ n * K) :
    OwnK K e (w.setCells g o vs) base (.slice (some ⟨g, 0, none⟩) n c) n (xs.take o ++ (vs ++ xs.drop (o + vs.length))) := by
  obtain ⟨hl, A', c', hv2, h1, h2, h3⟩ := h
  injection hv2 with e1 _ e3
  subst e1 e3
  rcases h3 with ⟨e, _⟩ | ⟨g', cur, hA, hg, hb, h4, h5⟩
  · cases e
  · injection hA with hA
    injection hA with hA
    subst hA
    obtain ⟨cs', k1, k2, k3⟩ := heap_setCellsK g e vs o w cur hb
    refine ⟨by simp only [List.length_append, List.length_take, List.length_drop]; omega, _, c, rfl, h1, h2, .inr ⟨g, cs', rfl, hg, k1, by rw [k2]; exact h4, ?_⟩⟩
    have hcn : n * K ≤ c * K := Nat.mul_le_mul_right _ h1
    refine List.ext_getElem? fun k => ?_
    have hx : ∀ k, k < n * K → xs[k]? = cur[k]? := fun k hk => by rw [← h5, List.getElem?_take_of_lt hk]; simp
    by_cases hk : k < n * K
    · rw [List.getElem?_take_of_lt hk]
      have : cs'.toList[k]? = cs'[k]? := by simp
      rw [this, k3 k]
      by_cases ho : k < o
      · rw [if_neg (by omega), List.getElem?_append_left (by rw [List.length_take]; omega), List.getElem?_take_of_lt ho, hx k hk]
      · rw [List.getElem?_append_right (by rw [List.length_take]; omega)]
        have hto : (xs.take o).length = o := by rw [List.length_take]; omega
        rw [hto]
        by_cases hin : k < o + vs.length
        · rw [if_pos ⟨by omega, hin, by omega⟩, List.getElem?_append_left (by omega)]
        · rw [if_neg (by omega), List.getElem?_append_right (by omega), List.getElem?_drop, show o + vs.length + (k - o - vs.length) = k by omega, hx k hk]
    · rw [List.getElem?_eq_none (by rw [List.length_take]; omega), List.getElem?_eq_none (by simp only [List.length_append, List.length_take, List.length_drop]; omega)]

theorem OwnK.cutK {K : Nat} {e : TypeId} {w : World} {base n c : Nat} {A : Option Addr} {xs : List Value} (h : OwnK K e w base (.slice A n c) n xs) {m : Nat} (hm : m ≤ n) : OwnK K e w base (.slice A m c) m (xs.take (m * K)) := by
  obtain ⟨hl, A', c', hv, h1, h2, h3⟩ := h
  injection hv with e1 _ e3
  subst e1 e3
  have hmn : m * K ≤ n * K := Nat.mul_le_mul_right _ hm
  refine ⟨by rw [List.length_take]; omega, A, c, rfl, by omega, h2, ?_⟩
  rcases h3 with ⟨a, b, d⟩ | ⟨g, cur, a, b, d, f, k⟩
  · exact .inl ⟨a, by omega, d⟩
  · exact .inr ⟨g, cur, a, b, d, f, by rw [← k, List.take_take, Nat.min_eq_left hmn]⟩

/-! ### Lists of elements, laid out in cells -/
def flatG {α : Type} (f : α → List Value) (l : List α) : List Value := l.flatMap f
section
variable {α : Type} {f : α → List Value} {K : Nat}

theorem flatG_append (l m : List α) : flatG f (l ++ m) = flatG f l ++ flatG f m := by simp [flatG]

theorem flatG_snoc (l : List α) (x : α) : flatG f (l ++ [x]) = flatG f l ++ f x := by simp [flatG]

theorem flatG_len (hf : ∀ x, (f x).length = K) : ∀ (l : List α), (flatG f l).length = l.length * K
  | [] => by simp [flatG]
  | x :: t => by
    rw [flatG, List.flatMap_cons, List.length_append]
    have := flatG_len hf t
    unfold flatG at this
    rw [this, hf, List.length_cons, Nat.add_mul, Nat.one_mul, Nat.add_comm]

theorem flatG_get (hf : ∀ x, (f x).length = K) : ∀ (l : List α) (j i : Nat) (h : j < l.length), i < K → (flatG f l)[j * K + i]? = (f l[j])[i]?
  | x :: t, 0, i, _, hi => by
    rw [flatG, List.flatMap_cons, Nat.zero_mul, Nat.zero_add, List.getElem?_append_left (by rw [hf]; exact hi)]
    rfl
  | x :: t, j + 1, i, h, hi => by
    rw [flatG, List.flatMap_cons, List.getElem?_append_right (by rw [hf, Nat.add_mul, Nat.one_mul]; omega), hf, show (j + 1) * K + i - K = j * K + i by rw [Nat.add_mul, Nat.one_mul]; omega]
    have := flatG_get hf t j i (by simpa using h) hi
    unfold flatG at this
    rw [this]
    rfl

theorem flatG_set (hf : ∀ x, (f x).length = K) : ∀ (l : List α) (i : Nat) (p : α), i < l.length → flatG f (l.set i p) = (flatG f l).take (i * K) ++ (f p ++ (flatG f l).drop (i * K + (f p).length))
  | q :: l, 0, p, _ => by
    show f p ++ flatG f l = (f q ++ flatG f l).take (0 * K) ++ (f p ++ (f q ++ flatG f l).drop (0 * K + (f p).length))
    have hl : (f p).length = (f q).length := by rw [hf, hf]
    rw [hl, Nat.zero_mul, Nat.zero_add, List.drop_left, List.take_zero, List.nil_append]
  | q :: l, i + 1, p, h => by
    have ih := flatG_set hf l i p (by simpa using h)
    show f q ++ flatG f (l.set i p) = (f q ++ flatG f l).take ((i + 1) * K) ++ (f p ++ (f q ++ flatG f l).drop ((i + 1) * K + (f p).length))
    have h1 : (i + 1) * K = (f q).length + i * K := by rw [hf, Nat.add_mul, Nat.one_mul, Nat.add_comm]
    rw [ih, h1, List.take_length_add_append, Nat.add_assoc, List.drop_length_add_append]
    simp only [List.append_assoc]

theorem flatG_take (hf : ∀ x, (f x).length = K) (l : List α) (i : Nat) : flatG f (l.take i) = (flatG f l).take (i * K) := by
  have h : flatG f l = flatG f (l.take i) ++ flatG f (l.drop i) := by rw [← flatG_append, List.take_append_drop]
  by_cases hi : i ≤ l.length
  · rw [h, List.take_left' (by rw [flatG_len hf, List.length_take, Nat.min_eq_left hi])]
  · rw [List.take_of_length_le (by omega), List.take_of_length_le (by rw [flatG_len hf]; exact Nat.mul_le_mul_right _ (by omega))]
end

/-! ### Reading such a slice -/
def RdK {α : Type} (f : α → List Value) (K : Nat) (w : World) (A : Option Addr) (l : List α) : Prop := 0 < l.length → ∃ b o, A = some ⟨b, o, none⟩ ∧ b < w.heap.size ∧ ∀ j (h : j < l.length) i, i < K → w.cell? ⟨b, o + j * K + i, none⟩ = (f l[j])[i]?

theorem RdK.below {α : Type} {f : α → List Value} {K : Nat} {w w' : World} {A : Option Addr} {l : List α} (h : RdK f K w A l) (hb : Below w.heap.size w w') : RdK f K w' A l := fun h0 => by
  obtain ⟨b, o, e, h1, h2⟩ := h h0
  exact ⟨b, o, e, Nat.lt_of_lt_of_le h1 hb.size, fun j hj i hi => (hb.cell (p := ⟨b, o + j * K + i, none⟩) h1).trans (h2 j hj i hi)⟩

theorem rdK_none {α : Type} {f : α → List Value} {K : Nat} {w : World} : RdK f K w none ([] : List α) := fun h => absurd h (by simp)
section
variable {α : Type} {f : α → List Value} {K : Nat} {t : TypeId} {base g c n : Nat} {w w' w0 : World} {A : Option Addr} {l : List α} {p : α → Bool} {i j : Nat}

theorem OwnK.cellK (hf : ∀ x, (f x).length = K) (h : OwnK K t w base (.slice (some ⟨g, 0, none⟩) n c) n (flatG f l)) {j : Nat} (hj : j < l.length) {i : Nat} (hi : i < K) : w.cell? ⟨g, j * K + i, none⟩ = (f l[j])[i]? := by
  obtain ⟨hl, A', c', hv, h1, h2, h3⟩ := h
  injection hv with e1 _ e3
  subst e1 e3
  rcases h3 with ⟨e, _⟩ | ⟨g', cur, hA, hg, hb, h4, h5⟩
  · cases e
  · injection hA with hA
    injection hA with hA
    subst hA
    have hlen := flatG_len hf l
    have hjk : j * K + i < l.length * K := by
      have : (j + 1) * K ≤ l.length * K := Nat.mul_le_mul_right _ hj
      rw [Nat.add_mul, Nat.one_mul] at this
      omega
    rw [← flatG_get hf l j i hj hi, cell_of_row w g _ cur _ (0, 0) hb, ← h5, List.getElem?_take_of_lt (by omega)]
    simp

theorem rdK_own (hf : ∀ x, (f x).length = K) (hK : 0 < K) (h : OwnK K t w base (.slice A n c) n (flatG f l)) : RdK f K w A l := fun h0 => by
  have h9 := h
  obtain ⟨hl, A', c', hv, h1, h2, h3⟩ := h
  injection hv with e1 _ e3
  subst e1 e3
  rcases h3 with ⟨e, e2, e4⟩ | ⟨g', cur, rfl, hg, hb, h4, h5⟩
  · rw [flatG_len hf, e2, Nat.zero_mul] at hl
    rcases Nat.mul_eq_zero.1 hl with h | h <;> omega
  · exact ⟨g', 0, rfl, (Array.getElem?_eq_some_iff.1 hb).1, fun j hj i hi => by rw [Nat.zero_add]; exact h9.cellK hf hj hi⟩

theorem OwnK.lenK (hf : ∀ x, (f x).length = K) (hK : 0 < K) (h : OwnK K t w base (.slice A n c) n (flatG f l)) : n = l.length := by
  have := h.1
  rw [flatG_len hf] at this
  exact Nat.eq_of_mul_eq_mul_right hK this.symm

/-- What DeleteFunc leaves: the kept ones of the first j, then whatever, then the rest. -/
structure DelK (f : α → List Value) (K : Nat) (t : TypeId) (base g c : Nat) (p : α → Bool) (l : List α) (w0 : World) (i j : Nat) (w : World) : Prop where
  grown : w0.grownBy w (some g)
  cur : ∃ cur : List α, cur.length = l.length ∧ cur.take i = (l.take j).filter p ∧ cur.drop j = l.drop j ∧ OwnK K t w base (.slice (some ⟨g, 0, none⟩) l.length c) l.length (flatG f cur)

theorem filter_snocK (p : α → Bool) (l : List α) (x : α) : (l ++ [x]).filter p = if p x then l.filter p ++ [x] else l.filter p := by
  rw [List.filter_append]
  cases h : p x <;> simp [h]

theorem DelK.below (h : DelK f K t base g c p l w0 i j w) (hb : Below w.heap.size w w') : DelK f K t base g c p l w0 i j w' := by
  obtain ⟨h1, cur, h2, h3, h4, h5⟩ := h
  exact ⟨Go.Lib.grownBy_below h1 hb, cur, h2, h3, h4, ownK_below h5 hb⟩

theorem DelK.skip (h : DelK f K t base g c p l w0 i j w) (hj : j < l.length) (hx : p l[j] = false) : DelK f K t base g c p l w0 i (j + 1) w := by
  obtain ⟨h1, cur, h2, h3, h4, h5⟩ := h
  refine ⟨h1, cur, h2, ?_, ?_, h5⟩
  · rw [List.take_succ_eq_append_getElem hj, filter_snocK, if_neg (by rw [hx]; decide)]; exact h3
  · rw [← List.drop_drop, ← List.drop_drop, h4]

theorem DelK.keep (hf : ∀ x, (f x).length = K) (h : DelK f K t base g c p l w0 i j w) (hj : j < l.length) (hij : i ≤ j) (hx : p l[j] = true) : DelK f K t base g c p l w0 (i + 1) (j + 1) (w.setCells g (i * K) (f l[j])) := by
  obtain ⟨h1, cur, h2, h3, h4, h5⟩ := h
  have hi : i < cur.length := by omega
  refine ⟨grownBy_trans h1 (grownBy_cellsK g _ _ w), cur.set i l[j], by rw [List.length_set]; exact h2, ?_, ?_, ?_⟩
  · rw [List.take_succ_eq_append_getElem hj, filter_snocK, if_pos hx, ← h3, List.take_succ_eq_append_getElem (by rw [List.length_set]; exact hi), List.getElem_set_self, List.take_set_of_le (Nat.le_refl _)]
  · rw [List.drop_set_of_lt (by omega), ← List.drop_drop, ← List.drop_drop, h4]
  · rw [flatG_set hf cur i _ hi]
    refine h5.overK _ _ ?_
    rw [hf]
    have : (i + 1) * K ≤ l.length * K := Nat.mul_le_mul_right _ (by omega)
    rw [Nat.add_mul, Nat.one_mul] at this
    exact this

theorem DelK.cell (hf : ∀ x, (f x).length = K) (h : DelK f K t base g c p l w0 i j w) {k m : Nat} (hk : k < l.length) (hjk : j ≤ k) (hm : m < K) : w.cell? ⟨g, k * K + m, none⟩ = (f l[k])[m]? := by
  obtain ⟨h1, cur, h2, h3, h4, h5⟩ := h
  have hck : cur[k]? = l[k]? := by
    have := congrArg (fun l => l[k - j]?) h4
    simp only [List.getElem?_drop] at this
    rwa [show j + (k - j) = k by omega] at this
  have hkc : k < cur.length := by omega
  rw [List.getElem?_eq_getElem hkc, List.getElem?_eq_getElem hk] at hck
  rw [← Option.some.inj hck]
  exact h5.cellK hf hkc hm

theorem DelK.there (hf : ∀ x, (f x).length = K) (hK : 0 < K) (h : DelK f K t base g c p l w0 i j w) {k : Nat} (hk : k < l.length * K) : (w.cell? ⟨g, k, none⟩).isSome = true ∧ w.frozen? ⟨g, k, none⟩ = false := by
  obtain ⟨h1, cur, h2, h3, h4, h5⟩ := h
  have h9 := h5
  obtain ⟨hl, A', c', hv, k1, k2, k3⟩ := h5
  injection hv with e1 _ e3
  subst e1
  rcases k3 with ⟨e, _⟩ | ⟨g', cs, hA, hg, hb, h6, h7⟩
  · cases e
  · injection hA with hA
    injection hA with hA
    subst hA
    have hlt : k < cs.size := by
      have := congrArg List.length h7
      rw [hl, List.length_take, (Array.length_toList : cs.toList.length = cs.size)] at this
      omega
    refine ⟨?_, Go.frozen_of_row w g _ cs _ hb⟩
    rw [cell_of_row w g _ cs _ (0, 0) hb, Array.getElem?_eq_getElem hlt]
    rfl

theorem DelK.start (h : OwnK K t w base (.slice (some ⟨g, 0, none⟩) l.length c) l.length (flatG f l)) (hall : ∀ k (h : k < l.length), k < i → p l[k] = true) : DelK f K t base g c p l w i i w := by
  refine ⟨⟨rfl, rfl, rfl, Nat.le_refl _, fun _ _ _ => rfl⟩, l, rfl, ?_, rfl, h⟩
  symm
  rw [List.filter_eq_self]
  intro x hx
  obtain ⟨k, hk, rfl⟩ := List.mem_iff_getElem.1 hx
  rw [List.length_take] at hk
  rw [List.getElem_take, hall k (by omega) (by omega)]

/-- The end: the tail is blanked. -/
theorem DelK.over (hf : ∀ x, (f x).length = K) (h : DelK f K t base g c p l w0 i l.length w) (hi : i ≤ l.length) (vs : List Value) (hvs : vs.length = (l.length - i) * K) :
    OwnK K t (w.setCells g (i * K) vs) base (.slice (some ⟨g, 0, none⟩) i c) i (flatG f (l.filter p)) ∧ w0.grownBy (w.setCells g (i * K) vs) (some g) ∧ i = (l.filter p).length := by
  obtain ⟨h1, cur, h2, h3, h4, h5⟩ := h
  rw [List.take_length] at h3
  have hil : i = (l.filter p).length := by rw [← h3, List.length_take]; omega
  refine ⟨?_, grownBy_trans h1 (grownBy_cellsK g _ _ w), hil⟩
  have hmul : i * K + (l.length - i) * K = l.length * K := by rw [← Nat.add_mul]; congr 1; omega
  have hle : i * K ≤ l.length * K := Nat.mul_le_mul_right _ hi
  have hcut := (h5.overK (i * K) vs (by rw [hvs]; omega)).cutK hi
  rw [List.take_append_of_le_length (by rw [List.length_take, flatG_len hf, h2]; omega), List.take_take, Nat.min_self, ← flatG_take hf, h3] at hcut
  exact hcut

/-- 'clear(s)' at a slice of elements of K cells. -/
theorem run_clear_k {st t : TypeId} {zs : List Value} (hu : Tryz.prog.underlying st = some (.slice t)) (hz : ∀ w, (zeroValue t).run Tryz.prog w = .ok (.agg zs.toArray) w) (hzl : zs.length = K) (hK : 0 < K) (h1 : ∀ v ∈ zs, v.oneCell' = true)
    (w : World) (g o n c : Nat) (hn : 0 < n) (hc : ∀ j, j < n * K → (w.cell? ⟨g, o + j, none⟩).isSome = true) (hf : ∀ j, j < n * K → w.frozen? ⟨g, o + j, none⟩ = false) :
    ∃ vs : List Value, vs.length = n * K ∧ ∀ ty, (Builtin.clear_ #[st] ty #[.slice (some ⟨g, o, none⟩) n c]).run Tryz.prog w = .ok (.tuple #[]) (w.setCells g o vs) := by
  have hcells : (Value.agg zs.toArray).cells = zs.toArray := rfl
  have hlen : (Builtin.zeroCells zs.toArray n).toList.length = n * K := by simp [Builtin.zeroCells, hzl]
  refine ⟨_, hlen, fun ty => ?_⟩
  have hone : ∀ v ∈ (Builtin.zeroCells zs.toArray n).toList, v.oneCell' = true := by
    intro v hv
    simp only [Builtin.zeroCells, Array.toList_map, List.mem_map] at hv
    obtain ⟨i, _, rfl⟩ := hv
    have hm : i % zs.toArray.size < zs.toArray.size := Nat.mod_lt _ (by simp [hzl, hK])
    rw [getElem!_pos zs.toArray _ hm]
    exact h1 _ (by simp)
  have hst := run_storeCells_cells (P := Tryz.prog) g o _ 0 w (fun j hj => by rw [Nat.add_zero]; exact hc j (by rwa [hlen] at hj)) (fun j hj => by rw [Nat.add_zero]; exact hf j (by rwa [hlen] at hj)) hone
  simp only [Nat.add_zero] at hst
  obtain ⟨m, rfl⟩ : ∃ m, n = m + 1 := ⟨n - 1, by omega⟩
  simp [Builtin.clear_, run_underlying hu, hz, hcells, hst]
end

end Go.Proofs.YtioppoaijehicaaGreatDoor
/-
  A LAW AT append: one element of K cells to a row that the call owns, however long, as far as it fits into memory.
-/
namespace Go.Proofs.YtioppoaijehicaaGreatDoor
open Go.RowKit

theorem run_append_b {K : Nat} {t e : TypeId} {i0 : TypeInfo} {z : Value} {W : World} {base n : Nat} {v : Value} {xs news : List Value} {ad : Addr} (ht : Tryz.prog.underlying t = some (.slice e)) (hi : Tryz.prog.info? e = some i0) (hz0 : i0.zero = some z) (hz1 : i0.size = K) (hK : 0 < K) (hzs : z.cells.size = K)
    (hby : i0.bytes ≤ 1000) (h : OwnK K e W base v n xs) (hl : news.length = K) (hnews : ∀ j u, news[j]? = some u → W.cell? (ad.add j) = some u) (h1 : ∀ u ∈ news, u.oneCell' = true) (hn : (n + 1) * i0.bytes ≤ 140737488355328 ∧ n + 1 ≤ 140737488355328) (hbase : base ≤ W.heap.size) :
    ∃ v' w', (Builtin.append_ #[t, t] t #[v, .slice (some ad) 1 1]).run Tryz.prog W = .ok v' w' ∧ OwnK K e w' base v' (n + 1) (xs ++ news) ∧ W.grownBy w' v.ownBlock ∧ (v'.ownBlock = v.ownBlock ∨ ∃ g, v'.ownBlock = some g ∧ W.heap.size ≤ g) := by
  obtain ⟨hmul, hn⟩ := hn
  obtain ⟨hxl, A, c, rfl, hc1, hc2, h3⟩ := h
  have hlen : (xs ++ news).length = (n + 1) * K := by rw [List.length_append, hxl, hl, Nat.add_mul, Nat.one_mul]
  rcases h3 with ⟨rfl, rfl, rfl⟩ | ⟨g, cur, rfl, hg, hb, h4, h5⟩
  · have hns : xs = [] := List.length_eq_zero_iff.1 (by simpa using hxl)
    subst hns
    have hr := run_append_nil (P := Tryz.prog) W t t e i0 z ht hi hz0 ad 1 1 news (by rw [hz1, hl]; simp) hnews (by omega) (by omega) (by have := hby; omega)
    have hge := grownCap_ge W 1 0 e
    have hcm : grownCap W 1 0 e ≤ maxLen := grownCap_le_maxLen W 1 0 e (by unfold maxLen; omega)
    refine ⟨_, _, hr, ⟨hlen, some ⟨W.heap.size, 0, none⟩, _, rfl, by simpa using hge, hcm, .inr ⟨W.heap.size, _, rfl, hbase, heap_alloc_new W.drew _, ?_, ?_⟩⟩, ⟨rfl, rfl, rfl, by simp, fun k hk _ => Below.heap_alloc W.drew _ k hk⟩, .inr ⟨_, rfl, Nat.le_refl _⟩⟩
    · simp only [Array.size_append, List.size_toArray, size_zeroCells, hl, hzs]
      generalize grownCap W 1 0 e = G at hge
      obtain ⟨G, rfl⟩ : ∃ q, G = q + 1 := ⟨G - 1, by omega⟩
      rw [Nat.add_sub_cancel, Nat.add_mul, Nat.one_mul]
      try simp
      omega
    · simp only [Array.toList_append, Nat.zero_add, Nat.one_mul, List.nil_append]
      rw [List.take_append_of_le_length (by first | omega | (simp; omega))]
      exact List.take_of_length_le (by first | omega | (simp; omega))
  · by_cases hroom : n + 1 ≤ c
    · have hfit : n * i0.size + news.length ≤ cur.size := by
        rw [hl, hz1]
        have : (n + 1) * K ≤ c * K := Nat.mul_le_mul_right _ hroom
        rw [Nat.add_mul, Nat.one_mul] at this
        omega
      have hr := run_append_room (P := Tryz.prog) W t t e i0 ht hi g n c cur hb ad 1 1 news (by rw [hz1, hl]; simp) hnews h1 hroom hfit
      refine ⟨_, _, hr, ⟨hlen, some ⟨g, 0, none⟩, c, rfl, hroom, hc2, .inr ⟨g, _, rfl, hg, setRow_heap W g cur _ _ _ hb, ?_, ?_⟩⟩, ⟨rfl, rfl, rfl, by simp, fun k _ hk => setRow_other W g k _ (fun e => hk (by simp [Value.ownBlock, e]))⟩, .inl rfl⟩
      · simp only [List.size_toArray, List.length_append, List.length_take, List.length_drop, Array.length_toList]
        rw [hz1] at hfit ⊢
        omega
      · rw [hz1, h5, ← hlen]
        exact List.take_left
    · have holds : ∀ j u, xs[j]? = some u → W.cell? ((⟨g, 0, none⟩ : Addr).add j) = some u := by
        intro j u hj
        have hadd : (⟨g, 0, none⟩ : Addr).add j = ⟨g, j, none⟩ := by unfold Addr.add; split <;> simp_all
        rw [hadd, cell_of_row W g j cur _ (0, 0) hb]
        rw [← h5, List.getElem?_take] at hj
        split at hj
        · simpa using hj
        · cases hj
      have hr := run_append_grow (P := Tryz.prog) W t t e i0 z ht hi hz0 ⟨g, 0, none⟩ n c xs (by rw [hz1]; exact hxl) holds ad 1 1 news (by rw [hz1, hl]; simp) hnews (by omega) (by omega) (growslice_fits (by omega) hmul)
      have hge := grownCap_ge W (n + 1) c e
      have hcm : grownCap W (n + 1) c e ≤ maxLen := grownCap_le_maxLen W (n + 1) c e (by unfold maxLen; omega)
      refine ⟨_, _, hr, ⟨hlen, some ⟨W.heap.size, 0, none⟩, _, rfl, hge, hcm, .inr ⟨W.heap.size, _, rfl, hbase, heap_alloc_new W.drew _, ?_, ?_⟩⟩, ⟨rfl, rfl, rfl, by simp, fun k hk _ => Below.heap_alloc W.drew _ k hk⟩, .inr ⟨_, rfl, Nat.le_refl _⟩⟩
      · simp only [Array.size_append, List.size_toArray, size_zeroCells, hl, hzs, hxl]
        generalize grownCap W (n + 1) c e = G at hge
        obtain ⟨G, rfl⟩ : ∃ q, G = q + (n + 1) := ⟨G - (n + 1), by omega⟩
        rw [Nat.add_sub_cancel, Nat.add_mul, Nat.add_mul, Nat.one_mul]
        omega
      · simp only [Array.toList_append]
        rw [← hlen]
        exact List.take_left

/-- .. in a walk. -/
theorem wpList_append_b {K : Nat} {t e : TypeId} {i0 : TypeInfo} {z : Value} {ops : Array Oper} {rest : List Oper} {o : Oper} {a : Act} {W : World} {Q : Exit → Act → World → Prop} (hgd : o.guard = none) (s x : Operand)
    (ho : o.op = .call { callee := .builtin .append, args := #[s, x], argTypes := #[t, t] }) (hty : o.type = t) (ht : Tryz.prog.underlying t = some (.slice e)) (hi : Tryz.prog.info? e = some i0) (hz0 : i0.zero = some z) (hz1 : i0.size = K) (hK : 0 < K) (hzs : z.cells.size = K) (hby : i0.bytes ≤ 1000)
    (base n : Nat) (v : Value) (xs news : List Value) (g : Nat) (hs : a.eval s = v) (hown : OwnK K e W base v n xs) (hl : news.length = K) (h1 : ∀ u ∈ news, u.oneCell' = true)
    (hx : a.eval x = .slice (some ⟨g, 0, none⟩) 1 1) (hnews : ∀ j u, news[j]? = some u → W.cell? ((⟨g, 0, none⟩ : Addr).add j) = some u) (hn : (n + 1) * i0.bytes ≤ 140737488355328 ∧ n + 1 ≤ 140737488355328) (hbase : base ≤ W.heap.size)
    (h : ∀ v' w', OwnK K e w' base v' (n + 1) (xs ++ news) → W.grownBy w' v.ownBlock → (v'.ownBlock = v.ownBlock ∨ ∃ g, v'.ownBlock = some g ∧ W.heap.size ≤ g) → wpList Tryz.prog ops Q rest (a.put o.dst v') w') :
    wpList Tryz.prog ops Q (o :: rest) a W := by
  refine wpList_plain hgd fun K' hK' => ?_
  obtain ⟨v', w', hr, h2, h3, h4⟩ := run_append_b ht hi hz0 hz1 hK hzs hby hown hl hnews h1 hn hbase
  unfold Oper.wp execOp
  simp only [ho, resolve, invoke, builtin, Sem.run_bind, Sem.run_pure, Result.andThen_ok, List.map_toArray, List.map_cons, List.map_nil, hs, hx, hty, hr]
  exact hK' _ _ (h v' w' h2 h3 h4)

/-- .. as a step of a region that draws its order. -/
theorem step_append_b {K : Nat} {t e : TypeId} {i0 : TypeInfo} {z : Value} {ops : Array Oper} {o : Oper} {a : Act} {W : World} {KK : Act → World → Prop} {Q : Exit → Act → World → Prop} {E : Prop} (hgd : o.guard = none) (s x : Operand)
    (ho : o.op = .call { callee := .builtin .append, args := #[s, x], argTypes := #[t, t] }) (hty : o.type = t) (ht : Tryz.prog.underlying t = some (.slice e)) (hi : Tryz.prog.info? e = some i0) (hz0 : i0.zero = some z) (hz1 : i0.size = K) (hK : 0 < K) (hzs : z.cells.size = K) (hby : i0.bytes ≤ 1000)
    (base n : Nat) (v : Value) (xs news : List Value) (g : Nat) (hs : a.eval s = v) (hown : OwnK K e W base v n xs) (hl : news.length = K) (h1 : ∀ u ∈ news, u.oneCell' = true)
    (hx : a.eval x = .slice (some ⟨g, 0, none⟩) 1 1) (hnews : ∀ j u, news[j]? = some u → W.cell? ((⟨g, 0, none⟩ : Addr).add j) = some u) (hn : (n + 1) * i0.bytes ≤ 140737488355328 ∧ n + 1 ≤ 140737488355328) (hbase : base ≤ W.heap.size)
    (h : ∀ v' w', OwnK K e w' base v' (n + 1) (xs ++ news) → W.grownBy w' v.ownBlock → (v'.ownBlock = v.ownBlock ∨ ∃ g, v'.ownBlock = some g ∧ W.heap.size ≤ g) → KK (a.put o.dst v') w') :
    if Region.wanted o (yielded ops a.tmps) = true then Oper.wp Tryz.prog o a W KK Q else E := by
  have hw : Region.wanted o (yielded ops a.tmps) = true := by simp [Region.wanted, hgd]
  rw [if_pos hw]
  obtain ⟨v', w', hr, h2, h3, h4⟩ := run_append_b ht hi hz0 hz1 hK hzs hby hown hl hnews h1 hn hbase
  unfold Oper.wp execOp
  simp only [ho, resolve, invoke, builtin, Sem.run_bind, Sem.run_pure, Result.andThen_ok, List.map_toArray, List.map_cons, List.map_nil, hs, hx, hty, hr]
  exact h v' w' h2 h3 h4

end Go.Proofs.YtioppoaijehicaaGreatDoor
/-
  A LAW AT append: the elements of any slice, none too, to a row that the call owns and that is not empty.
-/
namespace Go.Proofs.YtioppoaijehicaaGreatDoor
open Go.RowKit

theorem run_append_v {K : Nat} {t e : TypeId} {i0 : TypeInfo} {z : Value} {W : World} {base n q c2 : Nat} {v : Value} {xs news : List Value} {A2 : Option Addr} (ht : Tryz.prog.underlying t = some (.slice e)) (hi : Tryz.prog.info? e = some i0) (hz0 : i0.zero = some z) (hz1 : i0.size = K) (_ : 0 < K) (hzs : z.cells.size = K)
    (hby : i0.bytes ≤ 1000) (h : OwnK K e W base v n xs) (hn0 : 0 < n) (hl : news.length = q * K) (hsrc : 0 < q → ∃ ad, A2 = some ad ∧ ∀ j u, news[j]? = some u → W.cell? (ad.add j) = some u) (h1 : ∀ u ∈ news, u.oneCell' = true) (hn : n + q ≤ 1000000) (hbase : base ≤ W.heap.size) :
    ∃ v' w', (Builtin.append_ #[t, t] t #[v, .slice A2 q c2]).run Tryz.prog W = .ok v' w' ∧ OwnK K e w' base v' (n + q) (xs ++ news) ∧ W.grownBy w' v.ownBlock ∧ (v'.ownBlock = v.ownBlock ∨ ∃ g, v'.ownBlock = some g ∧ W.heap.size ≤ g) := by
  have hmul : (n + q) * i0.bytes ≤ 140737488355328 := Nat.le_trans (Nat.mul_le_mul (hn) hby) (by omega)
  have hq0 : q = 0 → news = [] := fun e0 => by subst e0; exact List.length_eq_zero_iff.1 (by simpa using hl)
  have hown := h
  obtain ⟨hxl, A, c, rfl, hc1, hc2, h3⟩ := h
  have hlen : (xs ++ news).length = (n + q) * K := by rw [List.length_append, hxl, hl, Nat.add_mul]
  rcases h3 with ⟨rfl, rfl, rfl⟩ | ⟨g, cur, rfl, hg, hb, h4, h5⟩
  · omega
  · cases A2 with
    | none =>
      have hq : q = 0 := by
        rcases Nat.eq_zero_or_pos q with h | h
        · exact h
        · obtain ⟨ad, e, _⟩ := hsrc h
          cases e
      subst hq
      obtain rfl := hq0 rfl
      refine ⟨.slice (some ⟨g, 0, none⟩) n c, W, ?_, by simpa using hown, ⟨rfl, rfl, rfl, Nat.le_refl _, fun _ _ _ => rfl⟩, .inl rfl⟩
      have hst : (storeCells (Addr.add ⟨g, 0, none⟩ (n * i0.size)) []).run Tryz.prog W = .ok () W := by
        simp [storeCells]
      simp [Builtin.append_, run_underlying ht, sizeOf, typeInfo, hi, Builtin.lenOf, Builtin.firstCells, hc1, hst]
    | some ad =>
      have hnews : ∀ j u, news[j]? = some u → W.cell? (ad.add j) = some u := by
        rcases Nat.eq_zero_or_pos q with h | h
        · rw [hq0 h]; intro j u hj; simp at hj
        · obtain ⟨ad', e, hx⟩ := hsrc h
          obtain rfl := Option.some.inj e
          exact hx
      by_cases hroom : n + q ≤ c
      · have hfit : n * i0.size + news.length ≤ cur.size := by
          rw [hl, hz1]
          have : (n + q) * K ≤ c * K := Nat.mul_le_mul_right _ hroom
          rw [Nat.add_mul] at this
          omega
        have hr := run_append_room (P := Tryz.prog) W t t e i0 ht hi g n c cur hb ad q c2 news (by rw [hz1, hl]) hnews h1 hroom hfit
        refine ⟨_, _, hr, ⟨hlen, some ⟨g, 0, none⟩, c, rfl, hroom, hc2, .inr ⟨g, _, rfl, hg, setRow_heap W g cur _ _ _ hb, ?_, ?_⟩⟩, ⟨rfl, rfl, rfl, by simp, fun k _ hk => setRow_other W g k _ (fun e => hk (by simp [Value.ownBlock, e]))⟩, .inl rfl⟩
        · simp only [List.size_toArray, List.length_append, List.length_take, List.length_drop, Array.length_toList]
          rw [hz1] at hfit ⊢
          omega
        · rw [hz1, h5, ← hlen]
          exact List.take_left
      · have holds : ∀ j u, xs[j]? = some u → W.cell? ((⟨g, 0, none⟩ : Addr).add j) = some u := by
          intro j u hj
          have hadd : (⟨g, 0, none⟩ : Addr).add j = ⟨g, j, none⟩ := by unfold Addr.add; split <;> simp_all
          rw [hadd, cell_of_row W g j cur _ (0, 0) hb]
          rw [← h5, List.getElem?_take] at hj
          split at hj
          · simpa using hj
          · cases hj
        have hr := run_append_grow (P := Tryz.prog) W t t e i0 z ht hi hz0 ⟨g, 0, none⟩ n c xs (by rw [hz1]; exact hxl) holds ad q c2 news (by rw [hz1, hl]) hnews (by omega) (by omega) (growslice_fits (by omega) hmul)
        have hge := grownCap_ge W (n + q) c e
        have hcm : grownCap W (n + q) c e ≤ maxLen := grownCap_le_maxLen W (n + q) c e (by unfold maxLen; omega)
        refine ⟨_, _, hr, ⟨hlen, some ⟨W.heap.size, 0, none⟩, _, rfl, hge, hcm, .inr ⟨W.heap.size, _, rfl, hbase, heap_alloc_new W.drew _, ?_, ?_⟩⟩, ⟨rfl, rfl, rfl, by simp, fun k hk _ => Below.heap_alloc W.drew _ k hk⟩, .inr ⟨_, rfl, Nat.le_refl _⟩⟩
        · simp only [Array.size_append, List.size_toArray, size_zeroCells, hl, hzs, hxl]
          generalize grownCap W (n + q) c e = G at hge
          obtain ⟨G, rfl⟩ : ∃ p, G = p + (n + q) := ⟨G - (n + q), by omega⟩
          rw [Nat.add_sub_cancel, Nat.add_mul, Nat.add_mul]
          omega
        · simp only [Array.toList_append]
          rw [← hlen]
          exact List.take_left

/-- .. in a walk. -/
theorem wpList_append_v {K : Nat} {t e : TypeId} {i0 : TypeInfo} {z : Value} {ops : Array Oper} {rest : List Oper} {o : Oper} {a : Act} {W : World} {Q : Exit → Act → World → Prop} (hgd : o.guard = none) (s x : Operand)
    (ho : o.op = .call { callee := .builtin .append, args := #[s, x], argTypes := #[t, t] }) (hty : o.type = t) (ht : Tryz.prog.underlying t = some (.slice e)) (hi : Tryz.prog.info? e = some i0) (hz0 : i0.zero = some z) (hz1 : i0.size = K) (hK : 0 < K) (hzs : z.cells.size = K) (hby : i0.bytes ≤ 1000)
    (base n q c2 : Nat) (v : Value) (xs news : List Value) (A2 : Option Addr) (hs : a.eval s = v) (hown : OwnK K e W base v n xs) (hn0 : 0 < n) (hl : news.length = q * K) (h1 : ∀ u ∈ news, u.oneCell' = true)
    (hx : a.eval x = .slice A2 q c2) (hsrc : 0 < q → ∃ ad, A2 = some ad ∧ ∀ j u, news[j]? = some u → W.cell? (ad.add j) = some u) (hn : n + q ≤ 1000000) (hbase : base ≤ W.heap.size)
    (h : ∀ v' w', OwnK K e w' base v' (n + q) (xs ++ news) → W.grownBy w' v.ownBlock → (v'.ownBlock = v.ownBlock ∨ ∃ g, v'.ownBlock = some g ∧ W.heap.size ≤ g) → wpList Tryz.prog ops Q rest (a.put o.dst v') w') :
    wpList Tryz.prog ops Q (o :: rest) a W := by
  refine wpList_plain hgd fun K' hK' => ?_
  obtain ⟨v', w', hr, h2, h3, h4⟩ := run_append_v (c2 := c2) ht hi hz0 hz1 hK hzs hby hown hn0 hl hsrc h1 hn hbase
  unfold Oper.wp execOp
  simp only [ho, resolve, invoke, builtin, Sem.run_bind, Sem.run_pure, Result.andThen_ok, List.map_toArray, List.map_cons, List.map_nil, hs, hx, hty, hr]
  exact hK' _ _ (h v' w' h2 h3 h4)

end Go.Proofs.YtioppoaijehicaaGreatDoor
/-
  A LAW AT append: the elements of any slice, none too, to a row that the call owns, however long, as far as it fits into memory.
-/
namespace Go.Proofs.YtioppoaijehicaaGreatDoor
open Go.RowKit

theorem run_append_l {K : Nat} {t e : TypeId} {i0 : TypeInfo} {z : Value} {W : World} {base n q c2 : Nat} {v : Value} {xs news : List Value} {A2 : Option Addr} (ht : Tryz.prog.underlying t = some (.slice e)) (hi : Tryz.prog.info? e = some i0) (hz0 : i0.zero = some z) (hz1 : i0.size = K) (_ : 0 < K) (hzs : z.cells.size = K)
    (hby : i0.bytes ≤ 1000) (h : OwnK K e W base v n xs) (hl : news.length = q * K) (hsrc : 0 < q → ∃ ad, A2 = some ad ∧ ∀ j u, news[j]? = some u → W.cell? (ad.add j) = some u) (h1 : ∀ u ∈ news, u.oneCell' = true) (hn : (n + q) * i0.bytes ≤ 140737488355328 ∧ n + q ≤ 140737488355328) (hbase : base ≤ W.heap.size) :
    ∃ v' w', (Builtin.append_ #[t, t] t #[v, .slice A2 q c2]).run Tryz.prog W = .ok v' w' ∧ OwnK K e w' base v' (n + q) (xs ++ news) ∧ W.grownBy w' v.ownBlock ∧ (v'.ownBlock = v.ownBlock ∨ ∃ g, v'.ownBlock = some g ∧ W.heap.size ≤ g) := by
  obtain ⟨hmul, hn⟩ := hn
  have hq0 : q = 0 → news = [] := fun e0 => by subst e0; exact List.length_eq_zero_iff.1 (by simpa using hl)
  have hown := h
  obtain ⟨hxl, A, c, rfl, hc1, hc2, h3⟩ := h
  have hlen : (xs ++ news).length = (n + q) * K := by rw [List.length_append, hxl, hl, Nat.add_mul]
  rcases h3 with ⟨rfl, rfl, rfl⟩ | ⟨g, cur, rfl, hg, hb, h4, h5⟩
  · have hns : xs = [] := List.length_eq_zero_iff.1 (by simpa using hxl)
    subst hns
    rcases Nat.eq_zero_or_pos q with rfl | hq
    · obtain rfl := hq0 rfl
      refine ⟨.slice none 0 0, W, ?_, by simpa using hown, ⟨rfl, rfl, rfl, Nat.le_refl _, fun _ _ _ => rfl⟩, .inl rfl⟩
      cases A2 with
      | none => simp [Builtin.append_, run_underlying ht, sizeOf, typeInfo, hi, Builtin.lenOf, Builtin.firstCells]
      | some ad =>
        have hf := run_firstCells_some (P := Tryz.prog) W i0.size 0 ad 0 c2 [] (by simp) (by simp)
        simp [Builtin.append_, run_underlying ht, sizeOf, typeInfo, hi, Builtin.lenOf, hf]
    · obtain ⟨ad, rfl, hnews⟩ := hsrc hq
      rw [Nat.zero_add] at hmul hn
      have hr := run_append_nil (P := Tryz.prog) W t t e i0 z ht hi hz0 ad q c2 news (by rw [hz1, hl]) hnews hq (by omega) (by omega)
      have hge := grownCap_ge W q 0 e
      have hcm : grownCap W q 0 e ≤ maxLen := grownCap_le_maxLen W q 0 e (by unfold maxLen; omega)
      refine ⟨_, _, hr, ⟨hlen, some ⟨W.heap.size, 0, none⟩, _, by rw [Nat.zero_add], by simpa using hge, hcm, .inr ⟨W.heap.size, _, rfl, hbase, heap_alloc_new W.drew _, ?_, ?_⟩⟩, ⟨rfl, rfl, rfl, by simp, fun k hk _ => Below.heap_alloc W.drew _ k hk⟩, .inr ⟨_, rfl, Nat.le_refl _⟩⟩
      · simp only [Array.size_append, List.size_toArray, size_zeroCells, hl, hzs]
        generalize grownCap W q 0 e = G at hge
        obtain ⟨G, rfl⟩ : ∃ p, G = p + q := ⟨G - q, by omega⟩
        rw [Nat.add_sub_cancel, Nat.add_mul]
        omega
      · simp only [Array.toList_append, Nat.zero_add, List.nil_append]
        rw [← hl]
        exact List.take_left
  · cases A2 with
    | none =>
      have hq : q = 0 := by
        rcases Nat.eq_zero_or_pos q with h | h
        · exact h
        · obtain ⟨ad, e, _⟩ := hsrc h
          cases e
      subst hq
      obtain rfl := hq0 rfl
      refine ⟨.slice (some ⟨g, 0, none⟩) n c, W, ?_, by simpa using hown, ⟨rfl, rfl, rfl, Nat.le_refl _, fun _ _ _ => rfl⟩, .inl rfl⟩
      have hst : (storeCells (Addr.add ⟨g, 0, none⟩ (n * i0.size)) []).run Tryz.prog W = .ok () W := by
        simp [storeCells]
      simp [Builtin.append_, run_underlying ht, sizeOf, typeInfo, hi, Builtin.lenOf, Builtin.firstCells, hc1, hst]
    | some ad =>
      have hnews : ∀ j u, news[j]? = some u → W.cell? (ad.add j) = some u := by
        rcases Nat.eq_zero_or_pos q with h | h
        · rw [hq0 h]; intro j u hj; simp at hj
        · obtain ⟨ad', e, hx⟩ := hsrc h
          obtain rfl := Option.some.inj e
          exact hx
      by_cases hroom : n + q ≤ c
      · have hfit : n * i0.size + news.length ≤ cur.size := by
          rw [hl, hz1]
          have : (n + q) * K ≤ c * K := Nat.mul_le_mul_right _ hroom
          rw [Nat.add_mul] at this
          omega
        have hr := run_append_room (P := Tryz.prog) W t t e i0 ht hi g n c cur hb ad q c2 news (by rw [hz1, hl]) hnews h1 hroom hfit
        refine ⟨_, _, hr, ⟨hlen, some ⟨g, 0, none⟩, c, rfl, hroom, hc2, .inr ⟨g, _, rfl, hg, setRow_heap W g cur _ _ _ hb, ?_, ?_⟩⟩, ⟨rfl, rfl, rfl, by simp, fun k _ hk => setRow_other W g k _ (fun e => hk (by simp [Value.ownBlock, e]))⟩, .inl rfl⟩
        · simp only [List.size_toArray, List.length_append, List.length_take, List.length_drop, Array.length_toList]
          rw [hz1] at hfit ⊢
          omega
        · rw [hz1, h5, ← hlen]
          exact List.take_left
      · have holds : ∀ j u, xs[j]? = some u → W.cell? ((⟨g, 0, none⟩ : Addr).add j) = some u := by
          intro j u hj
          have hadd : (⟨g, 0, none⟩ : Addr).add j = ⟨g, j, none⟩ := by unfold Addr.add; split <;> simp_all
          rw [hadd, cell_of_row W g j cur _ (0, 0) hb]
          rw [← h5, List.getElem?_take] at hj
          split at hj
          · simpa using hj
          · cases hj
        have hr := run_append_grow (P := Tryz.prog) W t t e i0 z ht hi hz0 ⟨g, 0, none⟩ n c xs (by rw [hz1]; exact hxl) holds ad q c2 news (by rw [hz1, hl]) hnews (by omega) (by omega) (growslice_fits (by omega) hmul)
        have hge := grownCap_ge W (n + q) c e
        have hcm : grownCap W (n + q) c e ≤ maxLen := grownCap_le_maxLen W (n + q) c e (by unfold maxLen; omega)
        refine ⟨_, _, hr, ⟨hlen, some ⟨W.heap.size, 0, none⟩, _, rfl, hge, hcm, .inr ⟨W.heap.size, _, rfl, hbase, heap_alloc_new W.drew _, ?_, ?_⟩⟩, ⟨rfl, rfl, rfl, by simp, fun k hk _ => Below.heap_alloc W.drew _ k hk⟩, .inr ⟨_, rfl, Nat.le_refl _⟩⟩
        · simp only [Array.size_append, List.size_toArray, size_zeroCells, hl, hzs, hxl]
          generalize grownCap W (n + q) c e = G at hge
          obtain ⟨G, rfl⟩ : ∃ p, G = p + (n + q) := ⟨G - (n + q), by omega⟩
          rw [Nat.add_sub_cancel, Nat.add_mul, Nat.add_mul]
          omega
        · simp only [Array.toList_append]
          rw [← hlen]
          exact List.take_left

/-- .. in a walk. -/
theorem wpList_append_l {K : Nat} {t e : TypeId} {i0 : TypeInfo} {z : Value} {ops : Array Oper} {rest : List Oper} {o : Oper} {a : Act} {W : World} {Q : Exit → Act → World → Prop} (hgd : o.guard = none) (s x : Operand)
    (ho : o.op = .call { callee := .builtin .append, args := #[s, x], argTypes := #[t, t] }) (hty : o.type = t) (ht : Tryz.prog.underlying t = some (.slice e)) (hi : Tryz.prog.info? e = some i0) (hz0 : i0.zero = some z) (hz1 : i0.size = K) (hK : 0 < K) (hzs : z.cells.size = K) (hby : i0.bytes ≤ 1000)
    (base n q c2 : Nat) (v : Value) (xs news : List Value) (A2 : Option Addr) (hs : a.eval s = v) (hown : OwnK K e W base v n xs) (hl : news.length = q * K) (h1 : ∀ u ∈ news, u.oneCell' = true)
    (hx : a.eval x = .slice A2 q c2) (hsrc : 0 < q → ∃ ad, A2 = some ad ∧ ∀ j u, news[j]? = some u → W.cell? (ad.add j) = some u) (hn : (n + q) * i0.bytes ≤ 140737488355328 ∧ n + q ≤ 140737488355328) (hbase : base ≤ W.heap.size)
    (h : ∀ v' w', OwnK K e w' base v' (n + q) (xs ++ news) → W.grownBy w' v.ownBlock → (v'.ownBlock = v.ownBlock ∨ ∃ g, v'.ownBlock = some g ∧ W.heap.size ≤ g) → wpList Tryz.prog ops Q rest (a.put o.dst v') w') :
    wpList Tryz.prog ops Q (o :: rest) a W := by
  refine wpList_plain hgd fun K' hK' => ?_
  obtain ⟨v', w', hr, h2, h3, h4⟩ := run_append_l (c2 := c2) ht hi hz0 hz1 hK hzs hby hown hl hsrc h1 hn hbase
  unfold Oper.wp execOp
  simp only [ho, resolve, invoke, builtin, Sem.run_bind, Sem.run_pure, Result.andThen_ok, List.map_toArray, List.map_cons, List.map_nil, hs, hx, hty, hr]
  exact hK' _ _ (h v' w' h2 h3 h4)

end Go.Proofs.YtioppoaijehicaaGreatDoor
