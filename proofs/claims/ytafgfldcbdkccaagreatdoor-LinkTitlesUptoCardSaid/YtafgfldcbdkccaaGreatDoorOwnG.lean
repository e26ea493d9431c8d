/-
  WORDS FOR ROWS THAT THE CALL OWNS, elements of K cells: carried over new blocks, stores elsewhere; read as ints.
-/
import Derived.Test.YtafgfldcbdkccaaGreatDoorOwnM
import Derived.Test.YtafgfldcbdkccaaGreatDoorInts
set_option linter.all false
namespace Go.Proofs.YtafgfldcbdkccaaGreatDoor
open Go.RowKit

section
variable {K : Nat} {e : TypeId} {w w' : World} {base : Nat} {v : Value} {n : Nat} {xs : List Value}

theorem ownK_alloc (h : OwnK K e w base v n xs) (o : Obj) : OwnK K e (w.alloc o) base v n xs := h.kept fun k hk => Below.heap_alloc w o k (h.lt k hk).2

theorem ownK_plus (h : OwnK K e w base v n xs) (os : Array Obj) (q : Nat) : OwnK K e (plus w os q) base v n xs := h.kept fun k hk => plus_heap (h.lt k hk).2

theorem ownK_drew (h : OwnK K e w base v n xs) : OwnK K e w.drew base v n xs := h.kept fun _ _ => rfl

theorem ownK_drewN (h : OwnK K e w base v n xs) (q : Nat) : OwnK K e (w.drewN q) base v n xs := h.kept fun _ _ => rfl

theorem ownK_below (h : OwnK K e w base v n xs) (hb : Below w.heap.size w w') : OwnK K e w' base v n xs := h.kept fun k hk => hb.block k (h.lt k hk).2

theorem ownK_set (h : OwnK K e w base v n xs) {p : Addr} (hp : p.block < base) (u : Value) : OwnK K e (w.setCell p u) base v n xs := h.kept fun k hk => Below.heap_setCell w p u k (fun e2 => by have := (h.lt k hk).1; omega)

theorem ownK_form (h : OwnK K e w base v n xs) : ∃ A c, v = .slice A n c ∧ n ≤ c ∧ c ≤ maxLen ∧ (A = none → c = 0) := by
  obtain ⟨_, A, c, hv, h1, h2, h3⟩ := h
  refine ⟨A, c, hv, h1, h2, fun hA => ?_⟩
  rcases h3 with ⟨_, _, h4⟩ | ⟨g, cur, h4, _⟩
  · exact h4
  · rw [hA] at h4
    cases h4

theorem ownK_low (h : OwnK K e w base v n xs) {b2 : Nat} (hb : b2 ≤ base) : OwnK K e w b2 v n xs := by
  obtain ⟨hl, A, c, hv, h1, h2, h3⟩ := h
  refine ⟨hl, A, c, hv, h1, h2, ?_⟩
  rcases h3 with h3 | ⟨g, cur, h3, h4, h5⟩
  · exact .inl h3
  · exact .inr ⟨g, cur, h3, Nat.le_trans hb h4, h5⟩

theorem ownK_addr {A : Option Addr} {c : Nat} (h : OwnK K e w base (.slice A n c) n xs) : ∀ a, A = some a → base ≤ a.block := by
  intro a ha
  subst ha
  exact (h.lt a.block rfl).1
end

theorem ownK_ints {e : TypeId} {w : World} {base n : Nat} {A : Option Addr} {c m : Nat} {ns : List Int} (h : OwnK 1 e w base (.slice A m c) n (ns.map (Value.int .i64))) : m = n ∧ ns.length = n ∧ IntsAt w A ns := by
  obtain ⟨hl, A', c', hv, h1, h2, h3⟩ := h
  injection hv with e1 e2 e3
  subst e1 e2 e3
  have hn : ns.length = m := by simpa using hl
  refine ⟨rfl, hn, fun hp => ?_⟩
  rcases h3 with ⟨_, h0, _⟩ | ⟨g, cur, rfl, hg, hb, h4, h5⟩
  · omega
  · refine ⟨g, 0, rfl, (Array.getElem?_eq_some_iff.1 hb).1, fun j hj => ?_⟩
    rw [Nat.zero_add, cell_of_row w g j cur e (0, 0) hb]
    have h6 : (cur.toList.take (m * 1))[j]? = (ns.map (Value.int .i64))[j]? := by rw [h5]
    rw [List.getElem?_take_of_lt (by omega), List.getElem?_map, List.getElem?_eq_getElem hj] at h6
    simpa using h6

/-- Some cells, new. -/
theorem newN_cells {w : World} {t : TypeId} {cs : List Value} {g : Nat} (hg : g = w.heap.size) : ∀ j u, cs[j]? = some u → (w.alloc (.cells cs.toArray t)).cell? ((⟨g, 0, none⟩ : Addr).add j) = some u := by
  subst hg
  intro j u hj
  have hadd : (⟨w.heap.size, 0, none⟩ : Addr).add j = ⟨w.heap.size, j, none⟩ := by unfold Addr.add; split <;> simp_all
  rw [hadd, (Blk.new w t cs.toArray).cell j]
  simpa using hj

/-- A block is not the row's. -/
theorem ownK_ne {K : Nat} {e : TypeId} {w : World} {base : Nat} {v : Value} {n : Nat} {xs : List Value} (h : OwnK K e w base v n xs) {g : Nat} (hg : g < base) : some g ≠ v.ownBlock := fun e1 => by
  have := (h.lt g e1.symm).1
  omega

end Go.Proofs.YtafgfldcbdkccaaGreatDoor
