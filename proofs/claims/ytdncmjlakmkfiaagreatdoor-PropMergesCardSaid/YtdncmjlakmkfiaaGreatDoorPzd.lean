/-
  PLAIN AND MEMORY: a row that the call owns, written over in its midst, and cut; what a question about a name answers.
-/
import Derived.Test.YtdncmjlakmkfiaaGreatDoorPzc
import Derived.Test.YtdncmjlakmkfiaaGreatDoorPpd
import Derived.Lib.BufferOwn
set_option linter.all false
namespace Go.Proofs.YtdncmjlakmkfiaaGreatDoor
open Go.RowKit Go.Lib

theorem heap_setCells (g : Nat) (t : TypeId) : ∀ (vs : List Value) (o : Nat) (w : World) (cs : Array Value), w.heap[g]? = some (.cells cs t (0, 0)) →
    ∃ cs' : Array Value, (w.setCells g o vs).heap[g]? = some (.cells cs' t (0, 0)) ∧ cs'.size = cs.size ∧ ∀ k, cs'[k]? = if o ≤ k ∧ k < o + vs.length ∧ k < cs.size then vs[k - o]? else cs[k]?
  | [], o, w, cs, h => ⟨cs, h, rfl, fun k => by rw [if_neg (by simp; omega)]⟩
  | v :: vs, o, w, cs, h => by
    obtain ⟨cs', h1, h2, h3⟩ := heap_setCells g t vs (o + 1) (w.setCell ⟨g, o, none⟩ v) (cs.setIfInBounds o v) (heap_setCell_same w g o cs t v h)
    refine ⟨cs', h1, by rw [h2, Array.size_setIfInBounds], fun k => ?_⟩
    rw [h3 k, Array.size_setIfInBounds]
    simp only [List.length_cons]
    by_cases hk : k = o
    · subst hk
      rw [if_neg (by omega)]
      by_cases hs : k < cs.size
      · rw [if_pos ⟨Nat.le_refl _, by omega, hs⟩, Array.getElem?_setIfInBounds_self_of_lt hs]; simp
      · rw [if_neg (by omega), Array.getElem?_eq_none (by rw [Array.size_setIfInBounds]; omega), Array.getElem?_eq_none (by omega)]
    · rw [Array.getElem?_setIfInBounds_ne (by omega)]
      by_cases hin : o + 1 ≤ k ∧ k < o + 1 + vs.length ∧ k < cs.size
      · rw [if_pos hin, if_pos (by omega), show k - o = (k - (o + 1)) + 1 by omega, List.getElem?_cons_succ]
      · rw [if_neg hin, if_neg (by omega)]

theorem OwnK.over {K : Nat} {e : TypeId} {w : World} {base g n c : Nat} {xs : List Value} (h : OwnK K e w base (.slice (some ⟨g, 0, none⟩) n c) n xs) (o : Nat) (vs : List Value) (hv : o + vs.length ≤ n * K) :
    OwnK K e (w.setCells g o vs) base (.slice (some ⟨g, 0, none⟩) n c) n (xs.take o ++ (vs ++ xs.drop (o + vs.length))) := by
  obtain ⟨hl, A', c', hv2, h1, h2, h3⟩ := h
  injection hv2 with e1 _ e3
  subst e1 e3
  rcases h3 with ⟨e, _⟩ | ⟨g', cur, hA, hg, hb, h4, h5⟩
  · cases e
  · injection hA with hA
    injection hA with hA
    subst hA
    obtain ⟨cs', k1, k2, k3⟩ := heap_setCells g e vs o w cur hb
    refine ⟨by simp only [List.length_append, List.length_take, List.length_drop]; omega, _, c, rfl, h1, h2, .inr ⟨g, cs', rfl, hg, k1, by rw [k2]; exact h4, ?_⟩⟩
    have hcn : n * K ≤ c * K := Nat.mul_le_mul_right _ h1
    refine List.ext_getElem? fun k => ?_
    have hx : ∀ k, k < n * K → xs[k]? = cur[k]? := fun k hk => by rw [← h5, List.getElem?_take_of_lt hk]; simp
    by_cases hk : k < n * K
    · rw [List.getElem?_take_of_lt hk]
      have : cs'.toList[k]? = cs'[k]? := by simp
      rw [this, k3 k]
      by_cases ho : k < o
      · rw [if_neg (by omega), List.getElem?_append_left (by rw [List.length_take]; omega), List.getElem?_take_of_lt ho, hx k hk]
      · rw [List.getElem?_append_right (by rw [List.length_take]; omega)]
        have hto : (xs.take o).length = o := by rw [List.length_take]; omega
        rw [hto]
        by_cases hin : k < o + vs.length
        · rw [if_pos ⟨by omega, hin, by omega⟩, List.getElem?_append_left (by omega)]
        · rw [if_neg (by omega), List.getElem?_append_right (by omega), List.getElem?_drop, show o + vs.length + (k - o - vs.length) = k by omega, hx k hk]
    · rw [List.getElem?_eq_none (by rw [List.length_take]; omega), List.getElem?_eq_none (by simp only [List.length_append, List.length_take, List.length_drop]; omega)]

theorem OwnK.cut {K : Nat} {e : TypeId} {w : World} {base n c : Nat} {A : Option Addr} {xs : List Value} (h : OwnK K e w base (.slice A n c) n xs) {m : Nat} (hm : m ≤ n) : OwnK K e w base (.slice A m c) m (xs.take (m * K)) := by
  obtain ⟨hl, A', c', hv, h1, h2, h3⟩ := h
  injection hv with e1 _ e3
  subst e1 e3
  have hmn : m * K ≤ n * K := Nat.mul_le_mul_right _ hm
  refine ⟨by rw [List.length_take]; omega, A, c, rfl, by omega, h2, ?_⟩
  rcases h3 with ⟨a, b, d⟩ | ⟨g, cur, a, b, d, f, k⟩
  · exact .inl ⟨a, by omega, d⟩
  · exact .inr ⟨g, cur, a, b, d, f, by rw [← k, List.take_take, Nat.min_eq_left hmn]⟩

theorem flatCP_set : ∀ (ps : List CP) (i : Nat) (p : CP), i < ps.length → flatCP (ps.set i p) = (flatCP ps).take (i * 6) ++ (p.cells ++ (flatCP ps).drop (i * 6 + p.cells.length))
  | q :: ps, 0, p, _ => by
    show p.cells ++ flatCP ps = (q.cells ++ flatCP ps).take (0 * 6) ++ (p.cells ++ (q.cells ++ flatCP ps).drop (0 * 6 + p.cells.length))
    have hl : p.cells.length = q.cells.length := rfl
    rw [hl, Nat.zero_mul, Nat.zero_add, List.drop_left, List.take_zero, List.nil_append]
  | q :: ps, i + 1, p, h => by
    have ih := flatCP_set ps i p (by simpa using h)
    show q.cells ++ flatCP (ps.set i p) = (q.cells ++ flatCP ps).take ((i + 1) * 6) ++ (p.cells ++ (q.cells ++ flatCP ps).drop ((i + 1) * 6 + p.cells.length))
    have h1 : (i + 1) * 6 = q.cells.length + i * 6 := by show _ = 6 + _; omega
    rw [ih, h1, List.take_length_add_append, Nat.add_assoc, List.drop_length_add_append]
    simp only [List.append_assoc]

theorem flatCP_take (ps : List CP) (i : Nat) : flatCP (ps.take i) = (flatCP ps).take (i * 6) := by
  have h : flatCP ps = flatCP (ps.take i) ++ flatCP (ps.drop i) := by rw [← flatCP_append, List.take_append_drop]
  by_cases hi : i ≤ ps.length
  · rw [h, List.take_left' (by rw [flatCP_len, List.length_take]; omega)]
  · rw [List.take_of_length_le (by omega), List.take_of_length_le (by rw [flatCP_len]; omega)]

/-- A function that says whether a property has the name in its box. -/
structure Asks (fid : FuncId) : Prop where
  ent : ∀ args w, (callFunc fid args).run Tryz.prog w = .ok (.enter fid args) w
  call : ∀ (n : ByteArray) (k i t : Int) (s : ByteArray) (A : Option Addr) (m c g : Nat) (x : ByteArray) (w : World), w.cell? ⟨g, 0, none⟩ = some (.string x) → g < w.heap.size →
    Calls Tryz.prog fid #[.agg #[.string n, .int .i64 k, .int .i64 i, .int .i64 t, .string s, .slice A m c], .pointer (some ⟨g, 0, none⟩)] w fun e w' => e = .returned (.bool (n.toList == x.toList)) ∧ Below w.heap.size w w'

set_option maxHeartbeats 1600000 in
theorem asks_with : Asks 91 := ⟨fun args w => Go.Proofs.enters_of Tryz.func91 (by kernel_rfl) rfl args w, fun n k i t s A m c g x w hx hg => by
  go_enter Tryz.func91, Tryz.ntmps91
  go_wp2
  go_ret
  exact ⟨rfl, (by repeat (first | exact Below.refl _ _ | refine bl_plus ?_ | refine bl_alloc ?_ _ | refine bl_drew ?_ | refine bl_drewN ?_ _))⟩⟩

/-- The first property of a name. -/
def prIs2 (l : List CP) (x : ByteArray) (j : Nat) : Bool := match l[j]? with
  | some p => p.n.toList == x.toList
  | none => false

theorem prIs2_at {l : List CP} {x : ByteArray} {j : Nat} (h : j < l.length) : prIs2 l x j = (l[j].n.toList == x.toList) := by
  unfold prIs2
  rw [List.getElem?_eq_getElem h]

/-- The properties of other names. -/
def others (x : ByteArray) (l : List CP) : List CP := l.filter (fun p => !(p.n.toList == x.toList))

end Go.Proofs.YtdncmjlakmkfiaaGreatDoor
