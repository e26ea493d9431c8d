/-
  WALKS: slices.Clone, IndexFunc and DeleteFunc at words, any function.
-/
import Derived.Test.YtfnooipkghfmoaaSng
import Derived.Test.YtfnooipkghfmoaaOwnM
import Derived.Lib.BufferOwn
import Derived.Deep.DeepCutAuto
set_option linter.all false
namespace Go.Proofs.Ytfnooipkghfmoaa
open Go.RowKit Go.Lib

theorem heap_setCellsQ (g : Nat) (t : TypeId) : ∀ (vs : List Value) (o : Nat) (w : World) (cs : Array Value), w.heap[g]? = some (.cells cs t (0, 0)) →
    ∃ cs' : Array Value, (w.setCells g o vs).heap[g]? = some (.cells cs' t (0, 0)) ∧ cs'.size = cs.size ∧ ∀ k, cs'[k]? = if o ≤ k ∧ k < o + vs.length ∧ k < cs.size then vs[k - o]? else cs[k]?
  | [], o, w, cs, h => ⟨cs, h, rfl, fun k => by rw [if_neg (by simp; omega)]⟩
  | v :: vs, o, w, cs, h => by
    obtain ⟨cs', h1, h2, h3⟩ := heap_setCellsQ g t vs (o + 1) (w.setCell ⟨g, o, none⟩ v) (cs.setIfInBounds o v) (heap_setCell_same w g o cs t v h)
    refine ⟨cs', h1, by rw [h2, Array.size_setIfInBounds], fun k => ?_⟩
    rw [h3 k, Array.size_setIfInBounds]
    simp only [List.length_cons]
    by_cases hk : k = o
    · subst hk
      rw [if_neg (by omega)]
      by_cases hs : k < cs.size
      · rw [if_pos ⟨Nat.le_refl _, by omega, hs⟩, Array.getElem?_setIfInBounds_self_of_lt hs]; simp
      · rw [if_neg (by omega), Array.getElem?_eq_none (by rw [Array.size_setIfInBounds]; omega), Array.getElem?_eq_none (by omega)]
    · rw [Array.getElem?_setIfInBounds_ne (by omega)]
      by_cases hin : o + 1 ≤ k ∧ k < o + 1 + vs.length ∧ k < cs.size
      · rw [if_pos hin, if_pos (by omega), show k - o = (k - (o + 1)) + 1 by omega, List.getElem?_cons_succ]
      · rw [if_neg hin, if_neg (by omega)]
theorem OwnK.overQ {K : Nat} {e : TypeId} {w : World} {base g n c : Nat} {xs : List Value} (h : OwnK K e w base (.slice (some ⟨g, 0, none⟩) n c) n xs) (o : Nat) (vs : List Value) (hv : o + vs.length ≤ n * K) :
    OwnK K e (w.setCells g o vs) base (.slice (some ⟨g, 0, none⟩) n c) n (xs.take o ++ (vs ++ xs.drop (o + vs.length))) := by
  obtain ⟨hl, A', c', hv2, h1, h2, h3⟩ := h
  injection hv2 with e1 _ e3
  subst e1 e3
  rcases h3 with ⟨e, _⟩ | ⟨g', cur, hA, hg, hb, h4, h5⟩
  · cases e
  · injection hA with hA
    injection hA with hA
    subst hA
    obtain ⟨cs', k1, k2, k3⟩ := heap_setCellsQ g e vs o w cur hb
    refine ⟨by simp only [List.length_append, List.length_take, List.length_drop]; omega, _, c, rfl, h1, h2, .inr ⟨g, cs', rfl, hg, k1, by rw [k2]; exact h4, ?_⟩⟩
    have hcn : n * K ≤ c * K := Nat.mul_le_mul_right _ h1
    refine List.ext_getElem? fun k => ?_
    have hx : ∀ k, k < n * K → xs[k]? = cur[k]? := fun k hk => by rw [← h5, List.getElem?_take_of_lt hk]; simp
    by_cases hk : k < n * K
    · rw [List.getElem?_take_of_lt hk]
      have : cs'.toList[k]? = cs'[k]? := by simp
      rw [this, k3 k]
      by_cases ho : k < o
      · rw [if_neg (by omega), List.getElem?_append_left (by rw [List.length_take]; omega), List.getElem?_take_of_lt ho, hx k hk]
      · rw [List.getElem?_append_right (by rw [List.length_take]; omega)]
        have hto : (xs.take o).length = o := by rw [List.length_take]; omega
        rw [hto]
        by_cases hin : k < o + vs.length
        · rw [if_pos ⟨by omega, hin, by omega⟩, List.getElem?_append_left (by omega)]
        · rw [if_neg (by omega), List.getElem?_append_right (by omega), List.getElem?_drop, show o + vs.length + (k - o - vs.length) = k by omega, hx k hk]
    · rw [List.getElem?_eq_none (by rw [List.length_take]; omega), List.getElem?_eq_none (by simp only [List.length_append, List.length_take, List.length_drop]; omega)]
theorem OwnK.cutQ {K : Nat} {e : TypeId} {w : World} {base n c : Nat} {A : Option Addr} {xs : List Value} (h : OwnK K e w base (.slice A n c) n xs) {m : Nat} (hm : m ≤ n) : OwnK K e w base (.slice A m c) m (xs.take (m * K)) := by
  obtain ⟨hl, A', c', hv, h1, h2, h3⟩ := h
  injection hv with e1 _ e3
  subst e1 e3
  have hmn : m * K ≤ n * K := Nat.mul_le_mul_right _ hm
  refine ⟨by rw [List.length_take]; omega, A, c, rfl, by omega, h2, ?_⟩
  rcases h3 with ⟨a, b, d⟩ | ⟨g, cur, a, b, d, f, k⟩
  · exact .inl ⟨a, by omega, d⟩
  · exact .inr ⟨g, cur, a, b, d, f, by rw [← k, List.take_take, Nat.min_eq_left hmn]⟩

theorem flatE_setQ {α : Type} {enc : α → List Value} {K : Nat} (hk : ∀ x, (enc x).length = K) : ∀ (l : List α) (i : Nat) (x : α), i < l.length → (l.set i x).flatMap enc = (l.flatMap enc).take (i * K) ++ (enc x ++ (l.flatMap enc).drop (i * K + (enc x).length))
  | a :: l, 0, x, _ => by
    have h2 : (enc x).length = (enc a).length := by rw [hk, hk]
    rw [List.set_cons_zero, List.flatMap_cons, List.flatMap_cons, h2, Nat.zero_mul, Nat.zero_add, List.drop_left, List.take_zero, List.nil_append]
  | a :: l, i + 1, x, h => by
    have ih := flatE_setQ hk l i x (by simpa using h)
    have h1 : (i + 1) * K = (enc a).length + i * K := by rw [hk, Nat.add_mul]; omega
    rw [List.set_cons_succ, List.flatMap_cons, List.flatMap_cons, ih, h1, List.take_length_add_append, Nat.add_assoc, List.drop_length_add_append]
    simp only [List.append_assoc]
theorem wcells3 : ∀ x : Wd, x.cells.length = 3 := fun _ => rfl
theorem flatW_take : ∀ (l : List Wd) (i : Nat), flatW (l.take i) = (flatW l).take (i * 3)
  | [], i => by simp [flatW]
  | x :: l, 0 => by simp [flatW]
  | x :: l, i + 1 => by
    have ih := flatW_take l i
    simp only [flatW, List.take_succ_cons, List.flatMap_cons] at ih ⊢
    rw [ih, show (i + 1) * 3 = x.cells.length + i * 3 by rw [wcells3]; omega, List.take_length_add_append]
theorem grownBy_cellsQ (g : Nat) : ∀ (vs : List Value) (o : Nat) (w : World), w.grownBy (w.setCells g o vs) (some g)
  | [], _, w => ⟨rfl, rfl, rfl, Nat.le_refl _, fun _ _ _ => rfl⟩
  | v :: vs, o, w => grownBy_trans (grownBy_setCell w g o v) (grownBy_cellsQ g vs (o + 1) _)

/-- What DeleteFunc leaves: the kept ones of the first j, then whatever, then the rest. -/
structure DelW (base g c : Nat) (p : Wd → Bool) (l : List Wd) (w0 : World) (i j : Nat) (w : World) : Prop where
  grown : w0.grownBy w (some g)
  cur : ∃ cur : List Wd, cur.length = l.length ∧ cur.take i = (l.take j).filter p ∧ cur.drop j = l.drop j ∧ OwnK 3 48 w base (.slice (some ⟨g, 0, none⟩) l.length c) l.length (flatW cur)
section
variable {base g c : Nat} {p : Wd → Bool} {l : List Wd} {w0 w w' : World} {i j : Nat}
theorem filter_snocQ (p : Wd → Bool) (l : List Wd) (x : Wd) : (l ++ [x]).filter p = if p x then l.filter p ++ [x] else l.filter p := by
  rw [List.filter_append]
  cases h : p x <;> simp [h]
theorem DelW.below (h : DelW base g c p l w0 i j w) (hb : Below w.heap.size w w') : DelW base g c p l w0 i j w' := by
  obtain ⟨h1, cur, h2, h3, h4, h5⟩ := h
  exact ⟨Go.Lib.grownBy_below h1 hb, cur, h2, h3, h4, ownK_below h5 hb⟩
theorem DelW.skip (h : DelW base g c p l w0 i j w) (hj : j < l.length) (hx : p l[j] = false) : DelW base g c p l w0 i (j + 1) w := by
  obtain ⟨h1, cur, h2, h3, h4, h5⟩ := h
  refine ⟨h1, cur, h2, ?_, ?_, h5⟩
  · rw [List.take_succ_eq_append_getElem hj, filter_snocQ, if_neg (by rw [hx]; decide)]; exact h3
  · rw [← List.drop_drop, ← List.drop_drop, h4]
theorem DelW.keep (h : DelW base g c p l w0 i j w) (hj : j < l.length) (hij : i ≤ j) (hx : p l[j] = true) : DelW base g c p l w0 (i + 1) (j + 1) (w.setCells g (i * 3) l[j].cells) := by
  obtain ⟨h1, cur, h2, h3, h4, h5⟩ := h
  have hi : i < cur.length := by omega
  refine ⟨?_, cur.set i l[j], by rw [List.length_set]; exact h2, ?_, ?_, ?_⟩
  · exact grownBy_trans h1 (grownBy_cellsQ g _ _ w)
  · rw [List.take_succ_eq_append_getElem hj, filter_snocQ, if_pos hx, ← h3, List.take_succ_eq_append_getElem (by rw [List.length_set]; exact hi), List.getElem_set_self, List.take_set_of_le (Nat.le_refl _)]
  · rw [List.drop_set_of_lt (by omega), ← List.drop_drop, ← List.drop_drop, h4]
  · unfold flatW
    rw [flatE_setQ wcells3 cur i _ hi]
    exact h5.overQ _ _ (by show i * 3 + 3 ≤ _; omega)
theorem DelW.cell (h : DelW base g c p l w0 i j w) {k m : Nat} (hk : k < l.length) (hjk : j ≤ k) (hm : m < 3) : w.cell? ⟨g, k * 3 + m, none⟩ = l[k].cells[m]? := by
  obtain ⟨h1, cur, h2, h3, h4, hl, A', c', hv, k1, k2, k3⟩ := h
  injection hv with e1 _ e3
  subst e1
  rcases k3 with ⟨e, _⟩ | ⟨g', cs, hA, hg, hb, h6, h7⟩
  · cases e
  · injection hA with hA
    injection hA with hA
    subst hA
    have hck : cur[k]? = l[k]? := by
      have := congrArg (fun l => l[k - j]?) h4
      simp only [List.getElem?_drop] at this
      rwa [show j + (k - j) = k by omega] at this
    have hkc : k < cur.length := by omega
    rw [List.getElem?_eq_getElem hkc, List.getElem?_eq_getElem hk] at hck
    rw [← Option.some.inj hck, ← flatW_get cur k m hkc hm, cell_of_row w g _ cs _ (0, 0) hb, ← h7, List.getElem?_take_of_lt (by omega)]
    simp
theorem DelW.there (h : DelW base g c p l w0 i j w) {k : Nat} (hk : k < l.length * 3) : (w.cell? ⟨g, k, none⟩).isSome = true ∧ w.frozen? ⟨g, k, none⟩ = false := by
  obtain ⟨h1, cur, h2, h3, h4, hl, A', c', hv, k1, k2, k3⟩ := h
  injection hv with e1 _ e3
  subst e1
  rcases k3 with ⟨e, _⟩ | ⟨g', cs, hA, hg, hb, h6, h7⟩
  · cases e
  · injection hA with hA
    injection hA with hA
    subst hA
    have hlt : k < cs.size := by
      have := congrArg List.length h7
      rw [hl, List.length_take, Array.length_toList] at this
      omega
    refine ⟨?_, Go.frozen_of_row w g _ cs _ hb⟩
    rw [cell_of_row w g _ cs _ (0, 0) hb, Array.getElem?_eq_getElem hlt]
    rfl
theorem DelW.start (h : OwnK 3 48 w base (.slice (some ⟨g, 0, none⟩) l.length c) l.length (flatW l)) (hall : ∀ k (h : k < l.length), k < i → p l[k] = true) : DelW base g c p l w i i w := by
  refine ⟨⟨rfl, rfl, rfl, Nat.le_refl _, fun _ _ _ => rfl⟩, l, rfl, ?_, rfl, h⟩
  symm
  rw [List.filter_eq_self]
  intro x hx
  obtain ⟨k, hk, rfl⟩ := List.mem_iff_getElem.1 hx
  rw [List.length_take] at hk
  rw [List.getElem_take, hall k (by omega) (by omega)]
/-- The end: the tail is blanked. -/
theorem DelW.over (h : DelW base g c p l w0 i l.length w) (hi : i ≤ l.length) (vs : List Value) (hvs : vs.length = (l.length - i) * 3) :
    OwnK 3 48 (w.setCells g (i * 3) vs) base (.slice (some ⟨g, 0, none⟩) i c) i (flatW (l.filter p)) ∧ w0.grownBy (w.setCells g (i * 3) vs) (some g) ∧ i = (l.filter p).length := by
  obtain ⟨h1, cur, h2, h3, h4, h5⟩ := h
  rw [List.take_length] at h3
  have hil : i = (l.filter p).length := by rw [← h3, List.length_take]; omega
  refine ⟨?_, grownBy_trans h1 (grownBy_cellsQ g _ _ w), hil⟩
  have hcut := (h5.overQ (i * 3) vs (by rw [hvs]; omega)).cutQ hi
  rw [List.take_append_of_le_length (by rw [List.length_take, flatW_len]; omega), List.take_take, Nat.min_self, ← flatW_take, h3] at hcut
  exact hcut
end

/-- 'clear(s)' at a slice of words. -/
theorem run_clear_wds (w : World) (g o n c : Nat) (hn : 0 < n) (hc : ∀ j, j < n * 3 → (w.cell? ⟨g, o + j, none⟩).isSome = true) (hf : ∀ j, j < n * 3 → w.frozen? ⟨g, o + j, none⟩ = false) :
    ∃ vs : List Value, vs.length = n * 3 ∧ ∀ ty, (Builtin.clear_ #[44] ty #[.slice (some ⟨g, o, none⟩) n c]).run Try.prog w = .ok (.tuple #[]) (w.setCells g o vs) := by
  have hz : ∀ w, (zeroValue 48).run Try.prog w = .ok (.agg #[.string ByteArray.empty, .int .i64 0, .int .i64 0]) w := Try.zeroValue48
  have hcells : (Value.agg #[.string ByteArray.empty, .int .i64 0, .int .i64 0]).cells = #[.string ByteArray.empty, .int .i64 0, .int .i64 0] := rfl
  have hlen : (Builtin.zeroCells #[.string ByteArray.empty, .int .i64 0, .int .i64 0] n).toList.length = n * 3 := by simp [Builtin.zeroCells]
  refine ⟨_, hlen, fun ty => ?_⟩
  have hone : ∀ v ∈ (Builtin.zeroCells #[.string ByteArray.empty, .int .i64 0, .int .i64 0] n).toList, v.oneCell' = true := by
    intro v hv
    simp only [Builtin.zeroCells, Array.toList_map, List.mem_map] at hv
    obtain ⟨i, _, rfl⟩ := hv
    have hm : i % 3 < 3 := Nat.mod_lt _ (by decide)
    have h6 : i % 3 = 0 ∨ i % 3 = 1 ∨ i % 3 = 2 := by omega
    show (#[Value.string ByteArray.empty, .int .i64 0, .int .i64 0][i % 3]!).oneCell' = true
    rcases h6 with h | h | h <;> rw [h] <;> rfl
  have hst := run_storeCells_cells (P := Try.prog) g o _ 0 w (fun j hj => by rw [Nat.add_zero]; exact hc j (by rwa [hlen] at hj)) (fun j hj => by rw [Nat.add_zero]; exact hf j (by rwa [hlen] at hj)) hone
  simp only [Nat.add_zero] at hst
  obtain ⟨m, rfl⟩ : ∃ m, n = m + 1 := ⟨n - 1, by omega⟩
  simp [Builtin.clear_, run_underlying Try.underlying44, hz, hcells, hst]
theorem setCells3 (w : World) (g o : Nat) (a b c : Value) : w.setCells g o [a, b, c] = ((w.setCell ⟨g, o, none⟩ a).setCell ⟨g, o + 1, none⟩ b).setCell ⟨g, o + 2, none⟩ c := rfl

/-- What IndexFunc says: the first place at which the function says yes, or -1. -/
def FstIs (d : Wd → Bool) (l : List Wd) (r : Int) : Prop := (∃ k : Nat, ∃ h : k < l.length, r = k ∧ d l[k] = true ∧ ∀ j (hj : j < l.length), j < k → d l[j] = false) ∨ (r = -1 ∧ ∀ j (hj : j < l.length), d l[j] = false)
def FstOut (d : Wd → Bool) (l : List Wd) (w : World) (e : Ending) (w' : World) : Prop := ∃ r : Int, e = .returned (.int .i64 r) ∧ FstIs d l r ∧ Below w.heap.size w w'

set_option maxHeartbeats 3200000 in
set_option maxRecDepth 100000 in
theorem indexWd_any (fid : FuncId) (gq : Nat) (d : Wd → Bool) (A : Option Addr) (c : Nat) (l : List Wd) (w : World) (hA : WdsAt w A l) (hm : l.length ≤ 2000000) (ent : ∀ args w, (callFunc fid args).run Try.prog w = .ok (.enter fid args) w)
    (hF : ∀ x ∈ l, ∀ W, Below w.heap.size w W → Calls Try.prog fid #[.agg #[.string x.t, .int .i64 x.f, .int .i64 x.u], .pointer (some ⟨gq, 0, none⟩)] W fun e w' => e = .returned (.bool (d x)) ∧ Below W.heap.size W w') :
    Calls Try.prog 65 #[.slice A l.length c, .func (.func fid) #[] #[.pointer (some ⟨gq, 0, none⟩)]] w (FstOut d l w) := by
  have HPO := hide (show ∀ (r : Int) w', FstIs d l r → Below w.heap.size w w' → FstOut d l w (.returned (.int .i64 r)) w' from fun r w' h1 h2 => ⟨r, rfl, h1, h2⟩)
  generalize FstOut d l w = PO at *
  have HA := hide hA
  have HF := hide hF
  clear hA hF
  go_enter Try.func65, Try.ntmps65
  go_wp2
  go_loopw [8] (fun i wr => ∃ (k : Nat) (os : Array Obj) (n : Nat), k ≤ l.length ∧ i = .int .i64 k ∧ wr = plus w os n ∧ Hid (∀ j (h : j < l.length), j < k → d l[j] = false)) (fun i _ => l.length - (RowKit.intOf i).toNat)
  case atStart => exact ⟨0, #[], _, Nat.zero_le _, rfl, plus_nil.symm, hide (fun j h hj => by omega)⟩
  case round =>
    obtain ⟨k, os, n, hk, rfl, rfl, HN⟩ := hrel
    by_cases hlt : k < l.length
    · obtain ⟨b, o, rfl, hb, hv⟩ := HA.out (by omega)
      obtain ⟨c0, c1, c2⟩ := hv k hlt
      have HC := hide (fun W hbw => HF.out l[k] (List.getElem_mem hlt) W hbw)
      have HY := hide (fun (h : d l[k] = true) => (show FstIs d l k from .inl ⟨k, hlt, rfl, h, HN.out⟩))
      have HNX := hide (fun (h : d l[k] = false) j (hj : j < l.length) (hjk : j < k + 1) => (by
        rcases Nat.lt_or_ge j k with g | g
        · exact HN.out j hj g
        · obtain rfl : j = k := by omega
          exact h : d l[j] = false))
      clear hv HF HA HN
      generalize l[k] = x at *
      obtain ⟨xt, xf, xu⟩ := x
      simp only at c0 c1 c2 HC
      generalize d ⟨xt, xf, xu⟩ = B at *
      cases B with
      | true =>
        have HR := hide (HY.out rfl)
        clear HNX HY
        go_wp2_with (go_at_fn fid; refine (HC.out _ ?hbw).mono ?_; (case hbw => exact (by repeat (first | with_reducible exact Below.refl _ _ | with_reducible refine bl_plus ?_ | with_reducible refine bl_alloc ?_ _ | with_reducible refine bl_drew ?_ | with_reducible refine bl_drewN ?_ _))); rintro e w' ⟨rfl, hbl⟩; obtain ⟨os1, n1, rfl⟩ := below_plus hbl; clear hbl)
        exact HPO.out _ _ HR.out (by repeat (first | with_reducible exact Below.refl _ _ | with_reducible refine bl_plus ?_ | with_reducible refine bl_alloc ?_ _ | with_reducible refine bl_drew ?_ | with_reducible refine bl_drewN ?_ _))
      | false =>
        have HR := hide (HNX.out rfl)
        clear HNX HY
        go_wp2_with (go_at_fn fid; refine (HC.out _ ?hbw).mono ?_; (case hbw => exact (by repeat (first | with_reducible exact Below.refl _ _ | with_reducible refine bl_plus ?_ | with_reducible refine bl_alloc ?_ _ | with_reducible refine bl_drew ?_ | with_reducible refine bl_drewN ?_ _))); rintro e w' ⟨rfl, hbl⟩; obtain ⟨os1, n1, rfl⟩ := below_plus hbl; clear hbl)
        go_roundw
        case rel => exact ⟨k + 1, _, _, hlt, by go_num, by first | rfl | (simp only [plus_alloc, plus_plus, pl_drewN, plus_drew]; rfl), HR⟩
        case measure => simp [RowKit.intOf]; omega
    · obtain rfl : k = l.length := by omega
      have HR := hide (show FstIs d l (-1) from .inr ⟨rfl, fun j hj => HN.out j hj hj⟩)
      clear HF HA HN
      go_wp2
      exact HPO.out _ _ HR.out (by repeat (first | with_reducible exact Below.refl _ _ | with_reducible refine bl_plus ?_ | with_reducible refine bl_alloc ?_ _ | with_reducible refine bl_drew ?_ | with_reducible refine bl_drewN ?_ _))

/-- What DeleteFunc hands back. -/
def DelOutW (base : Nat) (A : Option Addr) (c : Nat) (p : Wd → Bool) (l : List Wd) (w : World) (e : Ending) (w' : World) : Prop :=
  e = .returned (.slice A (l.filter p).length c) ∧ OwnK 3 48 w' base (.slice A (l.filter p).length c) (l.filter p).length (flatW (l.filter p)) ∧ w.grownBy w' (Value.slice A 0 0).ownBlock

set_option maxHeartbeats 6400000 in
set_option maxRecDepth 100000 in
theorem deleteWd_any (fid : FuncId) (gq : Nat) (p : Wd → Bool) (ws : World) (base gr c : Nat) (l : List Wd) (w : World) (hlen : l.length ≤ 2000000) (ent : ∀ args w, (callFunc fid args).run Try.prog w = .ok (.enter fid args) w)
    (hr : OwnK 3 48 w base (.slice (some ⟨gr, 0, none⟩) l.length c) l.length (flatW l)) (hws : Below ws.heap.size ws w) (hgr : ws.heap.size ≤ gr)
    (hF : ∀ x ∈ l, ∀ W, Below ws.heap.size ws W → Calls Try.prog fid #[.agg #[.string x.t, .int .i64 x.f, .int .i64 x.u], .pointer (some ⟨gq, 0, none⟩)] W fun e w' => e = .returned (.bool (!p x)) ∧ Below W.heap.size W w') :
    Calls Try.prog 14 #[.slice (some ⟨gr, 0, none⟩) l.length c, .func (.func fid) #[] #[.pointer (some ⟨gq, 0, none⟩)]] w (DelOutW base (some ⟨gr, 0, none⟩) c p l w) := by
  have hlt := hr.lt gr rfl
  obtain ⟨hc1, hc2⟩ : l.length ≤ c ∧ c ≤ maxLen := by
    obtain ⟨_, A', c', hv, h1, h2, _⟩ := hr
    injection hv with _ _ e3
    subst e3
    exact ⟨h1, h2⟩
  unfold maxLen at hc2
  have hI := indexWd_any fid gq (fun x => !p x) (some ⟨gr, 0, none⟩) c l w hr.wds.2.2.2 hlen ent (fun x hx W hb => hF x hx W (hws.trans (hb.mono hws.size)))
  have hPO : ∀ (i : Nat) (w' : World), i = (l.filter p).length → OwnK 3 48 w' base (.slice (some ⟨gr, 0, none⟩) i c) i (flatW (l.filter p)) → w.grownBy w' (some gr) → DelOutW base (some ⟨gr, 0, none⟩) c p l w (.returned (.slice (some ⟨gr, 0, none⟩) i c)) w' := by
    rintro i w' rfl h1 h2
    exact ⟨rfl, h1, h2⟩
  have HPO := hide hPO
  generalize DelOutW base (some ⟨gr, 0, none⟩) c p l w = PO at *
  have HI := hide hI
  unfold FstOut at HI
  have HROW := hide hr
  have HWS := hide (fun (W : World) (h : w.grownBy W (some gr)) => (hws.grown h hws.size (fun k hk => by have := Option.some.inj hk; omega) : Below ws.heap.size ws W))
  have HFF := hide hF
  clear hPO hI hF hws hr
  go_enter Try.func14, Try.ntmps14
  go_upto_region 2 with (go_at_call 65; (with_reducible refine HI.out.mono ?_); rintro e w' ⟨r, rfl, hr, hbl⟩; have HBL := hide hbl; have HR := hide hr; clear hbl hr)
  rcases HR.out with ⟨q, hq, rfl, hpq, hall⟩ | ⟨rfl, hall⟩
  · have hst0 : DelW base gr c p l w q (q + 1) w' := (DelW.start HROW.out (fun k hk hkq => by have := hall k hk hkq; simpa using this)).below HBL.out |>.skip hq (by simpa using hpq)
    have HS1 := hide hst0
    have hq1 : ((q : Int) == -1) = false := by simp
    clear hst0 HI HBL hpq hall HR
    go_wp2
    go_loopw [5, 6] (fun is js wr => ∃ i j : Nat, i < j ∧ j ≤ l.length ∧ is = .int .i64 i ∧ js = .int .i64 j ∧ Hid (DelW base gr c p l w i j wr)) (fun _ js _ => l.length - (RowKit.intOf js).toNat)
    case atStart => exact ⟨q, q + 1, by omega, by omega, by go_num, by go_num, HS1⟩
    case round =>
      clear HS1 hq1
      obtain ⟨i, j, hij, hj, rfl, rfl, HS⟩ := hrel
      by_cases hlt2 : j < l.length
      · have c0 := HS.out.cell hlt2 (Nat.le_refl _) (show 0 < 3 by decide)
        have c1 := HS.out.cell hlt2 (Nat.le_refl _) (show 1 < 3 by decide)
        have c2 := HS.out.cell hlt2 (Nat.le_refl _) (show 2 < 3 by decide)
        have HSK := hide (fun (W : World) (hS : DelW base gr c p l w i j W) h => hS.skip hlt2 h)
        have HKP := hide (fun (W : World) (hS : DelW base gr c p l w i j W) h => hS.keep hlt2 (Nat.le_of_lt hij) h)
        have HTH := hide (fun (W : World) (hS : DelW base gr c p l w i j W) (k : Nat) (hk : k < 3) => hS.there (k := i * 3 + k) (by omega))
        have HC := hide (fun (W : World) (hS : DelW base gr c p l w i j W) => HFF.out l[j] (List.getElem_mem hlt2) W (HWS.out W hS.grown))
        have i1 : (j : Int) < (l.length : Int) := by omega
        have i2 : (i : Int) < (l.length : Int) := by omega
        have hgw : gr < wr.heap.size := Nat.lt_of_lt_of_le hlt.2 HS.out.grown.size
        generalize l[j] = y at *
        obtain ⟨yt, yf, yu⟩ := y
        simp only [Wd.cells] at c0 c1 c2 HC HKP
        simp only [List.getElem?_cons_zero, List.getElem?_cons_succ, Nat.add_zero] at c0 c1 c2
        generalize p ⟨yt, yf, yu⟩ = B at *
        cases B with
        | false =>
          have HC1 := hide (fun W hS => HC.out W hS)
          simp only [Bool.not_false] at HC1
          clear HKP HTH HC
          go_wp2_with (go_at_fn fid; refine (HC1.out _ ?hbw).mono ?_; (case hbw => exact HS.out.below (by repeat (first | with_reducible exact Below.refl _ _ | with_reducible refine bl_plus ?_ | with_reducible refine bl_alloc ?_ _ | with_reducible refine bl_drew ?_ | with_reducible refine bl_drewN ?_ _))); rintro e w' ⟨rfl, hbl⟩; have HS2 := hide (HSK.out _ ((HS.out.below (by repeat (first | with_reducible exact Below.refl _ _ | with_reducible refine bl_plus ?_ | with_reducible refine bl_alloc ?_ _ | with_reducible refine bl_drew ?_ | with_reducible refine bl_drewN ?_ _))).below hbl) rfl); clear hbl)
          go_roundw
          case rel => exact ⟨i, j + 1, by omega, hlt2, rfl, by go_num, HS2⟩
          case measure => simp [RowKit.intOf]; omega
        | true =>
          have HC1 := hide (fun W hS => HC.out W hS)
          simp only [Bool.not_true] at HC1
          obtain ⟨u0, s0⟩ := Option.isSome_iff_exists.1 (HTH.out wr HS.out 0 (by decide)).1
          obtain ⟨u1, s1⟩ := Option.isSome_iff_exists.1 (HTH.out wr HS.out 1 (by decide)).1
          obtain ⟨u2, s2⟩ := Option.isSome_iff_exists.1 (HTH.out wr HS.out 2 (by decide)).1
          have f0 := (HTH.out wr HS.out 0 (by decide)).2
          have f1 := (HTH.out wr HS.out 1 (by decide)).2
          have f2 := (HTH.out wr HS.out 2 (by decide)).2
          simp only [Nat.add_zero] at s0 f0
          have hkp := HKP.out wr HS.out rfl
          rw [setCells3] at hkp
          have HKK := hide hkp
          clear HSK HC HTH hkp HKP
          go_wp2_with (go_at_fn fid; refine (HC1.out _ ?hbw).mono ?_; (case hbw => exact HS.out.below (by repeat (first | with_reducible exact Below.refl _ _ | with_reducible refine bl_plus ?_ | with_reducible refine bl_alloc ?_ _ | with_reducible refine bl_drew ?_ | with_reducible refine bl_drewN ?_ _))); rintro e w' ⟨rfl, hbl⟩; obtain ⟨os1, n1, rfl⟩ := below_plus hbl; clear hbl)
          go_roundw
          case rel => exact ⟨i + 1, j + 1, by omega, hlt2, by go_num, by go_num, hide (HKK.out.below (by repeat (first | with_reducible exact Below.refl _ _ | with_reducible refine bl_plus ?_ | with_reducible refine bl_alloc ?_ _ | with_reducible refine bl_drew ?_ | with_reducible refine bl_drewN ?_ _)))⟩
          case measure => simp [RowKit.intOf]; omega
      · have hjl : j = l.length := by omega
        subst hjl
        have hth := fun (k : Nat) (hk : k < l.length * 3) => HS.out.there hk
        obtain ⟨vs, hvl, hcl⟩ := run_clear_wds wr gr (i * 3) (l.length - i) (c - i) (by omega) (fun j hj => (hth (i * 3 + j) (by omega)).1) (fun j hj => (hth (i * 3 + j) (by omega)).2)
        have hov := HS.out.over (by omega) vs hvl
        have HFIN := hide (HPO.out i _ hov.2.2 hov.1 hov.2.1)
        have i1 : (i : Int) ≤ (l.length : Int) := by omega
        have i2 : (l.length : Int) ≤ (c : Int) := by omega
        clear hov hvl hth HS HROW HPO HFF HWS
        go_wp2
        exact HFIN.out
  · have hfl : l.filter p = l := by
      rw [List.filter_eq_self]
      intro x hx
      obtain ⟨k, hk, rfl⟩ := List.mem_iff_getElem.1 hx
      have := hall k hk
      simpa using this
    have HFIN := hide (fun (W : World) (hb : Below w.heap.size w W) => HPO.out l.length W (by rw [hfl]) (by rw [hfl]; exact ownK_below HROW.out hb) (Go.Lib.grownBy_below ⟨rfl, rfl, rfl, Nat.le_refl _, fun _ _ _ => rfl⟩ hb))
    clear hfl hall HR HI HPO HROW HFF HWS
    go_wp2
    exact HFIN.out _ HBL.out

set_option maxHeartbeats 800000 in
theorem deleteNo_any (fid : FuncId) (gq : Nat) (c : Nat) (w : World) : Calls Try.prog 14 #[.slice none 0 c, .func (.func fid) #[] #[.pointer (some ⟨gq, 0, none⟩)]] w fun e w' => e = .returned (.slice none 0 c) ∧ Below w.heap.size w w' := by
  have ent0 : True := trivial
  have HI : Hid (∀ W, Calls Try.prog 65 #[.slice none 0 c, .func (.func fid) #[] #[.pointer (some ⟨gq, 0, none⟩)]] W fun e w' => e = .returned (.int .i64 (-1)) ∧ Below W.heap.size W w') := hide (fun W => by
    go_enter Try.func65, Try.ntmps65
    go_wp2
    go_loopw [8] (fun i wr => i = .int .i64 0 ∧ wr = W) (fun _ _ => 0)
    case atStart => exact ⟨rfl, rfl⟩
    case round =>
      obtain ⟨rfl, rfl⟩ := hrel
      go_wp2
      go_ret
      exact ⟨rfl, (by repeat (first | with_reducible exact Below.refl _ _ | with_reducible refine bl_plus ?_ | with_reducible refine bl_alloc ?_ _ | with_reducible refine bl_drew ?_ | with_reducible refine bl_drewN ?_ _))⟩)
  go_enter Try.func14, Try.ntmps14
  go_wp2_with (go_at_call 65; refine (HI.out _).mono ?_; rintro e w' ⟨rfl, hbl⟩; obtain ⟨os1, n1, rfl⟩ := below_plus hbl; clear hbl)
  go_ret
  exact ⟨rfl, (by repeat (first | with_reducible exact Below.refl _ _ | with_reducible refine bl_plus ?_ | with_reducible refine bl_alloc ?_ _ | with_reducible refine bl_drew ?_ | with_reducible refine bl_drewN ?_ _))⟩

/-- A row's own copy. -/
def CloneWOut (l : List Wd) (w : World) (e : Ending) (w' : World) : Prop := ∃ A c, e = .returned (.slice A l.length c) ∧ OwnK 3 48 w' w.heap.size (.slice A l.length c) l.length (flatW l) ∧ Below w.heap.size w w'

set_option maxHeartbeats 1600000 in
theorem cloneWds_any (A : Option Addr) (c : Nat) (l : List Wd) (w : World) (hA : WdsAt w A l) (hlen : l.length ≤ 2000000) :
    Calls Try.prog 15 #[.slice A l.length c] w (CloneWOut l w) := by
  have qT : ∀ (w : World) (a : Option Addr) (n c n' c' : Nat), (binOp .eql 44 (.slice a n c) (.slice none n' c')).run Try.prog w = .ok (.bool a.isNone) w := fun w a n c n' c' => Lib.run_eql_slice_nil w _ _ a n c n' c' Try.underlying44
  cases A with
  | none =>
    have h0 : l = [] := by
      rcases Nat.eq_zero_or_pos l.length with h | h
      · exact List.length_eq_zero_iff.1 h
      · obtain ⟨b, o, hb, _⟩ := hA h
        cases hb
    subst h0
    go_enter Try.func15, Try.ntmps15
    go_wp2
    go_ret
    exact ⟨none, 0, rfl, OwnK.empty, Below.refl _ _⟩
  | some a =>
    have hown : (w.alloc (.cells #[] 48)).ownsRow w.heap.size 48 3 (.slice (some ⟨w.heap.size, 0, none⟩) 0 0) 0 [] :=
      ⟨rfl, .inr ⟨w.heap.size, 0, #[], rfl, Nat.le_refl _, heap_alloc_new w _, Nat.le_refl _, by simp [maxLen], rfl, rfl⟩⟩
    have hnews : ∀ (j : Nat) (u : Value), (flatW l)[j]? = some u → (w.alloc (.cells #[] 48)).cell? (a.add j) = some u := by
      intro j u hu
      have hj : j < l.length * 3 := by
        rcases Nat.lt_or_ge j (l.length * 3) with h | h
        · exact h
        · rw [List.getElem?_eq_none (by rw [flatW_len]; exact h)] at hu; cases hu
      obtain ⟨b, off, hab, hb, hc⟩ := (hA.below (bl_alloc (Below.refl _ _) (.cells #[] 48))) (by omega)
      injection hab with hab
      subst hab
      have hq : j / 3 < l.length := by omega
      obtain ⟨e0, e1, e2⟩ := hc (j / 3) hq
      have h2 := flatW_get l (j / 3) (j % 3) hq (by omega)
      rw [show j / 3 * 3 + j % 3 = j by omega, hu] at h2
      have hadd : (⟨b, off, none⟩ : Addr).add j = ⟨b, off + j, none⟩ := by unfold Addr.add; split <;> simp_all
      rw [hadd]
      have h3 : j % 3 = 0 ∨ j % 3 = 1 ∨ j % 3 = 2 := by omega
      rcases h3 with h | h | h
      · rw [h] at h2
        rw [show off + j = off + j / 3 * 3 by omega, e0]; exact h2.symm
      · rw [h] at h2
        rw [show off + j = off + j / 3 * 3 + 1 by omega, e1]; exact h2.symm
      · rw [h] at h2
        rw [show off + j = off + j / 3 * 3 + 2 by omega, e2]; exact h2.symm
    have hone : ∀ u ∈ flatW l, u.oneCell' = true := by
      intro u hu
      obtain ⟨x, _, hx⟩ := List.mem_flatMap.1 hu
      simp only [Wd.cells, List.mem_cons, List.not_mem_nil, or_false] at hx
      rcases hx with rfl | rfl | rfl <;> rfl
    obtain ⟨i0, hi, hz0, hz1, hz2⟩ := info_parts info_wd
    have HO := hide hown
    have HN := hide hnews
    have HONE := hide hone
    clear hown hnews hA hone
    go_enter Try.func15, Try.ntmps15
    go_wp2_with (at_builtin; refine wpList_append_own _ rfl (.tmp 5) (.tmp 6) 44 rfl w.heap.size 48 i0 (.agg #[.string ByteArray.empty, .int .i64 0, .int .i64 0]) 3 32 Try.underlying44 hi hz0 hz1 hz2 rfl (by decide) _ 0 [] rfl HO.out a l.length c (flatW l) rfl (flatW_len l) HN.out HONE.out ?c1 ?c2 ?c3 ?_)
    case c1 => unfold maxLen; omega
    case c2 => omega
    case c3 => simp
    intro v' w1 hown1 hgrow1 _
    have hbw : Below w.heap.size w w1 := (Below.alloc (Below.refl _ _) (Nat.le_refl _) _).grown hgrow1 (by simp) (fun k hk => by simp [Value.ownBlock] at hk; omega)
    have hok := ownK_of_ownW hown1
    obtain ⟨A1, c1, rfl, _⟩ := ownK_form hok
    have HFF := hide (show CloneWOut l w (.returned (.slice A1 l.length c1)) w1 from ⟨A1, c1, rfl, hok, hbw⟩)
    clear hown1 hgrow1 hbw hok
    go_wp2
    go_ret
    exact HFF.out

end Go.Proofs.Ytfnooipkghfmoaa
