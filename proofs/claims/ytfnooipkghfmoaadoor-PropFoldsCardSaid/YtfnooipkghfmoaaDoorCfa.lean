/-
  WALK: slices.CompactFunc at values that the call owns: how many it keeps.
-/
import Derived.Test.YtfnooipkghfmoaaDoorFda
import Derived.Test.YtfnooipkghfmoaaDoorOwnK
import Derived.Lib.BufferOwn
import Derived.Deep.DeepCutAuto
set_option linter.all false
namespace Go.Proofs.YtfnooipkghfmoaaDoor
open Go.RowKit Go.Lib

theorem heap_setCells (g : Nat) (t : TypeId) : ∀ (vs : List Value) (o : Nat) (w : World) (cs : Array Value), w.heap[g]? = some (.cells cs t (0, 0)) →
    ∃ cs' : Array Value, (w.setCells g o vs).heap[g]? = some (.cells cs' t (0, 0)) ∧ cs'.size = cs.size ∧ ∀ k, cs'[k]? = if o ≤ k ∧ k < o + vs.length ∧ k < cs.size then vs[k - o]? else cs[k]?
  | [], o, w, cs, h => ⟨cs, h, rfl, fun k => by rw [if_neg (by simp; omega)]⟩
  | v :: vs, o, w, cs, h => by
    obtain ⟨cs', h1, h2, h3⟩ := heap_setCells g t vs (o + 1) (w.setCell ⟨g, o, none⟩ v) (cs.setIfInBounds o v) (heap_setCell_same w g o cs t v h)
    refine ⟨cs', h1, by rw [h2, Array.size_setIfInBounds], fun k => ?_⟩
    rw [h3 k, Array.size_setIfInBounds]
    simp only [List.length_cons]
    by_cases hk : k = o
    · subst hk
      rw [if_neg (by omega)]
      by_cases hs : k < cs.size
      · rw [if_pos ⟨Nat.le_refl _, by omega, hs⟩, Array.getElem?_setIfInBounds_self_of_lt hs]; simp
      · rw [if_neg (by omega), Array.getElem?_eq_none (by rw [Array.size_setIfInBounds]; omega), Array.getElem?_eq_none (by omega)]
    · rw [Array.getElem?_setIfInBounds_ne (by omega)]
      by_cases hin : o + 1 ≤ k ∧ k < o + 1 + vs.length ∧ k < cs.size
      · rw [if_pos hin, if_pos (by omega), show k - o = (k - (o + 1)) + 1 by omega, List.getElem?_cons_succ]
      · rw [if_neg hin, if_neg (by omega)]
theorem OwnK.over {K : Nat} {e : TypeId} {w : World} {base g n c : Nat} {xs : List Value} (h : OwnK K e w base (.slice (some ⟨g, 0, none⟩) n c) n xs) (o : Nat) (vs : List Value) (hv : o + vs.length ≤ n * K) :
    OwnK K e (w.setCells g o vs) base (.slice (some ⟨g, 0, none⟩) n c) n (xs.take o ++ (vs ++ xs.drop (o + vs.length))) := by
  obtain ⟨hl, A', c', hv2, h1, h2, h3⟩ := h
  injection hv2 with e1 _ e3
  subst e1 e3
  rcases h3 with ⟨e, _⟩ | ⟨g', cur, hA, hg, hb, h4, h5⟩
  · cases e
  · injection hA with hA
    injection hA with hA
    subst hA
    obtain ⟨cs', k1, k2, k3⟩ := heap_setCells g e vs o w cur hb
    refine ⟨by simp only [List.length_append, List.length_take, List.length_drop]; omega, _, c, rfl, h1, h2, .inr ⟨g, cs', rfl, hg, k1, by rw [k2]; exact h4, ?_⟩⟩
    have hcn : n * K ≤ c * K := Nat.mul_le_mul_right _ h1
    refine List.ext_getElem? fun k => ?_
    have hx : ∀ k, k < n * K → xs[k]? = cur[k]? := fun k hk => by rw [← h5, List.getElem?_take_of_lt hk]; simp
    by_cases hk : k < n * K
    · rw [List.getElem?_take_of_lt hk]
      have : cs'.toList[k]? = cs'[k]? := by simp
      rw [this, k3 k]
      by_cases ho : k < o
      · rw [if_neg (by omega), List.getElem?_append_left (by rw [List.length_take]; omega), List.getElem?_take_of_lt ho, hx k hk]
      · rw [List.getElem?_append_right (by rw [List.length_take]; omega)]
        have hto : (xs.take o).length = o := by rw [List.length_take]; omega
        rw [hto]
        by_cases hin : k < o + vs.length
        · rw [if_pos ⟨by omega, hin, by omega⟩, List.getElem?_append_left (by omega)]
        · rw [if_neg (by omega), List.getElem?_append_right (by omega), List.getElem?_drop, show o + vs.length + (k - o - vs.length) = k by omega, hx k hk]
    · rw [List.getElem?_eq_none (by rw [List.length_take]; omega), List.getElem?_eq_none (by simp only [List.length_append, List.length_take, List.length_drop]; omega)]
theorem OwnK.cut {K : Nat} {e : TypeId} {w : World} {base n c : Nat} {A : Option Addr} {xs : List Value} (h : OwnK K e w base (.slice A n c) n xs) {m : Nat} (hm : m ≤ n) : OwnK K e w base (.slice A m c) m (xs.take (m * K)) := by
  obtain ⟨hl, A', c', hv, h1, h2, h3⟩ := h
  injection hv with e1 _ e3
  subst e1 e3
  have hmn : m * K ≤ n * K := Nat.mul_le_mul_right _ hm
  refine ⟨by rw [List.length_take]; omega, A, c, rfl, by omega, h2, ?_⟩
  rcases h3 with ⟨a, b, d⟩ | ⟨g, cur, a, b, d, f, k⟩
  · exact .inl ⟨a, by omega, d⟩
  · exact .inr ⟨g, cur, a, b, d, f, by rw [← k, List.take_take, Nat.min_eq_left hmn]⟩

theorem flatE_set {α : Type} {enc : α → List Value} {K : Nat} (hk : ∀ x, (enc x).length = K) : ∀ (l : List α) (i : Nat) (x : α), i < l.length → (l.set i x).flatMap enc = (l.flatMap enc).take (i * K) ++ (enc x ++ (l.flatMap enc).drop (i * K + (enc x).length))
  | a :: l, 0, x, _ => by
    have h2 : (enc x).length = (enc a).length := by rw [hk, hk]
    rw [List.set_cons_zero, List.flatMap_cons, List.flatMap_cons, h2, Nat.zero_mul, Nat.zero_add, List.drop_left, List.take_zero, List.nil_append]
  | a :: l, i + 1, x, h => by
    have ih := flatE_set hk l i x (by simpa using h)
    have h1 : (i + 1) * K = (enc a).length + i * K := by rw [hk, Nat.add_mul]; omega
    rw [List.set_cons_succ, List.flatMap_cons, List.flatMap_cons, ih, h1, List.take_length_add_append, Nat.add_assoc, List.drop_length_add_append]
    simp only [List.append_assoc]

section
variable {w0 : World}
def dif (zs : List (In0 w0)) (i : Nat) : Bool := i == 0 || !(cf0 zs[i]! zs[i - 1]! == 0)
/-- How many of the first j differ from the one ahead of them. -/
def cntZ (zs : List (In0 w0)) : Nat → Nat
  | 0 => 0
  | j + 1 => cntZ zs j + (if dif zs j then 1 else 0)
theorem cntZ_le (zs : List (In0 w0)) : ∀ j, cntZ zs j ≤ j
  | 0 => Nat.le_refl _
  | j + 1 => by
    have := cntZ_le zs j
    unfold cntZ
    split <;> omega
theorem cntZ_yes {zs : List (In0 w0)} {j : Nat} (h : dif zs j = true) : cntZ zs (j + 1) = cntZ zs j + 1 := by
  rw [cntZ, if_pos h]
theorem cntZ_no {zs : List (In0 w0)} {j : Nat} (h : dif zs j = false) : cntZ zs (j + 1) = cntZ zs j := by
  rw [cntZ, if_neg (by rw [h]; decide)]; rfl
theorem cntZ_one (zs : List (In0 w0)) : cntZ zs 1 = 1 := by
  rw [cntZ_yes (by rfl)]; rfl

/-- While CompactFunc is at work: from the j-th on the row is as it was. -/
structure Cmt (g c : Nat) (zs : List (In0 w0)) (W0 : World) (j : Nat) (w : World) : Prop where
  grown : W0.grownBy w (some g)
  cur : ∃ cur : List (In0 w0), cur.length = zs.length ∧ cur.drop j = zs.drop j ∧ OwnK 5 24 w w0.heap.size (.slice (some ⟨g, 0, none⟩) zs.length c) zs.length (flat0 cur)
theorem cells5 : ∀ x : In0 w0, x.cells.length = 5 := fun _ => rfl
theorem grownBy_cells5 (g : Nat) : ∀ (vs : List Value) (o : Nat) (w : World), w.grownBy (w.setCells g o vs) (some g)
  | [], _, w => ⟨rfl, rfl, rfl, Nat.le_refl _, fun _ _ _ => rfl⟩
  | v :: vs, o, w => grownBy_trans (grownBy_setCell w g o v) (grownBy_cells5 g vs (o + 1) _)
variable {g c i j : Nat} {zs : List (In0 w0)} {W0 w w' : World}
theorem Cmt.start (h : OwnK 5 24 w w0.heap.size (.slice (some ⟨g, 0, none⟩) zs.length c) zs.length (flat0 zs)) : Cmt g c zs w 0 w := ⟨⟨rfl, rfl, rfl, Nat.le_refl _, fun _ _ _ => rfl⟩, zs, rfl, rfl, h⟩
theorem Cmt.below (h : Cmt g c zs W0 j w) (hb : Below w.heap.size w w') : Cmt g c zs W0 j w' := by
  obtain ⟨h1, cur, h2, h3, h4⟩ := h
  exact ⟨grownBy_below h1 hb, cur, h2, h3, ownK_below h4 hb⟩
theorem Cmt.after (h : Cmt g c zs W0 j w) (os : Array Obj) (n : Nat) : Cmt g c zs W0 j (plus w os n) := h.below (bl_plus (Below.refl _ _))
theorem Cmt.up (h : Cmt g c zs W0 i w) (hij : i ≤ j) : Cmt g c zs W0 j w := by
  obtain ⟨h1, cur, h2, h3, h4⟩ := h
  refine ⟨h1, cur, h2, ?_, h4⟩
  obtain ⟨d, rfl⟩ : ∃ d, j = i + d := ⟨j - i, by omega⟩
  rw [← List.drop_drop, ← List.drop_drop, h3]
theorem Cmt.write (h : Cmt g c zs W0 j w) (hij : i < j) (hi : i < zs.length) (q : In0 w0) : Cmt g c zs W0 j (w.setCells g (i * 5) q.cells) := by
  obtain ⟨h1, cur, h2, h3, h4⟩ := h
  refine ⟨grownBy_trans h1 (grownBy_cells5 g _ _ w), cur.set i q, by rw [List.length_set]; exact h2, by rw [List.drop_set_of_lt hij]; exact h3, ?_⟩
  unfold flat0
  rw [flatE_set cells5 cur i q (by omega)]
  exact h4.over _ _ (by show i * 5 + 5 ≤ _; omega)
theorem Cmt.cell (h : Cmt g c zs W0 j w) {k m : Nat} (hk : k < zs.length) (hjk : j ≤ k) (hm : m < 5) : w.cell? ⟨g, k * 5 + m, none⟩ = zs[k].cells[m]? := by
  obtain ⟨h1, cur, h2, h4, hl, A', c', hv, k1, k2, k3⟩ := h
  injection hv with e1 _ e3
  subst e1
  rcases k3 with ⟨e, _⟩ | ⟨g', cs, hA, hg, hb, h6, h7⟩
  · cases e
  · injection hA with hA
    injection hA with hA
    subst hA
    have hck : cur[k]? = zs[k]? := by
      have := congrArg (fun l => l[k - j]?) h4
      simp only [List.getElem?_drop] at this
      rwa [show j + (k - j) = k by omega] at this
    have hkc : k < cur.length := by omega
    rw [List.getElem?_eq_getElem hkc, List.getElem?_eq_getElem hk] at hck
    rw [← Option.some.inj hck, ← flatE_get cells5 cur k m hkc hm, cell_of_row w g _ cs _ (0, 0) hb]
    unfold flat0 at h7
    rw [← h7, List.getElem?_take_of_lt (by omega)]
    simp
theorem Cmt.there (h : Cmt g c zs W0 j w) {k : Nat} (hk : k < zs.length * 5) : (w.cell? ⟨g, k, none⟩).isSome = true ∧ w.frozen? ⟨g, k, none⟩ = false := by
  obtain ⟨h1, cur, h2, h4, hl, A', c', hv, k1, k2, k3⟩ := h
  injection hv with e1 _ e3
  subst e1
  rcases k3 with ⟨e, _⟩ | ⟨g', cs, hA, hg, hb, h6, h7⟩
  · cases e
  · injection hA with hA
    injection hA with hA
    subst hA
    have hlt : k < cs.size := by
      have := congrArg List.length h7
      rw [hl, List.length_take, Array.length_toList] at this
      omega
    refine ⟨?_, frozen_of_row w g _ cs _ hb⟩
    rw [cell_of_row w g _ cs _ (0, 0) hb, Array.getElem?_eq_getElem hlt]
    rfl
theorem Cmt.same (h : Cmt g c zs W0 j w) (hs : ∀ b, b < w0.heap.size → W0.heap[b]? = w0.heap[b]?) (hW : w0.heap.size ≤ W0.heap.size) (hg : w0.heap.size ≤ g) : (∀ b, b < w0.heap.size → w.heap[b]? = w0.heap[b]?) ∧ w0.heap.size ≤ w.heap.size :=
  ⟨fun b hb => (h.grown.block b (by omega) (fun e => by have := Option.some.inj e; omega)).trans (hs b hb), Nat.le_trans hW h.grown.size⟩
end

/-- A function that says whether two values are equal. -/
structure EqBy (fid : FuncId) : Prop where
  ent : ∀ args w, (callFunc fid args).run Tryd.prog w = .ok (.enter fid args) w
  call : ∀ (x y : V) (A B : Option Addr) (c d : Nat) (w : World), LAt w A x.l → LAt w B y.l → Calls Tryd.prog fid #[x.arg A c, y.arg B d] w fun e w' => e = .returned (.bool (cmpV x y == 0)) ∧ Grw w w'

set_option maxHeartbeats 1600000 in
theorem eqBy_fold : EqBy 54 := ⟨fun args w => Go.Proofs.enters_of Tryd.func54 (by kernel_rfl) rfl args w, fun x y A B c d w hA hB => by
  have HC := hide (fun W (hb : Below w.heap.size w W) => comparePG x y A B c d W (hA.below hb) (hB.below hb))
  unfold CmpOutG at HC
  generalize cmpV x y = r at *
  obtain ⟨xk, xi, xt, xs, xl⟩ := x
  obtain ⟨yk, yi, yt, ys, yl⟩ := y
  simp only [V.arg, V.k, V.i, V.t, V.s, V.l] at *
  clear hA hB
  go_enter Tryd.func54, Tryd.ntmps54
  go_wp2_with (go_at_call 52; refine (HC.out _ ?hbw).mono ?_; (case hbw => exact (by repeat (first | exact Below.refl _ _ | refine bl_plus ?_ | refine bl_alloc ?_ _ | refine bl_drew ?_ | refine bl_drewN ?_ _))); rintro e w' ⟨rfl, hb⟩; obtain ⟨os1, n1, rfl, hn1⟩ := grw_plus hb; have HN1 := hide hn1; clear hb hn1)
  go_ret
  exact ⟨rfl, (by repeat (first | exact Grw.refl _ | refine gr_plus HN1.out ?_ | refine Grw.alloc ?_ _ | refine Grw.drew ?_))⟩⟩

set_option maxHeartbeats 1600000 in
theorem eqBy_foldOf : EqBy 21 := ⟨fun args w => Go.Proofs.enters_of Tryd.func21 (by kernel_rfl) rfl args w, fun x y A B c d w hA hB => by
  have HC := hide (fun W (hb : Below w.heap.size w W) => compareRG x y A B c d W (hA.below hb) (hB.below hb))
  unfold CmpOutG at HC
  generalize cmpV x y = r at *
  obtain ⟨xk, xi, xt, xs, xl⟩ := x
  obtain ⟨yk, yi, yt, ys, yl⟩ := y
  simp only [V.arg, V.k, V.i, V.t, V.s, V.l] at *
  clear hA hB
  go_enter Tryd.func21, Tryd.ntmps21
  go_wp2_with (go_at_call 18; refine (HC.out _ ?hbw).mono ?_; (case hbw => exact (by repeat (first | exact Below.refl _ _ | refine bl_plus ?_ | refine bl_alloc ?_ _ | refine bl_drew ?_ | refine bl_drewN ?_ _))); rintro e w' ⟨rfl, hb⟩; obtain ⟨os1, n1, rfl, hn1⟩ := grw_plus hb; have HN1 := hide hn1; clear hb hn1)
  go_ret
  exact ⟨rfl, (by repeat (first | exact Grw.refl _ | refine gr_plus HN1.out ?_ | refine Grw.alloc ?_ _ | refine Grw.drew ?_))⟩⟩

end Go.Proofs.YtfnooipkghfmoaaDoor
