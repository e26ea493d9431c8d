/-
  PLAIN AND MEMORY: properties with the places of their items; rows of them that the call owns.
-/
import Derived.Test.YtfnooipkghfmoaaGreatDoorCpv
import Derived.Test.YtfnooipkghfmoaaGreatDoorOwnK
import Derived.Deep.RegionLaw
import Derived.Test.YtfnooipkghfmoaaGreatDoorPpd
import Derived.Lib.BufferOwn
set_option linter.all false
namespace Go.Proofs.YtfnooipkghfmoaaGreatDoor
open Go.RowKit Go.Lib

/-- A property with the place of its value's items. -/
structure CP where
  n : ByteArray
  q : CVal
def CP.pr (p : CP) : PR := ⟨p.n, p.q.x⟩
def CP.cells (p : CP) : List Value := .string p.n :: p.q.cells
def CP.val (p : CP) : Value := .agg #[.string p.n, .int .i64 p.q.x.k, .int .i64 p.q.x.i, .int .i64 p.q.x.t, .string p.q.x.s, .slice p.q.A p.q.x.l.length p.q.c]
def flatCP (ps : List CP) : List Value := ps.flatMap CP.cells
theorem flatCP_append (a b : List CP) : flatCP (a ++ b) = flatCP a ++ flatCP b := List.flatMap_append
theorem flatCP_len : ∀ ps : List CP, (flatCP ps).length = ps.length * 6
  | [] => rfl
  | p :: ps => by
    have ih := flatCP_len ps
    show (p.cells ++ flatCP ps).length = _
    rw [List.length_append, ih]
    simp only [CP.cells, CVal.cells, List.length_cons, List.length_nil]
    omega
theorem flatCP_get : ∀ (ps : List CP) (j i : Nat) (h : j < ps.length), i < 6 → (flatCP ps)[j * 6 + i]? = ps[j].cells[i]?
  | p :: ps, 0, i, _, hi => by
    show (p.cells ++ flatCP ps)[0 * 6 + i]? = _
    rw [List.getElem?_append_left (by simp only [CP.cells, CVal.cells, List.length_cons, List.length_nil]; omega)]
    simp only [Nat.zero_mul, Nat.zero_add, List.getElem_cons_zero]
  | p :: ps, j + 1, i, h, hi => by
    have ih := flatCP_get ps j i (by simpa using h) hi
    show (p.cells ++ flatCP ps)[(j + 1) * 6 + i]? = _
    rw [List.getElem?_append_right (by simp only [CP.cells, CVal.cells, List.length_cons, List.length_nil]; omega)]
    rw [show (j + 1) * 6 + i - p.cells.length = j * 6 + i by simp only [CP.cells, CVal.cells, List.length_cons, List.length_nil]; omega]
    exact ih
theorem flatCP_one (ps : List CP) : ∀ u ∈ flatCP ps, u.oneCell' = true := by
  intro u hu
  obtain ⟨x, _, hx⟩ := List.mem_flatMap.1 hu
  simp only [CP.cells, CVal.cells, List.mem_cons, List.not_mem_nil, or_false] at hx
  rcases hx with rfl | rfl | rfl | rfl | rfl | rfl <;> rfl

/-- A row of properties that the call owns; their items lie in other blocks. -/
structure Row6 (w : World) (base : Nat) (v : Value) (ps : List CP) : Prop where
  own : OwnK 6 53 w base v ps.length (flatCP ps)
  ins : ∀ p ∈ ps, LIn w (fun b => b < w.heap.size ∧ v.ownBlock ≠ some b) p.q.A p.q.x.l
  nms : ∀ p ∈ ps, p.n.size ≤ maxLen
section
variable {w w' : World} {base : Nat} {v v' : Value} {ps ps' : List CP}
theorem row6_nil : Row6 w base (.slice none 0 0) [] := ⟨OwnK.empty, fun _ h => (by cases h), fun _ h => (by cases h)⟩
theorem Row6.below (h : Row6 w base v ps) (hb : Below w.heap.size w w') : Row6 w' base v ps :=
  ⟨ownK_below h.own hb, fun p hp => ((h.ins p hp).frame (w' := w') (fun b hb2 => hb.block b hb2.1)).mono (fun b hb2 => ⟨Nat.lt_of_lt_of_le hb2.1 hb.size, hb2.2⟩), h.nms⟩
theorem Row6.grown (h : Row6 w base v ps) (hg : w.grownBy w' v.ownBlock) (hf : v'.ownBlock = v.ownBlock ∨ ∃ g, v'.ownBlock = some g ∧ w.heap.size ≤ g) (ho : OwnK 6 53 w' base v' ps'.length (flatCP ps')) (hs : ∀ p ∈ ps', p ∈ ps) : Row6 w' base v' ps' := by
  refine ⟨ho, fun p hp => ?_, fun p hp => h.nms p (hs p hp)⟩
  refine ((h.ins p (hs p hp)).frame (w' := w') (fun b hb => hg.block b hb.1 (fun e => hb.2 e.symm))).mono (fun b hb => ⟨Nat.lt_of_lt_of_le hb.1 hg.size, fun e => ?_⟩)
  rcases hf with hf | ⟨g, hf, hg2⟩
  · exact hb.2 (hf.symm.trans e)
  · rw [hf] at e
    obtain rfl := Option.some.inj e
    have := hb.1
    omega
/-- Such a row reads as a list of properties. -/
theorem Row6.psAt {A : Option Addr} {n c : Nat} (h : Row6 w base (.slice A n c) ps) : n = ps.length ∧ PsAt w A (ps.map CP.pr) := by
  obtain ⟨hl, A', c', hv, h1, h2, h3⟩ := h.own
  injection hv with e1 e2 e3
  subst e1 e2 e3
  refine ⟨rfl, by rw [List.length_map]; omega, fun hp => ?_⟩
  rw [List.length_map] at hp
  rcases h3 with ⟨_, h0, _⟩ | ⟨g, cur, hA, hg, hb, h4, h5⟩
  · omega
  · refine ⟨g, 0, hA, (Array.getElem?_eq_some_iff.1 hb).1, fun j hj => ?_⟩
    rw [List.length_map] at hj
    have hc : ∀ i, i < 6 → w.cell? ⟨g, 0 + j * 6 + i, none⟩ = ps[j].cells[i]? := fun i hi => by
      rw [← flatCP_get ps j i hj hi, Nat.zero_add, cell_of_row w g _ cur _ (0, 0) hb, ← h5, List.getElem?_take_of_lt (by omega)]; simp
    rw [List.getElem_map]
    refine ⟨hc 0 (by omega), h.nms _ (List.getElem_mem hj), VAt_iff.2 ⟨hc 1 (by omega), hc 2 (by omega), hc 3 (by omega), hc 4 (by omega), ps[j].q.A, ps[j].q.c, hc 5 (by omega), ?_⟩⟩
    exact (h.ins _ (List.getElem_mem hj)).at_ (fun b hb => hb.1)
/-- The cells of an element. -/
theorem Row6.cellAt {g n c : Nat} (h : Row6 w base (.slice (some ⟨g, 0, none⟩) n c) ps) {j i : Nat} (hj : j < ps.length) (hi : i < 6) : w.cell? ⟨g, j * 6 + i, none⟩ = ps[j].cells[i]? ∧ w.frozen? ⟨g, j * 6 + i, none⟩ = false := by
  obtain ⟨hl, A', c', hv, h1, h2, h3⟩ := h.own
  injection hv with e1 e2 e3
  subst e1
  rcases h3 with ⟨e, _⟩ | ⟨g', cur, hA, hg, hb, h4, h5⟩
  · cases e
  · injection hA with hA
    injection hA with hA
    subst hA
    refine ⟨?_, frozen_of_row w g _ cur _ hb⟩
    rw [← flatCP_get ps j i hj hi, cell_of_row w g _ cur _ (0, 0) hb, ← h5, List.getElem?_take_of_lt (by omega)]
    simp
end

theorem VIn_of_at {w : World} : ∀ (v : V) (b o : Nat), VAt w v b o → VIn w (fun b => b < w.heap.size) v b o
  | .mk k i t s l, b, o, h => by
    rw [VAt] at h
    rw [VIn]
    obtain ⟨h0, h1, h2, h3, A, c, h4, h5, h6⟩ := h
    refine ⟨h0, h1, h2, h3, A, c, h4, h5, fun hl => ?_⟩
    obtain ⟨b', o', hA, hb', hj⟩ := h6 hl
    exact ⟨b', o', hA, hb', fun j h => VIn_of_at l[j] b' _ (hj j h)⟩
termination_by v => SizeOf.sizeOf v
decreasing_by
  have := List.sizeOf_lt_of_mem (List.getElem_mem h)
  simp only [V.mk.sizeOf_spec]
  omega
theorem LIn_of_at {w : World} {A : Option Addr} {l : List V} (h : LAt w A l) : LIn w (fun b => b < w.heap.size) A l :=
  ⟨h.1, fun hl => by
    obtain ⟨b', o', hA, hb', hj⟩ := h.2 hl
    exact ⟨b', o', hA, hb', fun j h => VIn_of_at l[j] b' _ (hj j h)⟩⟩

/-- Properties in memory, with the places of their items. -/
structure PsC (w : World) (A : Option Addr) (ps : List CP) : Prop where
  len : ps.length ≤ maxLen
  cells : 0 < ps.length → ∃ b o, A = some ⟨b, o, none⟩ ∧ b < w.heap.size ∧ ∀ j (h : j < ps.length) i, i < 6 → w.cell? ⟨b, o + j * 6 + i, none⟩ = ps[j].cells[i]?
  ins : ∀ p ∈ ps, LIn w (fun b => b < w.heap.size) p.q.A p.q.x.l
  nms : ∀ p ∈ ps, p.n.size ≤ maxLen
theorem list_pick {α : Type} {Q : Nat → α → Prop} : ∀ n, (∀ i, i < n → ∃ x, Q i x) → ∃ l : List α, l.length = n ∧ ∀ i (h : i < l.length), Q i l[i]
  | 0, _ => ⟨[], rfl, fun i h => absurd h (by simp)⟩
  | n + 1, hx => by
    obtain ⟨l, hl, hq⟩ := list_pick n fun i hi => hx i (by omega)
    obtain ⟨x, hxx⟩ := hx n (by omega)
    refine ⟨l ++ [x], by simp [hl], fun i hi => ?_⟩
    by_cases hin : i < l.length
    · rw [List.getElem_append_left hin]; exact hq i hin
    · have : i = l.length := by simp at hi; omega
      subst this
      rw [List.getElem_append_right (Nat.le_refl _)]
      simpa [hl] using hxx
theorem PsAt.open_ {w : World} {A : Option Addr} {l : List PR} (h : PsAt w A l) : ∃ ps : List CP, ps.map CP.pr = l ∧ PsC w A ps := by
  by_cases h0 : l.length = 0
  · obtain rfl := List.length_eq_zero_iff.1 h0
    exact ⟨[], rfl, by simp, fun h => absurd h (by simp), fun _ h => (by cases h), fun _ h => (by cases h)⟩
  · obtain ⟨b, o, hA, hb, hj⟩ := h.2 (by omega)
    obtain ⟨ps, hl, hp⟩ := list_pick (Q := fun j (p : CP) => ∃ hj : j < l.length, p.pr = l[j] ∧ (∀ i, i < 6 → w.cell? ⟨b, o + j * 6 + i, none⟩ = p.cells[i]?) ∧ LIn w (fun b => b < w.heap.size) p.q.A p.q.x.l ∧ p.n.size ≤ maxLen) l.length (fun j hjl => by
      obtain ⟨c0, c1, c2, c3, c4, c5, A2, e2, c6, hl⟩ := (hj j hjl).cells
      refine ⟨⟨l[j].n, l[j].v, A2, e2⟩, hjl, rfl, fun i hi => ?_, LIn_of_at hl, c1⟩
      match i, hi with
      | 0, _ => exact c0
      | 1, _ => exact c2
      | 2, _ => exact c3
      | 3, _ => exact c4
      | 4, _ => exact c5
      | 5, _ => exact c6)
    refine ⟨ps, ?_, by rw [hl]; exact h.1, fun _ => ⟨b, o, hA, hb, fun j hj2 => (hp j hj2).2.2.1⟩, fun p hm => ?_, fun p hm => ?_⟩
    · refine List.ext_getElem (by rw [List.length_map, hl]) (fun j h1 h2 => ?_)
      rw [List.getElem_map]
      exact (hp j (by rw [List.length_map] at h1; exact h1)).2.1
    · obtain ⟨j, hj2, rfl⟩ := List.mem_iff_getElem.1 hm
      exact (hp j hj2).2.2.2.1
    · obtain ⟨j, hj2, rfl⟩ := List.mem_iff_getElem.1 hm
      exact (hp j hj2).2.2.2.2
theorem PsC.below {w w' : World} {A : Option Addr} {ps : List CP} (h : PsC w A ps) (hb : Below w.heap.size w w') : PsC w' A ps :=
  ⟨h.len, fun hl => by
    obtain ⟨b, o, hA, hlt, hc⟩ := h.cells hl
    exact ⟨b, o, hA, Nat.lt_of_lt_of_le hlt hb.size, fun j hj i hi => (hb.cell (p := ⟨b, o + j * 6 + i, none⟩) hlt).trans (hc j hj i hi)⟩,
    fun p hp => ((h.ins p hp).frame (w' := w') (fun b hb2 => hb.block b hb2)).mono (fun b hb2 => Nat.lt_of_lt_of_le hb2 hb.size), h.nms⟩
theorem addr_add (b o j : Nat) : (⟨b, o, none⟩ : Addr).add j = ⟨b, o + j, none⟩ := by unfold Addr.add; split <;> simp_all
theorem PsC.flat {w : World} {b o : Nat} {ps : List CP} (h : ∀ j (h : j < ps.length) i, i < 6 → w.cell? ⟨b, o + j * 6 + i, none⟩ = ps[j].cells[i]?) : ∀ (j : Nat) (u : Value), (flatCP ps)[j]? = some u → w.cell? ((⟨b, o, none⟩ : Addr).add j) = some u := by
  intro j u hu
  have hj : j < ps.length * 6 := by
    rcases Nat.lt_or_ge j (ps.length * 6) with h | h
    · exact h
    · rw [List.getElem?_eq_none (by rw [flatCP_len]; exact h)] at hu; cases hu
  have hq : j / 6 < ps.length := by omega
  have he : j = j / 6 * 6 + j % 6 := by omega
  have hadd := addr_add b o j
  have h1 := h (j / 6) hq (j % 6) (by omega)
  rw [← flatCP_get ps _ _ hq (by omega), ← he, hu, show o + j / 6 * 6 + j % 6 = o + j by omega] at h1
  rw [hadd]
  exact h1

end Go.Proofs.YtfnooipkghfmoaaGreatDoor
/-
  WALKS: slices.Clone and Clip at properties; a list's copy in new memory.
-/
namespace Go.Proofs.YtfnooipkghfmoaaGreatDoor
open Go.RowKit Go.Lib

theorem info_prop : (Tryz.prog.info? 53).map (fun i => (i.zero, i.size, i.bytes)) = some (some (.agg #[.string ByteArray.empty, .int .i64 0, .int .i64 0, .int .i64 0, .string ByteArray.empty, .slice none 0 0]), 6, 80) := by kernel_rfl

theorem step_append_n {K : Nat} {t e : TypeId} {i0 : TypeInfo} {z : Value} {ops : Array Oper} {o : Oper} {a : Act} {W : World} {KK : Act → World → Prop} {Q : Exit → Act → World → Prop} {E : Prop} (hgd : o.guard = none) (s x : Operand)
    (ho : o.op = .call { callee := .builtin .append, args := #[s, x], argTypes := #[t, t] }) (hty : o.type = t) (ht : Tryz.prog.underlying t = some (.slice e)) (hi : Tryz.prog.info? e = some i0) (hz0 : i0.zero = some z) (hz1 : i0.size = K) (hK : 0 < K) (hzs : z.cells.size = K) (hby : i0.bytes ≤ 1000)
    (base n q : Nat) (v : Value) (xs news : List Value) (g : Nat) (hs : a.eval s = v) (hown : OwnK K e W base v n xs) (hq : 0 < q) (hl : news.length = q * K) (h1 : ∀ u ∈ news, u.oneCell' = true)
    (hx : a.eval x = .slice (some ⟨g, 0, none⟩) q q) (hnews : ∀ j u, news[j]? = some u → W.cell? ((⟨g, 0, none⟩ : Addr).add j) = some u) (hn : n + q ≤ 1000000) (hbase : base ≤ W.heap.size)
    (h : ∀ v' w', OwnK K e w' base v' (n + q) (xs ++ news) → W.grownBy w' v.ownBlock → (v'.ownBlock = v.ownBlock ∨ ∃ g, v'.ownBlock = some g ∧ W.heap.size ≤ g) → KK (a.put o.dst v') w') :
    if Region.wanted o (yielded ops a.tmps) = true then Oper.wp Tryz.prog o a W KK Q else E := by
  have hw : Region.wanted o (yielded ops a.tmps) = true := by simp [Region.wanted, hgd]
  rw [if_pos hw]
  obtain ⟨v', w', hr, h2, h3, h4⟩ := run_append_m ht hi hz0 hz1 hK hzs hby hown hq hl hnews h1 hn hbase
  unfold Oper.wp execOp
  simp only [ho, resolve, invoke, builtin, Sem.run_bind, Sem.run_pure, Result.andThen_ok, List.map_toArray, List.map_cons, List.map_nil, hs, hx, hty, hr]
  exact h v' w' h2 h3 h4

theorem ownK_of_owns {w : World} {base : Nat} {e : TypeId} {K n : Nat} {v : Value} {xs : List Value} (h : w.ownsRow base e K v n xs) : OwnK K e w base v n xs := by
  obtain ⟨h1, h2⟩ := h
  rcases h2 with ⟨rfl, rfl⟩ | ⟨g, cap, cur, rfl, hb, hh, h3, h4, h5, h6⟩
  · exact ⟨h1, none, 0, rfl, Nat.le_refl _, by simp [maxLen], .inl ⟨rfl, rfl, rfl⟩⟩
  · exact ⟨h1, _, cap, rfl, h3, h4, .inr ⟨g, cur, rfl, hb, hh, by omega, h6⟩⟩

set_option maxHeartbeats 800000 in
theorem clipP_any (A : Option Addr) (n c : Nat) (w : World) (hn : n ≤ c) (hc : c ≤ maxLen) (h0 : A = none → c = 0) (hf : ∀ a, A = some a → ∃ g, a = ⟨g, 0, none⟩) :
    Calls Tryz.prog 30 #[.slice A n c] w fun e w' => e = .returned (.slice A n n) ∧ w' = w := by
  have hc' := hc
  unfold maxLen at hc'
  clear hc
  cases A with
  | none =>
    obtain rfl := h0 rfl
    obtain rfl : n = 0 := by omega
    go_enter Tryz.func30, Tryz.ntmps30
    go_wp2
    go_ret
    exact ⟨rfl, rfl⟩
  | some a =>
    obtain ⟨g, rfl⟩ := hf a rfl
    clear h0 hf
    go_enter Tryz.func30, Tryz.ntmps30
    go_wp2
    go_ret
    exact ⟨rfl, rfl⟩
theorem ownK_clip {K : Nat} {e : TypeId} {w : World} {base : Nat} {A : Option Addr} {n c : Nat} {xs : List Value} (h : OwnK K e w base (.slice A n c) n xs) : OwnK K e w base (.slice A n n) n xs ∧ n ≤ c ∧ c ≤ maxLen ∧ (A = none → c = 0) ∧ (∀ a, A = some a → ∃ g, a = ⟨g, 0, none⟩) := by
  obtain ⟨h0, A', c', hv, h1, h2, h3⟩ := h
  injection hv with e1 _ e3
  subst e1 e3
  refine ⟨⟨h0, A, n, rfl, Nat.le_refl _, by omega, ?_⟩, h1, h2, ?_, ?_⟩
  · rcases h3 with ⟨a, b, d⟩ | ⟨g, cur, a, b, d, f, k⟩
    · exact .inl ⟨a, b, b⟩
    · exact .inr ⟨g, cur, a, b, d, Nat.le_trans (Nat.mul_le_mul_right _ h1) f, k⟩
  · intro hA
    rcases h3 with ⟨a, b, d⟩ | ⟨g, cur, a, _⟩
    · exact d
    · rw [hA] at a; cases a
  · intro a hA
    rcases h3 with ⟨b, _⟩ | ⟨g, cur, b, _⟩
    · rw [hA] at b; cases b
    · rw [hA] at b; exact ⟨g, Option.some.inj b⟩
theorem Row6.clip {w : World} {base : Nat} {A : Option Addr} {n c : Nat} {ps : List CP} (h : Row6 w base (.slice A n c) ps) : n = ps.length ∧ Row6 w base (.slice A n n) ps ∧ n ≤ c ∧ c ≤ maxLen ∧ (A = none → c = 0) ∧ (∀ a, A = some a → ∃ g, a = ⟨g, 0, none⟩) := by
  obtain rfl := h.psAt.1
  obtain ⟨h1, h2⟩ := ownK_clip h.own
  exact ⟨rfl, ⟨h1, fun p hp => (h.ins p hp).mono (fun b hb => ⟨hb.1, fun e => hb.2 (by cases A with | none => exact e | some a => exact e)⟩), h.nms⟩, h2⟩

/-- A list's own copy, items where they were. -/
def RowOut (ps : List CP) (w : World) (e : Ending) (w' : World) : Prop := ∃ A c, e = .returned (.slice A ps.length c) ∧ Row6 w' w.heap.size (.slice A ps.length c) ps ∧ Below w.heap.size w w'

set_option maxHeartbeats 1600000 in
theorem clonePs_any (A : Option Addr) (c : Nat) (ps : List CP) (w : World) (hA : PsC w A ps) (hlen : ps.length ≤ 5000) :
    Calls Tryz.prog 76 #[.slice A ps.length c] w (RowOut ps w) := by
  have qT : ∀ (w : World) (a : Option Addr) (n c n' c' : Nat), (binOp .eql 22 (.slice a n c) (.slice none n' c')).run Tryz.prog w = .ok (.bool a.isNone) w := fun w a n c n' c' => Lib.run_eql_slice_nil w _ _ a n c n' c' Tryz.underlying22
  cases A with
  | none =>
    have h0 : ps = [] := by
      rcases Nat.eq_zero_or_pos ps.length with h | h
      · exact List.length_eq_zero_iff.1 h
      · obtain ⟨b, o, hb, _⟩ := hA.cells h
        cases hb
    subst h0
    go_enter Tryz.func76, Tryz.ntmps76
    go_wp2
    go_ret
    exact ⟨none, 0, rfl, row6_nil, Below.refl _ _⟩
  | some a =>
    have hown : (w.alloc (.cells #[] 53)).ownsRow w.heap.size 53 6 (.slice (some ⟨w.heap.size, 0, none⟩) 0 0) 0 [] :=
      ⟨rfl, .inr ⟨w.heap.size, 0, #[], rfl, Nat.le_refl _, heap_alloc_new w _, Nat.le_refl _, by simp [maxLen], rfl, rfl⟩⟩
    have hnews : ∀ (j : Nat) (u : Value), (flatCP ps)[j]? = some u → (w.alloc (.cells #[] 53)).cell? (a.add j) = some u := by
      intro j u hu
      by_cases hx : 0 < ps.length
      · obtain ⟨b, off, hab, hb, hc⟩ := (hA.below (bl_alloc (Below.refl _ _) (.cells #[] 53))).cells hx
        injection hab with hab
        subst hab
        exact PsC.flat hc j u hu
      · obtain rfl : ps = [] := List.length_eq_zero_iff.1 (by omega)
        simp [flatCP] at hu
    obtain ⟨i0, hi, hz0, hz1, hz2⟩ := info_parts info_prop
    have HO := hide hown
    have HN := hide hnews
    have HI := hide hA.ins
    have HM := hide hA.nms
    clear hown hnews hA
    go_enter Tryz.func76, Tryz.ntmps76
    go_wp2_with (at_builtin; refine wpList_append_own _ rfl (.tmp 5) (.tmp 6) 22 rfl w.heap.size 53 i0 (.agg #[.string ByteArray.empty, .int .i64 0, .int .i64 0, .int .i64 0, .string ByteArray.empty, .slice none 0 0]) 6 80 Tryz.underlying22 hi hz0 hz1 hz2 rfl (by decide) _ 0 [] rfl HO.out a ps.length c (flatCP ps) rfl (flatCP_len ps) HN.out (flatCP_one ps) ?c1 ?c2 ?c3 ?_)
    case c1 => unfold maxLen; omega
    case c2 => omega
    case c3 => simp
    intro v' w1 hown1 hgrow1 _
    have hbw : Below w.heap.size w w1 := (Below.alloc (Below.refl _ _) (Nat.le_refl _) _).grown hgrow1 (by simp) (fun k hk => by simp [Value.ownBlock] at hk; omega)
    have hok := ownK_of_owns hown1
    obtain ⟨A1, c1, rfl, _⟩ := ownK_form hok
    have HF : RowOut ps w (.returned (.slice A1 ps.length c1)) w1 := ⟨A1, c1, rfl, ⟨hok, fun p hp => ((HI.out p hp).frame (fun b hb => hbw.block b hb)).mono (fun b hb => ⟨Nat.lt_of_lt_of_le hb hbw.size, fun e => by have := (hok.lt b e).1; omega⟩), HM.out⟩, hbw⟩
    have HFF := hide HF
    clear HF hown1 hgrow1 hbw hok
    go_wp2
    go_ret
    exact HFF.out

end Go.Proofs.YtfnooipkghfmoaaGreatDoor
/-
  WALK: a list of properties copied into new memory.
-/
namespace Go.Proofs.YtfnooipkghfmoaaGreatDoor
open Go.RowKit Go.Lib

theorem Row6.push {W w1 : World} {base : Nat} {v v' : Value} {ps : List CP} {p : CP} (h : Row6 W base v ps) (hg : W.grownBy w1 v.ownBlock) (hf : v'.ownBlock = v.ownBlock ∨ ∃ g, v'.ownBlock = some g ∧ W.heap.size ≤ g)
    (ho : OwnK 6 53 w1 base v' (ps.length + 1) (flatCP ps ++ p.cells)) (hp : LIn W (fun b => b < W.heap.size ∧ v.ownBlock ≠ some b) p.q.A p.q.x.l) (hn : p.n.size ≤ maxLen) : Row6 w1 base v' (ps ++ [p]) := by
  have hfl : flatCP (ps ++ [p]) = flatCP ps ++ p.cells := by rw [flatCP_append]; simp [flatCP]
  refine ⟨by rw [hfl, List.length_append]; exact ho, fun x hx => ?_, fun x hx => ?_⟩
  · have hx2 : LIn W (fun b => b < W.heap.size ∧ v.ownBlock ≠ some b) x.q.A x.q.x.l := by
      rcases List.mem_append.1 hx with hx | hx
      · exact h.ins x hx
      · rw [List.mem_singleton.1 hx]; exact hp
    refine (hx2.frame (w' := w1) (fun b hb => hg.block b hb.1 (fun e => hb.2 e.symm))).mono (fun b hb => ⟨Nat.lt_of_lt_of_le hb.1 hg.size, fun e => ?_⟩)
    rcases hf with hf | ⟨g, hf, hg2⟩
    · exact hb.2 (hf.symm.trans e)
    · rw [hf] at e
      obtain rfl := Option.some.inj e
      have := hb.1
      omega
  · rcases List.mem_append.1 hx with hx | hx
    · exact h.nms x hx
    · rw [List.mem_singleton.1 hx]; exact hn

/-- What CopyProps hands back. -/
def CopyPsOut (l : List PR) (w : World) (e : Ending) (w' : World) : Prop := ∃ A qs, e = .returned (.slice A l.length l.length) ∧ qs.map CP.pr = l ∧ Row6 w' w.heap.size (.slice A l.length l.length) qs ∧ Below w.heap.size w w'

set_option maxHeartbeats 6400000 in
set_option maxRecDepth 100000 in
theorem copyProps_any (A : Option Addr) (c : Nat) (ps : List CP) (w : World) (hA : PsC w A ps) (hlen : ps.length ≤ 5000) (hfit : ∀ p ∈ ps, p.q.x.fits) :
    Calls Tryz.prog 81 #[.slice A ps.length c] w (CopyPsOut (ps.map CP.pr) w) := by
  have HPO : Hid (∀ A qs w', qs.map CP.pr = ps.map CP.pr → Row6 w' w.heap.size (.slice A ps.length ps.length) qs → Below w.heap.size w w' → CopyPsOut (ps.map CP.pr) w (.returned (.slice A ps.length ps.length)) w') := hide fun A qs w' h1 h2 h3 => ⟨A, qs, by rw [List.length_map], h1, by rw [List.length_map]; exact h2, h3⟩
  generalize CopyPsOut (ps.map CP.pr) w = PO at *
  obtain ⟨iP, hiP, hzP0, hzP1, hzP2⟩ := info_parts info_prop
  have HIP := hide (And.intro hiP (And.intro hzP0 (And.intro hzP1 hzP2)))
  have HA := hide hA
  have HF := hide hfit
  clear hiP hzP0 hzP1 hzP2 hA hfit
  go_enter Tryz.func81, Tryz.ntmps81
  go_wp2
  go_loopw [3, 8] (fun v i' wr => ∃ (q : Nat) (A' : Option Addr) (c' : Nat) (os : Array Obj) (n : Nat) (qs : List CP), q ≤ ps.length ∧ i' = .int .i64 q ∧ v = .slice A' q c' ∧ Hid (qs.map CP.pr = (ps.take q).map CP.pr) ∧ Hid (Row6 wr w.heap.size (.slice A' q c') qs) ∧ wr = plus w os n) (fun _ i _ => ps.length - (intOf i).toNat)
  case atStart => exact ⟨0, none, 0, #[], _, [], Nat.zero_le _, rfl, rfl, hide rfl, hide row6_nil, plus_nil.symm⟩
  case round =>
    obtain ⟨q, A', c', os, n, qs, hq, rfl, rfl, HQ, HR, rfl⟩ := hrel
    by_cases hlt : q < ps.length
    · obtain ⟨b, o, rfl, hb, hcell⟩ := HA.out.cells (by omega)
      have c0 := hcell q hlt 0 (by omega)
      have c1 := hcell q hlt 1 (by omega)
      have c2 := hcell q hlt 2 (by omega)
      have c3 := hcell q hlt 3 (by omega)
      have c4 := hcell q hlt 4 (by omega)
      have c5 := hcell q hlt 5 (by omega)
      have hins := HA.out.ins ps[q] (List.getElem_mem hlt)
      have hnm := HA.out.nms ps[q] (List.getElem_mem hlt)
      have hft := HF.out ps[q] (List.getElem_mem hlt)
      have HTK := hide (show (ps.take (q + 1)).map CP.pr = (ps.take q).map CP.pr ++ [ps[q].pr] by rw [List.take_succ_eq_append_getElem hlt, List.map_append]; rfl)
      have i1 : (q : Int) < (ps.length : Int) := by omega
      clear hcell
      generalize ps[q] = x at *
      obtain ⟨nm, ⟨xv, A2, e2⟩⟩ := x
      obtain ⟨xk, xi, xt, xs, xl⟩ := xv
      dsimp only [CP.cells, CVal.cells, V.k, V.i, V.t, V.s, V.l] at c0 c1 c2 c3 c4 c5 hins hnm
      simp only [List.getElem?_cons_zero, List.getElem?_cons_succ, Nat.add_zero] at c0 c1 c2 c3 c4 c5
      have HCC := hide (fun W (hbw : Below w.heap.size w W) => copyValue_any (.mk xk xi xt xs xl) hft A2 e2 W (LIn.at_ ((hins.frame (w' := W) (fun b hb => hbw.block b hb)).mono (fun b hb => Nat.lt_of_lt_of_le hb hbw.size)) (fun b hb => hb)))
      have HNM := hide hnm
      unfold CopyOut at HCC
      simp only [V.arg, V.k, V.i, V.t, V.s, V.l] at HCC
      clear hins hnm hft
      have hql : qs.length = q := by have := congrArg List.length HQ.out; rw [List.length_map, List.length_map, List.length_take] at this; omega
      have HQL := hide hql
      clear hql
      go_wp2
      have HBW := hide (show Below w.heap.size w ((plus w os n).alloc (.cells #[.string nm, .int .i64 xk, .int .i64 xi, .int .i64 xt, .string xs, .slice A2 xl.length e2] 53)) from (by repeat (first | exact Below.refl _ _ | refine bl_plus ?_ | refine bl_alloc ?_ _ | refine bl_drew ?_ | refine bl_drewN ?_ _)))
      have hblk := Blk.new (plus w os n) 53 #[.string nm, .int .i64 xk, .int .i64 xi, .int .i64 xt, .string xs, .slice A2 xl.length e2]
      have HR2 := hide (HR.out.below (bl_alloc (Below.refl _ _) (.cells #[.string nm, .int .i64 xk, .int .i64 xi, .int .i64 xt, .string xs, .slice A2 xl.length e2] 53)))
      have hgs : (plus w os n).heap.size = w.heap.size + os.size := plus_size
      rw [hgs] at hblk
      have v0 := hblk.cell 0
      have v1 := hblk.cell 1
      have v2 := hblk.cell 2
      have v3 := hblk.cell 3
      have v4 := hblk.cell 4
      have v5 := hblk.cell 5
      have hg6 := hblk.lt
      clear hgs hblk
      generalize ((plus w os n).alloc (.cells #[.string nm, .int .i64 xk, .int .i64 xi, .int .i64 xt, .string xs, .slice A2 xl.length e2] 53)) = V at *
      generalize w.heap.size + os.size = g6 at *
      have HVS := hide HBW.out.size
      go_region_law (first
        | ((refine step_append_n rfl (.tmp 12) (.tmp 19) rfl rfl Tryz.underlying22 HIP.out.1 HIP.out.2.1 HIP.out.2.2.1 (by decide) rfl (by have := HIP.out.2.2.2; omega) w.heap.size q 1 (.slice A' q c') (flatCP qs) [.string nm, .int .i64 xk, .int .i64 xi, .int .i64 xt, .string xs, .slice A3 xl.length xl.length] _ rfl (ownK_alloc (by have := HR3.out.own; rwa [HQL.out] at this) _) (by decide) rfl (by intro u hu; simp only [List.mem_cons, List.not_mem_nil, or_false] at hu; rcases hu with rfl | rfl | rfl | rfl | rfl | rfl <;> rfl) rfl (newN_cells (cs := [_, _, _, _, _, _]) (by simp only [World.size_alloc, plus_size, World.drew])) (by omega) (by have h1 := HVS.out; have h2 := HB3.out.size; simp only [World.size_alloc]; omega) ?_); (intro v' w1 hown1 hgr1 hfr1); (obtain ⟨A1, c9, rfl, _⟩ := ownK_form hown1); (have HN := hide hown1); (have HGR := hide hgr1); (have HFR := hide hfr1); (clear hown1 hgr1 hfr1))
        | (go_simp; go_at_call 32; refine (HCC.out _ ?hbw).mono ?_; (case hbw => exact bl_drew HBW.out); rintro e w' ⟨A3, rfl, hA3, hl3, hbl⟩; have HL3 := hide hl3; have HR3 := hide (HR2.out.below (bl_trans (bl_drew (Below.refl _ _)) hbl)); have HB3 := hide (bl_trans (bl_drew (Below.refl _ _)) hbl); have vv0 := (HB3.out.cell (p := ⟨g6, 0, none⟩) hg6).trans v0; clear hA3 hl3 hbl))
      all_goals (
        have hrow := Row6.push (p := ⟨nm, ⟨.mk xk xi xt xs xl, A3, xl.length⟩⟩) (HR3.out.below (bl_alloc (Below.refl _ _) (.cells #[.string nm, .int .i64 xk, .int .i64 xi, .int .i64 xt, .string xs, .slice A3 xl.length xl.length] 53))) HGR.out HFR.out (by rw [HQL.out]; exact HN.out)
          ((HL3.out.frame (fun b hb => Below.heap_alloc _ _ b hb.2)).mono (fun b hb => ⟨by rw [World.size_alloc]; omega, fun e => by
            have h1 := (HR2.out.own.lt b e).2
            have h2 := hb.1
            simp only [World.drew] at h2
            omega⟩)) HNM.out
        obtain ⟨os9, n9, hw1⟩ := grown_plus (L := w) (bl_alloc (bl_trans HBW.out HB3.out) _) HGR.out (fun k hk => (HR2.out.own.lt k hk).1)
        have HROW := hide hrow
        subst hw1
        clear hrow
        go_wp2
        go_roundw
        case rel => exact ⟨q + 1, A1, c9, os9, n9, qs ++ [⟨nm, ⟨.mk xk xi xt xs xl, A3, xl.length⟩⟩], hlt, by go_num, rfl, hide (by rw [List.map_append, HQ.out, HTK.out]; rfl), HROW, rfl⟩
        case measure => simp [intOf]; omega)
    · have hkl : q = ps.length := by omega
      subst hkl
      obtain ⟨hql, hrow, hqc, hcm, hnil, hoff⟩ := HR.out.clip
      have HQ2 := hide (show qs.map CP.pr = ps.map CP.pr by have := HQ.out; rwa [List.take_length] at this)
      have HRW := hide hrow
      have HCL := hide (fun W => clipP_any A' ps.length c' W hqc hcm hnil hoff)
      clear hql hrow hqc hcm hnil hoff HR HQ HA
      go_wp2_with (go_at_call 30; refine (HCL.out _).mono ?_; rintro e w' ⟨rfl, rfl⟩)
      exact HPO.out _ _ _ HQ2.out HRW.out (by repeat (first | exact Below.refl _ _ | refine bl_plus ?_ | refine bl_alloc ?_ _ | refine bl_drew ?_ | refine bl_drewN ?_ _))

end Go.Proofs.YtfnooipkghfmoaaGreatDoor
/-
  PLAIN AND MEMORY: a row that the call owns, written over in its midst, and cut; what a question about a name answers.
-/
namespace Go.Proofs.YtfnooipkghfmoaaGreatDoor
open Go.RowKit Go.Lib

theorem heap_setCells (g : Nat) (t : TypeId) : ∀ (vs : List Value) (o : Nat) (w : World) (cs : Array Value), w.heap[g]? = some (.cells cs t (0, 0)) →
    ∃ cs' : Array Value, (w.setCells g o vs).heap[g]? = some (.cells cs' t (0, 0)) ∧ cs'.size = cs.size ∧ ∀ k, cs'[k]? = if o ≤ k ∧ k < o + vs.length ∧ k < cs.size then vs[k - o]? else cs[k]?
  | [], o, w, cs, h => ⟨cs, h, rfl, fun k => by rw [if_neg (by simp; omega)]⟩
  | v :: vs, o, w, cs, h => by
    obtain ⟨cs', h1, h2, h3⟩ := heap_setCells g t vs (o + 1) (w.setCell ⟨g, o, none⟩ v) (cs.setIfInBounds o v) (heap_setCell_same w g o cs t v h)
    refine ⟨cs', h1, by rw [h2, Array.size_setIfInBounds], fun k => ?_⟩
    rw [h3 k, Array.size_setIfInBounds]
    simp only [List.length_cons]
    by_cases hk : k = o
    · subst hk
      rw [if_neg (by omega)]
      by_cases hs : k < cs.size
      · rw [if_pos ⟨Nat.le_refl _, by omega, hs⟩, Array.getElem?_setIfInBounds_self_of_lt hs]; simp
      · rw [if_neg (by omega), Array.getElem?_eq_none (by rw [Array.size_setIfInBounds]; omega), Array.getElem?_eq_none (by omega)]
    · rw [Array.getElem?_setIfInBounds_ne (by omega)]
      by_cases hin : o + 1 ≤ k ∧ k < o + 1 + vs.length ∧ k < cs.size
      · rw [if_pos hin, if_pos (by omega), show k - o = (k - (o + 1)) + 1 by omega, List.getElem?_cons_succ]
      · rw [if_neg hin, if_neg (by omega)]
theorem OwnK.over {K : Nat} {e : TypeId} {w : World} {base g n c : Nat} {xs : List Value} (h : OwnK K e w base (.slice (some ⟨g, 0, none⟩) n c) n xs) (o : Nat) (vs : List Value) (hv : o + vs.length ≤ n * K) :
    OwnK K e (w.setCells g o vs) base (.slice (some ⟨g, 0, none⟩) n c) n (xs.take o ++ (vs ++ xs.drop (o + vs.length))) := by
  obtain ⟨hl, A', c', hv2, h1, h2, h3⟩ := h
  injection hv2 with e1 _ e3
  subst e1 e3
  rcases h3 with ⟨e, _⟩ | ⟨g', cur, hA, hg, hb, h4, h5⟩
  · cases e
  · injection hA with hA
    injection hA with hA
    subst hA
    obtain ⟨cs', k1, k2, k3⟩ := heap_setCells g e vs o w cur hb
    refine ⟨by simp only [List.length_append, List.length_take, List.length_drop]; omega, _, c, rfl, h1, h2, .inr ⟨g, cs', rfl, hg, k1, by rw [k2]; exact h4, ?_⟩⟩
    have hcn : n * K ≤ c * K := Nat.mul_le_mul_right _ h1
    refine List.ext_getElem? fun k => ?_
    have hx : ∀ k, k < n * K → xs[k]? = cur[k]? := fun k hk => by rw [← h5, List.getElem?_take_of_lt hk]; simp
    by_cases hk : k < n * K
    · rw [List.getElem?_take_of_lt hk]
      have : cs'.toList[k]? = cs'[k]? := by simp
      rw [this, k3 k]
      by_cases ho : k < o
      · rw [if_neg (by omega), List.getElem?_append_left (by rw [List.length_take]; omega), List.getElem?_take_of_lt ho, hx k hk]
      · rw [List.getElem?_append_right (by rw [List.length_take]; omega)]
        have hto : (xs.take o).length = o := by rw [List.length_take]; omega
        rw [hto]
        by_cases hin : k < o + vs.length
        · rw [if_pos ⟨by omega, hin, by omega⟩, List.getElem?_append_left (by omega)]
        · rw [if_neg (by omega), List.getElem?_append_right (by omega), List.getElem?_drop, show o + vs.length + (k - o - vs.length) = k by omega, hx k hk]
    · rw [List.getElem?_eq_none (by rw [List.length_take]; omega), List.getElem?_eq_none (by simp only [List.length_append, List.length_take, List.length_drop]; omega)]
theorem OwnK.cut {K : Nat} {e : TypeId} {w : World} {base n c : Nat} {A : Option Addr} {xs : List Value} (h : OwnK K e w base (.slice A n c) n xs) {m : Nat} (hm : m ≤ n) : OwnK K e w base (.slice A m c) m (xs.take (m * K)) := by
  obtain ⟨hl, A', c', hv, h1, h2, h3⟩ := h
  injection hv with e1 _ e3
  subst e1 e3
  have hmn : m * K ≤ n * K := Nat.mul_le_mul_right _ hm
  refine ⟨by rw [List.length_take]; omega, A, c, rfl, by omega, h2, ?_⟩
  rcases h3 with ⟨a, b, d⟩ | ⟨g, cur, a, b, d, f, k⟩
  · exact .inl ⟨a, by omega, d⟩
  · exact .inr ⟨g, cur, a, b, d, f, by rw [← k, List.take_take, Nat.min_eq_left hmn]⟩
theorem flatCP_set : ∀ (ps : List CP) (i : Nat) (p : CP), i < ps.length → flatCP (ps.set i p) = (flatCP ps).take (i * 6) ++ (p.cells ++ (flatCP ps).drop (i * 6 + p.cells.length))
  | q :: ps, 0, p, _ => by
    show p.cells ++ flatCP ps = (q.cells ++ flatCP ps).take (0 * 6) ++ (p.cells ++ (q.cells ++ flatCP ps).drop (0 * 6 + p.cells.length))
    have hl : p.cells.length = q.cells.length := rfl
    rw [hl, Nat.zero_mul, Nat.zero_add, List.drop_left, List.take_zero, List.nil_append]
  | q :: ps, i + 1, p, h => by
    have ih := flatCP_set ps i p (by simpa using h)
    show q.cells ++ flatCP (ps.set i p) = (q.cells ++ flatCP ps).take ((i + 1) * 6) ++ (p.cells ++ (q.cells ++ flatCP ps).drop ((i + 1) * 6 + p.cells.length))
    have h1 : (i + 1) * 6 = q.cells.length + i * 6 := by show _ = 6 + _; omega
    rw [ih, h1, List.take_length_add_append, Nat.add_assoc, List.drop_length_add_append]
    simp only [List.append_assoc]
theorem flatCP_take (ps : List CP) (i : Nat) : flatCP (ps.take i) = (flatCP ps).take (i * 6) := by
  have h : flatCP ps = flatCP (ps.take i) ++ flatCP (ps.drop i) := by rw [← flatCP_append, List.take_append_drop]
  by_cases hi : i ≤ ps.length
  · rw [h, List.take_left' (by rw [flatCP_len, List.length_take]; omega)]
  · rw [List.take_of_length_le (by omega), List.take_of_length_le (by rw [flatCP_len]; omega)]

/-- A function that says whether a property has the name in its box. -/
structure Asks (fid : FuncId) : Prop where
  ent : ∀ args w, (callFunc fid args).run Tryz.prog w = .ok (.enter fid args) w
  call : ∀ (n : ByteArray) (k i t : Int) (s : ByteArray) (A : Option Addr) (m c g : Nat) (x : ByteArray) (w : World), w.cell? ⟨g, 0, none⟩ = some (.string x) → g < w.heap.size →
    Calls Tryz.prog fid #[.agg #[.string n, .int .i64 k, .int .i64 i, .int .i64 t, .string s, .slice A m c], .pointer (some ⟨g, 0, none⟩)] w fun e w' => e = .returned (.bool (n.toList == x.toList)) ∧ Below w.heap.size w w'

set_option maxHeartbeats 1600000 in
theorem asks_without : Asks 82 := ⟨fun args w => Go.Proofs.enters_of Tryz.func82 (by kernel_rfl) rfl args w, fun n k i t s A m c g x w hx hg => by
  go_enter Tryz.func82, Tryz.ntmps82
  go_wp2
  go_ret
  exact ⟨rfl, (by repeat (first | exact Below.refl _ _ | refine bl_plus ?_ | refine bl_alloc ?_ _ | refine bl_drew ?_ | refine bl_drewN ?_ _))⟩⟩
set_option maxHeartbeats 1600000 in
theorem asks_with : Asks 77 := ⟨fun args w => Go.Proofs.enters_of Tryz.func77 (by kernel_rfl) rfl args w, fun n k i t s A m c g x w hx hg => by
  go_enter Tryz.func77, Tryz.ntmps77
  go_wp2
  go_ret
  exact ⟨rfl, (by repeat (first | exact Below.refl _ _ | refine bl_plus ?_ | refine bl_alloc ?_ _ | refine bl_drew ?_ | refine bl_drewN ?_ _))⟩⟩

/-- The first property of a name. -/
def prIs2 (l : List CP) (x : ByteArray) (j : Nat) : Bool := match l[j]? with
  | some p => p.n.toList == x.toList
  | none => false
theorem prIs2_at {l : List CP} {x : ByteArray} {j : Nat} (h : j < l.length) : prIs2 l x j = (l[j].n.toList == x.toList) := by
  unfold prIs2
  rw [List.getElem?_eq_getElem h]
/-- The properties of other names. -/
def others (x : ByteArray) (l : List CP) : List CP := l.filter (fun p => !(p.n.toList == x.toList))

end Go.Proofs.YtfnooipkghfmoaaGreatDoor
/-
  WALK: slices.IndexFunc at properties, any function that asks for a name.
-/
namespace Go.Proofs.YtfnooipkghfmoaaGreatDoor
open Go.RowKit Go.Lib

set_option maxHeartbeats 3200000 in
set_option maxRecDepth 100000 in
theorem indexRow_any (fid : FuncId) (hF : Asks fid) (gr c : Nat) (l : List CP) (g : Nat) (x : ByteArray) (w : World) (hlen : l.length ≤ 5000) (hgr : gr < w.heap.size) (hcell : ∀ j (h : j < l.length) i, i < 6 → w.cell? ⟨gr, j * 6 + i, none⟩ = l[j].cells[i]?) (hx : w.cell? ⟨g, 0, none⟩ = some (.string x)) (hg : g < w.heap.size) :
    Calls Tryz.prog 79 #[.slice (some ⟨gr, 0, none⟩) l.length c, .func (.func fid) #[] #[.pointer (some ⟨g, 0, none⟩)]] w fun e w' => e = .returned (.int .i64 (idxInt (firstIdx (prIs2 l x) l.length))) ∧ Below w.heap.size w w' := by
  have ent := hF.ent
  have HCALL := hide hF.call
  clear hF
  have HN := hide (fun h => firstIdx_none (p := prIs2 l x) (n := l.length) h)
  have HF := hide (fun k h hk hn => firstIdx_some (p := prIs2 l x) (n := l.length) (k := k) h hk hn)
  have HA := hide hcell
  clear hcell
  generalize firstIdx (prIs2 l x) l.length = R at *
  have HX := hide hx
  clear hx
  go_enter Tryz.func79, Tryz.ntmps79
  go_wp2
  go_loopw [8] (fun i wr => ∃ (k : Nat) (os : Array Obj) (n : Nat), k ≤ l.length ∧ i = .int .i64 k ∧ Hid (∀ j, j < k → prIs2 l x j = false) ∧ wr = plus w os n) (fun i _ => l.length - (intOf i).toNat)
  case atStart => exact ⟨0, #[], _, Nat.zero_le _, rfl, hide (fun j hj => by omega), plus_nil.symm⟩
  case round =>
    obtain ⟨q, os, n, hq, rfl, HK, rfl⟩ := hrel
    by_cases hlt : q < l.length
    · have hv := HA.out q hlt
      have c0 := hv 0 (by omega)
      have c1 := hv 1 (by omega)
      have c2 := hv 2 (by omega)
      have c3 := hv 3 (by omega)
      have c4 := hv 4 (by omega)
      have c5 := hv 5 (by omega)
      have hs := prIs2_at (x := x) hlt
      have hf := HF.out q HK.out
      have HNXT := hide (fun (h : prIs2 l x q = false) j (hj : j < q + 1) => (by
        rcases Nat.lt_or_ge j q with g | g
        · exact HK.out j g
        · obtain rfl : j = q := by omega
          exact h : prIs2 l x j = false))
      have i1 : (q : Int) < (l.length : Int) := by omega
      clear hv HK
      generalize prIs2 l x q = B at *
      generalize l[q] = y at *
      obtain ⟨nm, ⟨xv, A2, e2⟩⟩ := y
      obtain ⟨xk, xi, xt, xs, xl⟩ := xv
      dsimp only [CP.cells, CVal.cells, V.k, V.i, V.t, V.s, V.l] at c0 c1 c2 c3 c4 c5 hs
      simp only [List.getElem?_cons_zero, List.getElem?_cons_succ, Nat.add_zero] at c0 c1 c2 c3 c4 c5
      have hx2 : (plus w os n).cell? ⟨g, 0, none⟩ = some (.string x) := (plus_cell hg).trans HX.out
      have hg2 : g < (plus w os n).heap.size := Nat.lt_of_lt_of_le hg (le_plus (Nat.le_refl _))
      have HC := hide (fun W (hbw : Below w.heap.size w W) => HCALL.out nm xk xi xt xs A2 xl.length e2 g x W ((hbw.cell (p := ⟨g, 0, none⟩) hg).trans HX.out) (Nat.lt_of_lt_of_le hg hbw.size))
      rw [← hs] at HC
      clear hx2 hg2 hs
      cases B with
      | true =>
        have hR := hf rfl hlt
        subst hR
        go_wp2_with (refine (HC.out _ ?hbw).mono ?_; (case hbw => exact (by repeat (first | exact Below.refl _ _ | refine bl_plus ?_ | refine bl_alloc ?_ _ | refine bl_drew ?_ | refine bl_drewN ?_ _))); rintro e w' ⟨rfl, hbl⟩; obtain ⟨os1, n1, rfl⟩ := below_plus hbl; clear hbl)
        go_ret
        exact ⟨rfl, (by repeat (first | exact Below.refl _ _ | refine bl_plus ?_ | refine bl_alloc ?_ _ | refine bl_drew ?_ | refine bl_drewN ?_ _))⟩
      | false =>
        clear hf
        go_wp2_with (refine (HC.out _ ?hbw).mono ?_; (case hbw => exact (by repeat (first | exact Below.refl _ _ | refine bl_plus ?_ | refine bl_alloc ?_ _ | refine bl_drew ?_ | refine bl_drewN ?_ _))); rintro e w' ⟨rfl, hbl⟩; obtain ⟨os1, n1, rfl⟩ := below_plus hbl; clear hbl)
        go_roundw
        case rel => exact ⟨q + 1, _, _, hlt, by go_num, hide (HNXT.out (by trivial)), by first | rfl | (rw [plus_plus])⟩
        case measure => simp [intOf]; omega
    · have hR : R = none := HN.out (fun j hj => HK.out j (by omega))
      subst hR
      obtain rfl : q = l.length := by omega
      go_wp2
      go_ret
      exact ⟨rfl, (by repeat (first | exact Below.refl _ _ | refine bl_plus ?_ | refine bl_alloc ?_ _ | refine bl_drew ?_ | refine bl_drewN ?_ _))⟩

end Go.Proofs.YtfnooipkghfmoaaGreatDoor
/-
  WALK: slices.DeleteFunc at properties that the call owns, any function that asks for a name.
-/
namespace Go.Proofs.YtfnooipkghfmoaaGreatDoor
open Go.RowKit Go.Lib

/-- What DeleteFunc leaves: the kept ones of the first j, then whatever, then the rest. -/
structure Del6 (base g c : Nat) (x : ByteArray) (ps : List CP) (w0 : World) (i j : Nat) (w : World) : Prop where
  grown : w0.grownBy w (some g)
  cur : ∃ cur : List CP, cur.length = ps.length ∧ cur.take i = others x (ps.take j) ∧ cur.drop j = ps.drop j ∧ OwnK 6 53 w base (.slice (some ⟨g, 0, none⟩) ps.length c) ps.length (flatCP cur)
theorem grownBy_cells (g : Nat) : ∀ (vs : List Value) (o : Nat) (w : World), w.grownBy (w.setCells g o vs) (some g)
  | [], _, w => ⟨rfl, rfl, rfl, Nat.le_refl _, fun _ _ _ => rfl⟩
  | v :: vs, o, w => grownBy_trans (grownBy_setCell w g o v) (grownBy_cells g vs (o + 1) _)
section
variable {base g c : Nat} {x : ByteArray} {ps : List CP} {w0 w w' : World} {i j : Nat}
theorem others_snoc (x : ByteArray) (l : List CP) (p : CP) : others x (l ++ [p]) = if p.n.toList == x.toList then others x l else others x l ++ [p] := by
  unfold others
  rw [List.filter_append]
  by_cases h : (p.n.toList == x.toList) = true
  · simp [h]
  · simp [h]
theorem Del6.below (h : Del6 base g c x ps w0 i j w) (hb : Below w.heap.size w w') : Del6 base g c x ps w0 i j w' := by
  obtain ⟨h1, cur, h2, h3, h4, h5⟩ := h
  exact ⟨grownBy_below h1 hb, cur, h2, h3, h4, ownK_below h5 hb⟩
theorem Del6.skip (h : Del6 base g c x ps w0 i j w) (hj : j < ps.length) (hx : (ps[j].n.toList == x.toList) = true) : Del6 base g c x ps w0 i (j + 1) w := by
  obtain ⟨h1, cur, h2, h3, h4, h5⟩ := h
  refine ⟨h1, cur, h2, ?_, ?_, h5⟩
  · rw [List.take_succ_eq_append_getElem hj, others_snoc, if_pos hx]; exact h3
  · rw [← List.drop_drop, ← List.drop_drop, h4]
theorem Del6.keep (h : Del6 base g c x ps w0 i j w) (hj : j < ps.length) (hij : i ≤ j) (hx : (ps[j].n.toList == x.toList) = false) : Del6 base g c x ps w0 (i + 1) (j + 1) (w.setCells g (i * 6) ps[j].cells) := by
  obtain ⟨h1, cur, h2, h3, h4, h5⟩ := h
  have hi : i < cur.length := by omega
  refine ⟨?_, cur.set i ps[j], by rw [List.length_set]; exact h2, ?_, ?_, ?_⟩
  · exact grownBy_trans h1 (grownBy_cells g _ _ w)
  · rw [List.take_succ_eq_append_getElem hj, others_snoc, if_neg (by rw [hx]; decide), ← h3, List.take_succ_eq_append_getElem (by rw [List.length_set]; exact hi), List.getElem_set_self, List.take_set_of_le (Nat.le_refl _)]
  · rw [List.drop_set_of_lt (by omega), ← List.drop_drop, ← List.drop_drop, h4]
  · rw [flatCP_set cur i _ hi]
    exact h5.over _ _ (by show i * 6 + 6 ≤ _; omega)
theorem Del6.cell (h : Del6 base g c x ps w0 i j w) {k m : Nat} (hk : k < ps.length) (hjk : j ≤ k) (hm : m < 6) : w.cell? ⟨g, k * 6 + m, none⟩ = ps[k].cells[m]? := by
  obtain ⟨h1, cur, h2, h3, h4, hl, A', c', hv, k1, k2, k3⟩ := h
  injection hv with e1 _ e3
  subst e1
  rcases k3 with ⟨e, _⟩ | ⟨g', cs, hA, hg, hb, h6, h7⟩
  · cases e
  · injection hA with hA
    injection hA with hA
    subst hA
    have hck : cur[k]? = ps[k]? := by
      have := congrArg (fun l => l[k - j]?) h4
      simp only [List.getElem?_drop] at this
      rwa [show j + (k - j) = k by omega] at this
    have hkc : k < cur.length := by omega
    rw [List.getElem?_eq_getElem hkc, List.getElem?_eq_getElem hk] at hck
    rw [← Option.some.inj hck, ← flatCP_get cur k m hkc hm, cell_of_row w g _ cs _ (0, 0) hb, ← h7, List.getElem?_take_of_lt (by omega)]
    simp
theorem Del6.there (h : Del6 base g c x ps w0 i j w) {k : Nat} (hk : k < ps.length * 6) : (w.cell? ⟨g, k, none⟩).isSome = true ∧ w.frozen? ⟨g, k, none⟩ = false := by
  obtain ⟨h1, cur, h2, h3, h4, hl, A', c', hv, k1, k2, k3⟩ := h
  injection hv with e1 _ e3
  subst e1
  rcases k3 with ⟨e, _⟩ | ⟨g', cs, hA, hg, hb, h6, h7⟩
  · cases e
  · injection hA with hA
    injection hA with hA
    subst hA
    have hlt : k < cs.size := by
      have := congrArg List.length h7
      rw [hl, List.length_take, Array.length_toList] at this
      omega
    refine ⟨?_, frozen_of_row w g _ cs _ hb⟩
    rw [cell_of_row w g _ cs _ (0, 0) hb, Array.getElem?_eq_getElem hlt]
    rfl
theorem Del6.start (h : Row6 w base (.slice (some ⟨g, 0, none⟩) ps.length c) ps) (hall : ∀ k (h : k < ps.length), k < i → (ps[k].n.toList == x.toList) = false) : Del6 base g c x ps w i i w := by
  refine ⟨⟨rfl, rfl, rfl, Nat.le_refl _, fun _ _ _ => rfl⟩, ps, rfl, ?_, rfl, h.own⟩
  unfold others
  symm
  rw [List.filter_eq_self]
  intro p hp
  obtain ⟨k, hk, rfl⟩ := List.mem_iff_getElem.1 hp
  rw [List.length_take] at hk
  rw [List.getElem_take, hall k (by omega) (by omega)]
  rfl
/-- The end: the tail is blanked. -/
theorem Del6.over (h : Del6 base g c x ps w0 i ps.length w) (hr : Row6 w0 base (.slice (some ⟨g, 0, none⟩) ps.length c) ps) (hi : i ≤ ps.length) (vs : List Value) (hvs : vs.length = (ps.length - i) * 6) :
    Row6 (w.setCells g (i * 6) vs) base (.slice (some ⟨g, 0, none⟩) i c) (others x ps) ∧ w0.grownBy (w.setCells g (i * 6) vs) (some g) ∧ i = (others x ps).length := by
  obtain ⟨h1, cur, h2, h3, h4, h5⟩ := h
  rw [List.take_length] at h3
  have hil : i = (others x ps).length := by rw [← h3, List.length_take]; omega
  have hgr : w0.grownBy (w.setCells g (i * 6) vs) (some g) := grownBy_trans h1 (grownBy_cells g _ _ w)
  refine ⟨hr.grown hgr (.inl rfl) ?_ (fun p hp => (List.mem_filter.1 hp).1), hgr, hil⟩
  have hcut := (h5.over (i * 6) vs (by rw [hvs]; omega)).cut hi
  rw [List.take_append_of_le_length (by rw [List.length_take, flatCP_len]; omega), List.take_take, Nat.min_self, ← flatCP_take, h3] at hcut
  rw [← hil]
  exact hcut
end

end Go.Proofs.YtfnooipkghfmoaaGreatDoor
