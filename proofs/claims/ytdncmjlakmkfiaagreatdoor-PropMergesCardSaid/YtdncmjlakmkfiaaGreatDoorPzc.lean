/-
  PLAIN AND MEMORY: properties with the places of their items; rows of them that the call owns.
-/
import Derived.Test.YtdncmjlakmkfiaaGreatDoorCpv
import Derived.Test.YtdncmjlakmkfiaaGreatDoorOwnG
import Derived.Deep.RegionLaw
set_option linter.all false
namespace Go.Proofs.YtdncmjlakmkfiaaGreatDoor
open Go.RowKit Go.Lib

/-- A property with the place of its value's items. -/
structure CP where
  n : ByteArray
  q : CVal

def CP.pr (p : CP) : PR := ⟨p.n, p.q.x⟩

def CP.cells (p : CP) : List Value := .string p.n :: p.q.cells

def CP.val (p : CP) : Value := .agg #[.string p.n, .int .i64 p.q.x.k, .int .i64 p.q.x.i, .int .i64 p.q.x.t, .string p.q.x.s, .slice p.q.A p.q.x.l.length p.q.c]

def flatCP (ps : List CP) : List Value := ps.flatMap CP.cells

theorem flatCP_append (a b : List CP) : flatCP (a ++ b) = flatCP a ++ flatCP b := List.flatMap_append

theorem flatCP_len : ∀ ps : List CP, (flatCP ps).length = ps.length * 6
  | [] => rfl
  | p :: ps => by
    have ih := flatCP_len ps
    show (p.cells ++ flatCP ps).length = _
    rw [List.length_append, ih]
    simp only [CP.cells, CVal.cells, List.length_cons, List.length_nil]
    omega

theorem flatCP_get : ∀ (ps : List CP) (j i : Nat) (h : j < ps.length), i < 6 → (flatCP ps)[j * 6 + i]? = ps[j].cells[i]?
  | p :: ps, 0, i, _, hi => by
    show (p.cells ++ flatCP ps)[0 * 6 + i]? = _
    rw [List.getElem?_append_left (by simp only [CP.cells, CVal.cells, List.length_cons, List.length_nil]; omega)]
    simp only [Nat.zero_mul, Nat.zero_add, List.getElem_cons_zero]
  | p :: ps, j + 1, i, h, hi => by
    have ih := flatCP_get ps j i (by simpa using h) hi
    show (p.cells ++ flatCP ps)[(j + 1) * 6 + i]? = _
    rw [List.getElem?_append_right (by simp only [CP.cells, CVal.cells, List.length_cons, List.length_nil]; omega)]
    rw [show (j + 1) * 6 + i - p.cells.length = j * 6 + i by simp only [CP.cells, CVal.cells, List.length_cons, List.length_nil]; omega]
    exact ih

theorem flatCP_one (ps : List CP) : ∀ u ∈ flatCP ps, u.oneCell' = true := by
  intro u hu
  obtain ⟨x, _, hx⟩ := List.mem_flatMap.1 hu
  simp only [CP.cells, CVal.cells, List.mem_cons, List.not_mem_nil, or_false] at hx
  rcases hx with rfl | rfl | rfl | rfl | rfl | rfl <;> rfl

/-- A row of properties that the call owns; their items lie in other blocks. -/
structure Row6 (w : World) (base : Nat) (v : Value) (ps : List CP) : Prop where
  own : OwnK 6 47 w base v ps.length (flatCP ps)
  ins : ∀ p ∈ ps, LIn w (fun b => b < w.heap.size ∧ v.ownBlock ≠ some b) p.q.A p.q.x.l
  nms : ∀ p ∈ ps, p.n.size ≤ maxLen
section
variable {w w' : World} {base : Nat} {v v' : Value} {ps ps' : List CP}

theorem row6_nil : Row6 w base (.slice none 0 0) [] := ⟨OwnK.empty, fun _ h => (by cases h), fun _ h => (by cases h)⟩

theorem Row6.below (h : Row6 w base v ps) (hb : Below w.heap.size w w') : Row6 w' base v ps :=
  ⟨ownK_below h.own hb, fun p hp => ((h.ins p hp).frame (w' := w') (fun b hb2 => hb.block b hb2.1)).mono (fun b hb2 => ⟨Nat.lt_of_lt_of_le hb2.1 hb.size, hb2.2⟩), h.nms⟩

theorem Row6.grown (h : Row6 w base v ps) (hg : w.grownBy w' v.ownBlock) (hf : v'.ownBlock = v.ownBlock ∨ ∃ g, v'.ownBlock = some g ∧ w.heap.size ≤ g) (ho : OwnK 6 47 w' base v' ps'.length (flatCP ps')) (hs : ∀ p ∈ ps', p ∈ ps) : Row6 w' base v' ps' := by
  refine ⟨ho, fun p hp => ?_, fun p hp => h.nms p (hs p hp)⟩
  refine ((h.ins p (hs p hp)).frame (w' := w') (fun b hb => hg.block b hb.1 (fun e => hb.2 e.symm))).mono (fun b hb => ⟨Nat.lt_of_lt_of_le hb.1 hg.size, fun e => ?_⟩)
  rcases hf with hf | ⟨g, hf, hg2⟩
  · exact hb.2 (hf.symm.trans e)
  · rw [hf] at e
    obtain rfl := Option.some.inj e
    have := hb.1
    omega

/-- Such a row reads as a list of properties. -/
theorem Row6.psAt {A : Option Addr} {n c : Nat} (h : Row6 w base (.slice A n c) ps) : n = ps.length ∧ PsAt w A (ps.map CP.pr) := by
  obtain ⟨hl, A', c', hv, h1, h2, h3⟩ := h.own
  injection hv with e1 e2 e3
  subst e1 e2 e3
  refine ⟨rfl, by rw [List.length_map]; omega, fun hp => ?_⟩
  rw [List.length_map] at hp
  rcases h3 with ⟨_, h0, _⟩ | ⟨g, cur, hA, hg, hb, h4, h5⟩
  · omega
  · refine ⟨g, 0, hA, (Array.getElem?_eq_some_iff.1 hb).1, fun j hj => ?_⟩
    rw [List.length_map] at hj
    have hc : ∀ i, i < 6 → w.cell? ⟨g, 0 + j * 6 + i, none⟩ = ps[j].cells[i]? := fun i hi => by
      rw [← flatCP_get ps j i hj hi, Nat.zero_add, cell_of_row w g _ cur _ (0, 0) hb, ← h5, List.getElem?_take_of_lt (by omega)]; simp
    rw [List.getElem_map]
    refine ⟨hc 0 (by omega), h.nms _ (List.getElem_mem hj), VAt_iff.2 ⟨hc 1 (by omega), hc 2 (by omega), hc 3 (by omega), hc 4 (by omega), ps[j].q.A, ps[j].q.c, hc 5 (by omega), ?_⟩⟩
    exact (h.ins _ (List.getElem_mem hj)).at_ (fun b hb => hb.1)

/-- The cells of an element. -/
theorem Row6.cellAt {g n c : Nat} (h : Row6 w base (.slice (some ⟨g, 0, none⟩) n c) ps) {j i : Nat} (hj : j < ps.length) (hi : i < 6) : w.cell? ⟨g, j * 6 + i, none⟩ = ps[j].cells[i]? ∧ w.frozen? ⟨g, j * 6 + i, none⟩ = false := by
  obtain ⟨hl, A', c', hv, h1, h2, h3⟩ := h.own
  injection hv with e1 e2 e3
  subst e1
  rcases h3 with ⟨e, _⟩ | ⟨g', cur, hA, hg, hb, h4, h5⟩
  · cases e
  · injection hA with hA
    injection hA with hA
    subst hA
    refine ⟨?_, frozen_of_row w g _ cur _ hb⟩
    rw [← flatCP_get ps j i hj hi, cell_of_row w g _ cur _ (0, 0) hb, ← h5, List.getElem?_take_of_lt (by omega)]
    simp
end

theorem VIn_of_at {w : World} : ∀ (v : V) (b o : Nat), VAt w v b o → VIn w (fun b => b < w.heap.size) v b o
  | .mk k i t s l, b, o, h => by
    rw [VAt] at h
    rw [VIn]
    obtain ⟨h0, h1, h2, h3, A, c, h4, h5, h6⟩ := h
    refine ⟨h0, h1, h2, h3, A, c, h4, h5, fun hl => ?_⟩
    obtain ⟨b', o', hA, hb', hj⟩ := h6 hl
    exact ⟨b', o', hA, hb', fun j h => VIn_of_at l[j] b' _ (hj j h)⟩
termination_by v => SizeOf.sizeOf v
decreasing_by
  have := List.sizeOf_lt_of_mem (List.getElem_mem h)
  simp only [V.mk.sizeOf_spec]
  omega

theorem LIn_of_at {w : World} {A : Option Addr} {l : List V} (h : LAt w A l) : LIn w (fun b => b < w.heap.size) A l :=
  ⟨h.1, fun hl => by
    obtain ⟨b', o', hA, hb', hj⟩ := h.2 hl
    exact ⟨b', o', hA, hb', fun j h => VIn_of_at l[j] b' _ (hj j h)⟩⟩

/-- Properties in memory, with the places of their items. -/
structure PsC (w : World) (A : Option Addr) (ps : List CP) : Prop where
  len : ps.length ≤ maxLen
  cells : 0 < ps.length → ∃ b o, A = some ⟨b, o, none⟩ ∧ b < w.heap.size ∧ ∀ j (h : j < ps.length) i, i < 6 → w.cell? ⟨b, o + j * 6 + i, none⟩ = ps[j].cells[i]?
  ins : ∀ p ∈ ps, LIn w (fun b => b < w.heap.size) p.q.A p.q.x.l
  nms : ∀ p ∈ ps, p.n.size ≤ maxLen

theorem list_pick {α : Type} {Q : Nat → α → Prop} : ∀ n, (∀ i, i < n → ∃ x, Q i x) → ∃ l : List α, l.length = n ∧ ∀ i (h : i < l.length), Q i l[i]
  | 0, _ => ⟨[], rfl, fun i h => absurd h (by simp)⟩
  | n + 1, hx => by
    obtain ⟨l, hl, hq⟩ := list_pick n fun i hi => hx i (by omega)
    obtain ⟨x, hxx⟩ := hx n (by omega)
    refine ⟨l ++ [x], by simp [hl], fun i hi => ?_⟩
    by_cases hin : i < l.length
    · rw [List.getElem_append_left hin]; exact hq i hin
    · have : i = l.length := by simp at hi; omega
      subst this
      rw [List.getElem_append_right (Nat.le_refl _)]
      simpa [hl] using hxx

theorem PsAt.open_ {w : World} {A : Option Addr} {l : List PR} (h : PsAt w A l) : ∃ ps : List CP, ps.map CP.pr = l ∧ PsC w A ps := by
  by_cases h0 : l.length = 0
  · obtain rfl := List.length_eq_zero_iff.1 h0
    exact ⟨[], rfl, by simp, fun h => absurd h (by simp), fun _ h => (by cases h), fun _ h => (by cases h)⟩
  · obtain ⟨b, o, hA, hb, hj⟩ := h.2 (by omega)
    obtain ⟨ps, hl, hp⟩ := list_pick (Q := fun j (p : CP) => ∃ hj : j < l.length, p.pr = l[j] ∧ (∀ i, i < 6 → w.cell? ⟨b, o + j * 6 + i, none⟩ = p.cells[i]?) ∧ LIn w (fun b => b < w.heap.size) p.q.A p.q.x.l ∧ p.n.size ≤ maxLen) l.length (fun j hjl => by
      obtain ⟨c0, c1, c2, c3, c4, c5, A2, e2, c6, hl⟩ := (hj j hjl).cells
      refine ⟨⟨l[j].n, l[j].v, A2, e2⟩, hjl, rfl, fun i hi => ?_, LIn_of_at hl, c1⟩
      match i, hi with
      | 0, _ => exact c0
      | 1, _ => exact c2
      | 2, _ => exact c3
      | 3, _ => exact c4
      | 4, _ => exact c5
      | 5, _ => exact c6)
    refine ⟨ps, ?_, by rw [hl]; exact h.1, fun _ => ⟨b, o, hA, hb, fun j hj2 => (hp j hj2).2.2.1⟩, fun p hm => ?_, fun p hm => ?_⟩
    · refine List.ext_getElem (by rw [List.length_map, hl]) (fun j h1 h2 => ?_)
      rw [List.getElem_map]
      exact (hp j (by rw [List.length_map] at h1; exact h1)).2.1
    · obtain ⟨j, hj2, rfl⟩ := List.mem_iff_getElem.1 hm
      exact (hp j hj2).2.2.2.1
    · obtain ⟨j, hj2, rfl⟩ := List.mem_iff_getElem.1 hm
      exact (hp j hj2).2.2.2.2

theorem PsC.below {w w' : World} {A : Option Addr} {ps : List CP} (h : PsC w A ps) (hb : Below w.heap.size w w') : PsC w' A ps :=
  ⟨h.len, fun hl => by
    obtain ⟨b, o, hA, hlt, hc⟩ := h.cells hl
    exact ⟨b, o, hA, Nat.lt_of_lt_of_le hlt hb.size, fun j hj i hi => (hb.cell (p := ⟨b, o + j * 6 + i, none⟩) hlt).trans (hc j hj i hi)⟩,
    fun p hp => ((h.ins p hp).frame (w' := w') (fun b hb2 => hb.block b hb2)).mono (fun b hb2 => Nat.lt_of_lt_of_le hb2 hb.size), h.nms⟩

theorem addr_add (b o j : Nat) : (⟨b, o, none⟩ : Addr).add j = ⟨b, o + j, none⟩ := by unfold Addr.add; split <;> simp_all

theorem PsC.flat {w : World} {b o : Nat} {ps : List CP} (h : ∀ j (h : j < ps.length) i, i < 6 → w.cell? ⟨b, o + j * 6 + i, none⟩ = ps[j].cells[i]?) : ∀ (j : Nat) (u : Value), (flatCP ps)[j]? = some u → w.cell? ((⟨b, o, none⟩ : Addr).add j) = some u := by
  intro j u hu
  have hj : j < ps.length * 6 := by
    rcases Nat.lt_or_ge j (ps.length * 6) with h | h
    · exact h
    · rw [List.getElem?_eq_none (by rw [flatCP_len]; exact h)] at hu; cases hu
  have hq : j / 6 < ps.length := by omega
  have he : j = j / 6 * 6 + j % 6 := by omega
  have hadd := addr_add b o j
  have h1 := h (j / 6) hq (j % 6) (by omega)
  rw [← flatCP_get ps _ _ hq (by omega), ← he, hu, show o + j / 6 * 6 + j % 6 = o + j by omega] at h1
  rw [hadd]
  exact h1

end Go.Proofs.YtdncmjlakmkfiaaGreatDoor
/-
  WALKS: slices.Clone and Clip at properties; a list's copy in new memory.
-/
namespace Go.Proofs.YtdncmjlakmkfiaaGreatDoor
open Go.RowKit Go.Lib

theorem info_prop : (Tryz.prog.info? 47).map (fun i => (i.zero, i.size, i.bytes)) = some (some (.agg #[.string ByteArray.empty, .int .i64 0, .int .i64 0, .int .i64 0, .string ByteArray.empty, .slice none 0 0]), 6, 80) := by kernel_rfl

theorem step_append_n {K : Nat} {t e : TypeId} {i0 : TypeInfo} {z : Value} {ops : Array Oper} {o : Oper} {a : Act} {W : World} {KK : Act → World → Prop} {Q : Exit → Act → World → Prop} {E : Prop} (hgd : o.guard = none) (s x : Operand)
    (ho : o.op = .call { callee := .builtin .append, args := #[s, x], argTypes := #[t, t] }) (hty : o.type = t) (ht : Tryz.prog.underlying t = some (.slice e)) (hi : Tryz.prog.info? e = some i0) (hz0 : i0.zero = some z) (hz1 : i0.size = K) (hK : 0 < K) (hzs : z.cells.size = K) (hby : i0.bytes ≤ 1000)
    (base n q : Nat) (v : Value) (xs news : List Value) (g : Nat) (hs : a.eval s = v) (hown : OwnK K e W base v n xs) (hq : 0 < q) (hl : news.length = q * K) (h1 : ∀ u ∈ news, u.oneCell' = true)
    (hx : a.eval x = .slice (some ⟨g, 0, none⟩) q q) (hnews : ∀ j u, news[j]? = some u → W.cell? ((⟨g, 0, none⟩ : Addr).add j) = some u) (hn : n + q ≤ 1000000) (hbase : base ≤ W.heap.size)
    (h : ∀ v' w', OwnK K e w' base v' (n + q) (xs ++ news) → W.grownBy w' v.ownBlock → (v'.ownBlock = v.ownBlock ∨ ∃ g, v'.ownBlock = some g ∧ W.heap.size ≤ g) → KK (a.put o.dst v') w') :
    if Region.wanted o (yielded ops a.tmps) = true then Oper.wp Tryz.prog o a W KK Q else E := by
  have hw : Region.wanted o (yielded ops a.tmps) = true := by simp [Region.wanted, hgd]
  rw [if_pos hw]
  obtain ⟨v', w', hr, h2, h3, h4⟩ := run_append_m ht hi hz0 hz1 hK hzs hby hown hq hl hnews h1 hn hbase
  unfold Oper.wp execOp
  simp only [ho, resolve, invoke, builtin, Sem.run_bind, Sem.run_pure, Result.andThen_ok, List.map_toArray, List.map_cons, List.map_nil, hs, hx, hty, hr]
  exact h v' w' h2 h3 h4

theorem ownK_of_owns {w : World} {base : Nat} {e : TypeId} {K n : Nat} {v : Value} {xs : List Value} (h : w.ownsRow base e K v n xs) : OwnK K e w base v n xs := by
  obtain ⟨h1, h2⟩ := h
  rcases h2 with ⟨rfl, rfl⟩ | ⟨g, cap, cur, rfl, hb, hh, h3, h4, h5, h6⟩
  · exact ⟨h1, none, 0, rfl, Nat.le_refl _, by simp [maxLen], .inl ⟨rfl, rfl, rfl⟩⟩
  · exact ⟨h1, _, cap, rfl, h3, h4, .inr ⟨g, cur, rfl, hb, hh, by omega, h6⟩⟩

set_option maxHeartbeats 800000 in
theorem clipP_any (A : Option Addr) (n c : Nat) (w : World) (hn : n ≤ c) (hc : c ≤ maxLen) (h0 : A = none → c = 0) (hf : ∀ a, A = some a → ∃ g, a = ⟨g, 0, none⟩) :
    Calls Tryz.prog 40 #[.slice A n c] w fun e w' => e = .returned (.slice A n n) ∧ w' = w := by
  have hc' := hc
  unfold maxLen at hc'
  clear hc
  cases A with
  | none =>
    obtain rfl := h0 rfl
    obtain rfl : n = 0 := by omega
    go_enter Tryz.func40, Tryz.ntmps40
    go_wp2
    go_ret
    exact ⟨rfl, rfl⟩
  | some a =>
    obtain ⟨g, rfl⟩ := hf a rfl
    clear h0 hf
    go_enter Tryz.func40, Tryz.ntmps40
    go_wp2
    go_ret
    exact ⟨rfl, rfl⟩

theorem ownK_clip {K : Nat} {e : TypeId} {w : World} {base : Nat} {A : Option Addr} {n c : Nat} {xs : List Value} (h : OwnK K e w base (.slice A n c) n xs) : OwnK K e w base (.slice A n n) n xs ∧ n ≤ c ∧ c ≤ maxLen ∧ (A = none → c = 0) ∧ (∀ a, A = some a → ∃ g, a = ⟨g, 0, none⟩) := by
  obtain ⟨h0, A', c', hv, h1, h2, h3⟩ := h
  injection hv with e1 _ e3
  subst e1 e3
  refine ⟨⟨h0, A, n, rfl, Nat.le_refl _, by omega, ?_⟩, h1, h2, ?_, ?_⟩
  · rcases h3 with ⟨a, b, d⟩ | ⟨g, cur, a, b, d, f, k⟩
    · exact .inl ⟨a, b, b⟩
    · exact .inr ⟨g, cur, a, b, d, Nat.le_trans (Nat.mul_le_mul_right _ h1) f, k⟩
  · intro hA
    rcases h3 with ⟨a, b, d⟩ | ⟨g, cur, a, _⟩
    · exact d
    · rw [hA] at a; cases a
  · intro a hA
    rcases h3 with ⟨b, _⟩ | ⟨g, cur, b, _⟩
    · rw [hA] at b; cases b
    · rw [hA] at b; exact ⟨g, Option.some.inj b⟩

theorem Row6.clip {w : World} {base : Nat} {A : Option Addr} {n c : Nat} {ps : List CP} (h : Row6 w base (.slice A n c) ps) : n = ps.length ∧ Row6 w base (.slice A n n) ps ∧ n ≤ c ∧ c ≤ maxLen ∧ (A = none → c = 0) ∧ (∀ a, A = some a → ∃ g, a = ⟨g, 0, none⟩) := by
  obtain rfl := h.psAt.1
  obtain ⟨h1, h2⟩ := ownK_clip h.own
  exact ⟨rfl, ⟨h1, fun p hp => (h.ins p hp).mono (fun b hb => ⟨hb.1, fun e => hb.2 (by cases A with | none => exact e | some a => exact e)⟩), h.nms⟩, h2⟩

/-- A list's own copy, items where they were. -/
def RowOut (ps : List CP) (w : World) (e : Ending) (w' : World) : Prop := ∃ A c, e = .returned (.slice A ps.length c) ∧ Row6 w' w.heap.size (.slice A ps.length c) ps ∧ Below w.heap.size w w'

set_option maxHeartbeats 1600000 in
theorem clonePs_any (A : Option Addr) (c : Nat) (ps : List CP) (w : World) (hA : PsC w A ps) (hlen : ps.length ≤ 5000) :
    Calls Tryz.prog 90 #[.slice A ps.length c] w (RowOut ps w) := by
  have qT : ∀ (w : World) (a : Option Addr) (n c n' c' : Nat), (binOp .eql 30 (.slice a n c) (.slice none n' c')).run Tryz.prog w = .ok (.bool a.isNone) w := fun w a n c n' c' => Lib.run_eql_slice_nil w _ _ a n c n' c' Tryz.underlying30
  cases A with
  | none =>
    have h0 : ps = [] := by
      rcases Nat.eq_zero_or_pos ps.length with h | h
      · exact List.length_eq_zero_iff.1 h
      · obtain ⟨b, o, hb, _⟩ := hA.cells h
        cases hb
    subst h0
    go_enter Tryz.func90, Tryz.ntmps90
    go_wp2
    go_ret
    exact ⟨none, 0, rfl, row6_nil, Below.refl _ _⟩
  | some a =>
    have hown : (w.alloc (.cells #[] 47)).ownsRow w.heap.size 47 6 (.slice (some ⟨w.heap.size, 0, none⟩) 0 0) 0 [] :=
      ⟨rfl, .inr ⟨w.heap.size, 0, #[], rfl, Nat.le_refl _, heap_alloc_new w _, Nat.le_refl _, by simp [maxLen], rfl, rfl⟩⟩
    have hnews : ∀ (j : Nat) (u : Value), (flatCP ps)[j]? = some u → (w.alloc (.cells #[] 47)).cell? (a.add j) = some u := by
      intro j u hu
      by_cases hx : 0 < ps.length
      · obtain ⟨b, off, hab, hb, hc⟩ := (hA.below (bl_alloc (Below.refl _ _) (.cells #[] 47))).cells hx
        injection hab with hab
        subst hab
        exact PsC.flat hc j u hu
      · obtain rfl : ps = [] := List.length_eq_zero_iff.1 (by omega)
        simp [flatCP] at hu
    obtain ⟨i0, hi, hz0, hz1, hz2⟩ := info_parts info_prop
    have HO := hide hown
    have HN := hide hnews
    have HI := hide hA.ins
    have HM := hide hA.nms
    clear hown hnews hA
    go_enter Tryz.func90, Tryz.ntmps90
    go_wp2_with (at_builtin; refine wpList_append_own _ rfl (.tmp 5) (.tmp 6) 30 rfl w.heap.size 47 i0 (.agg #[.string ByteArray.empty, .int .i64 0, .int .i64 0, .int .i64 0, .string ByteArray.empty, .slice none 0 0]) 6 80 Tryz.underlying30 hi hz0 hz1 hz2 rfl (by decide) _ 0 [] rfl HO.out a ps.length c (flatCP ps) rfl (flatCP_len ps) HN.out (flatCP_one ps) ?c1 ?c2 ?c3 ?_)
    case c1 => unfold maxLen; omega
    case c2 => omega
    case c3 => simp
    intro v' w1 hown1 hgrow1 _
    have hbw : Below w.heap.size w w1 := (Below.alloc (Below.refl _ _) (Nat.le_refl _) _).grown hgrow1 (by simp) (fun k hk => by simp [Value.ownBlock] at hk; omega)
    have hok := ownK_of_owns hown1
    obtain ⟨A1, c1, rfl, _⟩ := ownK_form hok
    have HF : RowOut ps w (.returned (.slice A1 ps.length c1)) w1 := ⟨A1, c1, rfl, ⟨hok, fun p hp => ((HI.out p hp).frame (fun b hb => hbw.block b hb)).mono (fun b hb => ⟨Nat.lt_of_lt_of_le hb hbw.size, fun e => by have := (hok.lt b e).1; omega⟩), HM.out⟩, hbw⟩
    have HFF := hide HF
    clear HF hown1 hgrow1 hbw hok
    go_wp2
    go_ret
    exact HFF.out

end Go.Proofs.YtdncmjlakmkfiaaGreatDoor
/-
  WALK: a list of properties copied into new memory.
-/
namespace Go.Proofs.YtdncmjlakmkfiaaGreatDoor
open Go.RowKit Go.Lib

theorem Row6.push {W w1 : World} {base : Nat} {v v' : Value} {ps : List CP} {p : CP} (h : Row6 W base v ps) (hg : W.grownBy w1 v.ownBlock) (hf : v'.ownBlock = v.ownBlock ∨ ∃ g, v'.ownBlock = some g ∧ W.heap.size ≤ g)
    (ho : OwnK 6 47 w1 base v' (ps.length + 1) (flatCP ps ++ p.cells)) (hp : LIn W (fun b => b < W.heap.size ∧ v.ownBlock ≠ some b) p.q.A p.q.x.l) (hn : p.n.size ≤ maxLen) : Row6 w1 base v' (ps ++ [p]) := by
  have hfl : flatCP (ps ++ [p]) = flatCP ps ++ p.cells := by rw [flatCP_append]; simp [flatCP]
  refine ⟨by rw [hfl, List.length_append]; exact ho, fun x hx => ?_, fun x hx => ?_⟩
  · have hx2 : LIn W (fun b => b < W.heap.size ∧ v.ownBlock ≠ some b) x.q.A x.q.x.l := by
      rcases List.mem_append.1 hx with hx | hx
      · exact h.ins x hx
      · rw [List.mem_singleton.1 hx]; exact hp
    refine (hx2.frame (w' := w1) (fun b hb => hg.block b hb.1 (fun e => hb.2 e.symm))).mono (fun b hb => ⟨Nat.lt_of_lt_of_le hb.1 hg.size, fun e => ?_⟩)
    rcases hf with hf | ⟨g, hf, hg2⟩
    · exact hb.2 (hf.symm.trans e)
    · rw [hf] at e
      obtain rfl := Option.some.inj e
      have := hb.1
      omega
  · rcases List.mem_append.1 hx with hx | hx
    · exact h.nms x hx
    · rw [List.mem_singleton.1 hx]; exact hn

/-- What CopyProps hands back. -/
def CopyPsOut (l : List PR) (w : World) (e : Ending) (w' : World) : Prop := ∃ A qs, e = .returned (.slice A l.length l.length) ∧ qs.map CP.pr = l ∧ Row6 w' w.heap.size (.slice A l.length l.length) qs ∧ Below w.heap.size w w'

set_option maxHeartbeats 6400000 in
set_option maxRecDepth 100000 in
theorem copyProps_any (A : Option Addr) (c : Nat) (ps : List CP) (w : World) (hA : PsC w A ps) (hlen : ps.length ≤ 5000) (hfit : ∀ p ∈ ps, p.q.x.fits) :
    Calls Tryz.prog 51 #[.slice A ps.length c] w (CopyPsOut (ps.map CP.pr) w) := by
  have HPO : Hid (∀ A qs w', qs.map CP.pr = ps.map CP.pr → Row6 w' w.heap.size (.slice A ps.length ps.length) qs → Below w.heap.size w w' → CopyPsOut (ps.map CP.pr) w (.returned (.slice A ps.length ps.length)) w') := hide fun A qs w' h1 h2 h3 => ⟨A, qs, by rw [List.length_map], h1, by rw [List.length_map]; exact h2, h3⟩
  generalize CopyPsOut (ps.map CP.pr) w = PO at *
  obtain ⟨iP, hiP, hzP0, hzP1, hzP2⟩ := info_parts info_prop
  have HIP := hide (And.intro hiP (And.intro hzP0 (And.intro hzP1 hzP2)))
  have HA := hide hA
  have HF := hide hfit
  clear hiP hzP0 hzP1 hzP2 hA hfit
  go_enter Tryz.func51, Tryz.ntmps51
  go_wp2
  go_loopw [3, 8] (fun v i' wr => ∃ (q : Nat) (A' : Option Addr) (c' : Nat) (os : Array Obj) (n : Nat) (qs : List CP), q ≤ ps.length ∧ i' = .int .i64 q ∧ v = .slice A' q c' ∧ Hid (qs.map CP.pr = (ps.take q).map CP.pr) ∧ Hid (Row6 wr w.heap.size (.slice A' q c') qs) ∧ wr = plus w os n) (fun _ i _ => ps.length - (intOf i).toNat)
  case atStart => exact ⟨0, none, 0, #[], _, [], Nat.zero_le _, rfl, rfl, hide rfl, hide row6_nil, plus_nil.symm⟩
  case round =>
    obtain ⟨q, A', c', os, n, qs, hq, rfl, rfl, HQ, HR, rfl⟩ := hrel
    by_cases hlt : q < ps.length
    · obtain ⟨b, o, rfl, hb, hcell⟩ := HA.out.cells (by omega)
      have c0 := hcell q hlt 0 (by omega)
      have c1 := hcell q hlt 1 (by omega)
      have c2 := hcell q hlt 2 (by omega)
      have c3 := hcell q hlt 3 (by omega)
      have c4 := hcell q hlt 4 (by omega)
      have c5 := hcell q hlt 5 (by omega)
      have hins := HA.out.ins ps[q] (List.getElem_mem hlt)
      have hnm := HA.out.nms ps[q] (List.getElem_mem hlt)
      have hft := HF.out ps[q] (List.getElem_mem hlt)
      have HTK := hide (show (ps.take (q + 1)).map CP.pr = (ps.take q).map CP.pr ++ [ps[q].pr] by rw [List.take_succ_eq_append_getElem hlt, List.map_append]; rfl)
      have i1 : (q : Int) < (ps.length : Int) := by omega
      clear hcell
      generalize ps[q] = x at *
      obtain ⟨nm, ⟨xv, A2, e2⟩⟩ := x
      obtain ⟨xk, xi, xt, xs, xl⟩ := xv
      dsimp only [CP.cells, CVal.cells, V.k, V.i, V.t, V.s, V.l] at c0 c1 c2 c3 c4 c5 hins hnm
      simp only [List.getElem?_cons_zero, List.getElem?_cons_succ, Nat.add_zero] at c0 c1 c2 c3 c4 c5
      have HCC := hide (fun W (hbw : Below w.heap.size w W) => copyValue_any (.mk xk xi xt xs xl) hft A2 e2 W (LIn.at_ ((hins.frame (w' := W) (fun b hb => hbw.block b hb)).mono (fun b hb => Nat.lt_of_lt_of_le hb hbw.size)) (fun b hb => hb)))
      have HNM := hide hnm
      unfold CopyOut at HCC
      simp only [V.arg, V.k, V.i, V.t, V.s, V.l] at HCC
      clear hins hnm hft
      have hql : qs.length = q := by have := congrArg List.length HQ.out; rw [List.length_map, List.length_map, List.length_take] at this; omega
      have HQL := hide hql
      clear hql
      go_wp2
      have HBW := hide (show Below w.heap.size w ((plus w os n).alloc (.cells #[.string nm, .int .i64 xk, .int .i64 xi, .int .i64 xt, .string xs, .slice A2 xl.length e2] 47)) from (by repeat (first | exact Below.refl _ _ | refine bl_plus ?_ | refine bl_alloc ?_ _ | refine bl_drew ?_ | refine bl_drewN ?_ _)))
      have hblk := Blk.new (plus w os n) 47 #[.string nm, .int .i64 xk, .int .i64 xi, .int .i64 xt, .string xs, .slice A2 xl.length e2]
      have HR2 := hide (HR.out.below (bl_alloc (Below.refl _ _) (.cells #[.string nm, .int .i64 xk, .int .i64 xi, .int .i64 xt, .string xs, .slice A2 xl.length e2] 47)))
      have hgs : (plus w os n).heap.size = w.heap.size + os.size := plus_size
      rw [hgs] at hblk
      have v0 := hblk.cell 0
      have v1 := hblk.cell 1
      have v2 := hblk.cell 2
      have v3 := hblk.cell 3
      have v4 := hblk.cell 4
      have v5 := hblk.cell 5
      have hg6 := hblk.lt
      clear hgs hblk
      generalize ((plus w os n).alloc (.cells #[.string nm, .int .i64 xk, .int .i64 xi, .int .i64 xt, .string xs, .slice A2 xl.length e2] 47)) = V at *
      generalize w.heap.size + os.size = g6 at *
      have HVS := hide HBW.out.size
      go_region_law (first
        | ((refine step_append_n rfl (.tmp 12) (.tmp 19) rfl rfl Tryz.underlying30 HIP.out.1 HIP.out.2.1 HIP.out.2.2.1 (by decide) rfl (by have := HIP.out.2.2.2; omega) w.heap.size q 1 (.slice A' q c') (flatCP qs) [.string nm, .int .i64 xk, .int .i64 xi, .int .i64 xt, .string xs, .slice A3 xl.length xl.length] _ rfl (ownK_alloc (by have := HR3.out.own; rwa [HQL.out] at this) _) (by decide) rfl (by intro u hu; simp only [List.mem_cons, List.not_mem_nil, or_false] at hu; rcases hu with rfl | rfl | rfl | rfl | rfl | rfl <;> rfl) rfl (newN_cells (cs := [_, _, _, _, _, _]) (by simp only [World.size_alloc, plus_size, World.drew])) (by omega) (by have h1 := HVS.out; have h2 := HB3.out.size; simp only [World.size_alloc]; omega) ?_); (intro v' w1 hown1 hgr1 hfr1); (obtain ⟨A1, c9, rfl, _⟩ := ownK_form hown1); (have HN := hide hown1); (have HGR := hide hgr1); (have HFR := hide hfr1); (clear hown1 hgr1 hfr1))
        | (go_simp; go_at_call 16; refine (HCC.out _ ?hbw).mono ?_; (case hbw => exact bl_drew HBW.out); rintro e w' ⟨A3, rfl, hA3, hl3, hbl⟩; have HL3 := hide hl3; have HR3 := hide (HR2.out.below (bl_trans (bl_drew (Below.refl _ _)) hbl)); have HB3 := hide (bl_trans (bl_drew (Below.refl _ _)) hbl); have vv0 := (HB3.out.cell (p := ⟨g6, 0, none⟩) hg6).trans v0; clear hA3 hl3 hbl))
      all_goals (
        have hrow := Row6.push (p := ⟨nm, ⟨.mk xk xi xt xs xl, A3, xl.length⟩⟩) (HR3.out.below (bl_alloc (Below.refl _ _) (.cells #[.string nm, .int .i64 xk, .int .i64 xi, .int .i64 xt, .string xs, .slice A3 xl.length xl.length] 47))) HGR.out HFR.out (by rw [HQL.out]; exact HN.out)
          ((HL3.out.frame (fun b hb => Below.heap_alloc _ _ b hb.2)).mono (fun b hb => ⟨by rw [World.size_alloc]; omega, fun e => by
            have h1 := (HR2.out.own.lt b e).2
            have h2 := hb.1
            simp only [World.drew] at h2
            omega⟩)) HNM.out
        obtain ⟨os9, n9, hw1⟩ := grown_plus (L := w) (bl_alloc (bl_trans HBW.out HB3.out) _) HGR.out (fun k hk => (HR2.out.own.lt k hk).1)
        have HROW := hide hrow
        subst hw1
        clear hrow
        go_wp2
        go_roundw
        case rel => exact ⟨q + 1, A1, c9, os9, n9, qs ++ [⟨nm, ⟨.mk xk xi xt xs xl, A3, xl.length⟩⟩], hlt, by go_num, rfl, hide (by rw [List.map_append, HQ.out, HTK.out]; rfl), HROW, rfl⟩
        case measure => simp [intOf]; omega)
    · have hkl : q = ps.length := by omega
      subst hkl
      obtain ⟨hql, hrow, hqc, hcm, hnil, hoff⟩ := HR.out.clip
      have HQ2 := hide (show qs.map CP.pr = ps.map CP.pr by have := HQ.out; rwa [List.take_length] at this)
      have HRW := hide hrow
      have HCL := hide (fun W => clipP_any A' ps.length c' W hqc hcm hnil hoff)
      clear hql hrow hqc hcm hnil hoff HR HQ HA
      go_wp2_with (go_at_call 40; refine (HCL.out _).mono ?_; rintro e w' ⟨rfl, rfl⟩)
      exact HPO.out _ _ _ HQ2.out HRW.out (by repeat (first | exact Below.refl _ _ | refine bl_plus ?_ | refine bl_alloc ?_ _ | refine bl_drew ?_ | refine bl_drewN ?_ _))

end Go.Proofs.YtdncmjlakmkfiaaGreatDoor
