/-
  ROWS: strings appended to a row all of whose cells are strings; what lies elsewhere stays; two rows side by side.
-/
import Derived.Test.YtdncmjlakmkfiaaGreatDoorMgk
set_option linter.all false
namespace Go.Proofs.YtdncmjlakmkfiaaGreatDoor
open Go.RowKit

/-- A value that is a string. -/
def IsS (u : Value) : Prop := ∃ s, u = .string s

/-- A row of strings that the call owns, of whose block every cell is a string. -/
def OwnS (e : TypeId) (w : World) (base : Nat) (v : Value) (n : Nat) (xs : List Value) : Prop := OwnK 1 e w base v n xs ∧ ∀ g cur fz, v.ownBlock = some g → w.heap[g]? = some (.cells cur e fz) → ∀ u ∈ cur.toList, IsS u

theorem OwnS.empty {e : TypeId} {w : World} {base : Nat} : OwnS e w base (.slice none 0 0) 0 [] := ⟨OwnK.empty, fun g cur fz h => by cases h⟩

theorem OwnS.kept {e : TypeId} {w w' : World} {base : Nat} {v : Value} {n : Nat} {xs : List Value} (h : OwnS e w base v n xs) (hh : ∀ k, v.ownBlock = some k → w'.heap[k]? = w.heap[k]?) : OwnS e w' base v n xs :=
  ⟨h.1.kept hh, fun g cur fz hg hb => h.2 g cur fz hg (by rw [← hh g hg]; exact hb)⟩

theorem OwnS.below {e : TypeId} {w w' : World} {base : Nat} {v : Value} {n : Nat} {xs : List Value} (h : OwnS e w base v n xs) (hb : Below w.heap.size w w') : OwnS e w' base v n xs := h.kept fun k hk => hb.block k (h.1.lt k hk).2

theorem zero_strings {z : Value} (hz : z.cells = #[z]) (hs : IsS z) (n : Nat) : ∀ u ∈ (Builtin.zeroCells z.cells n).toList, IsS u := by
  intro u hu
  rw [hz] at hu
  simp only [Builtin.zeroCells, Array.toList_map, List.mem_map] at hu
  obtain ⟨j, -, rfl⟩ := hu
  have : j % (#[z] : Array Value).size = 0 := Nat.mod_one j
  rw [this]
  exact hs

/-- No cell of such a row's block is a number. -/
theorem OwnS.no_int {e : TypeId} {w : World} {base : Nat} {v : Value} {n : Nat} {xs : List Value} (h : OwnS e w base v n xs) {b o : Nat} {k : Int} (hc : w.cell? ⟨b, o, none⟩ = some (.int .i64 k)) : v.ownBlock ≠ some b := fun hv => by
  obtain ⟨⟨-, A, c, rfl, -, -, h3⟩, h2⟩ := h
  rcases h3 with ⟨rfl, -⟩ | ⟨g, cur, rfl, -, hb, -⟩
  · cases hv
  · obtain rfl : g = b := by injection hv
    have h4 := h2 g cur (0, 0) rfl hb
    rw [cell_of_row w g o cur _ (0, 0) hb] at hc
    obtain ⟨s, hs⟩ := h4 _ (Array.mem_toList_iff.2 (Array.mem_of_getElem? hc))
    cases hs

set_option maxRecDepth 100000 in
theorem run_append_s {t e : TypeId} {i0 : TypeInfo} {z : Value} {W : World} {base n : Nat} {v : Value} {xs : List Value} {y : Value} {ad : Addr} (ht : Tryz.prog.underlying t = some (.slice e)) (hi : Tryz.prog.info? e = some i0) (hz0 : i0.zero = some z) (hz1 : i0.size = 1) (hzs : z.cells = #[z]) (hzS : IsS z)
    (hby : i0.bytes ≤ 1000) (h : OwnS e W base v n xs) (hnews : W.cell? ad = some y) (h1 : y.oneCell' = true) (hyS : IsS y) (hn : (n + 1) * i0.bytes ≤ 140737488355328 ∧ n + 1 ≤ 140737488355328) (hbase : base ≤ W.heap.size) :
    ∃ v' w', (Builtin.append_ #[t, t] t #[v, .slice (some ad) 1 1]).run Tryz.prog W = .ok v' w' ∧ OwnS e w' base v' (n + 1) (xs ++ [y]) ∧ W.grownBy w' v.ownBlock ∧ (v'.ownBlock = v.ownBlock ∨ ∃ g, v'.ownBlock = some g ∧ W.heap.size ≤ g) := by
  obtain ⟨hmul, hn⟩ := hn
  obtain ⟨⟨hxl, A, c, rfl, hc1, hc2, h3⟩, hS⟩ := h
  have hz9 := zero_strings hzs hzS
  have hzs1 : z.cells.size = 1 := by rw [hzs]; rfl
  have hlen : (xs ++ [y]).length = (n + 1) * 1 := by rw [List.length_append, hxl]; simp
  have hnews : ∀ j u, [y][j]? = some u → W.cell? (ad.add j) = some u := by
    intro j u hj
    match j, hj with
    | 0, hj =>
      have h9 : ad.add 0 = ad := by unfold Addr.add; split <;> simp_all
      rw [h9, hnews]; exact hj
  have h1 : ∀ u ∈ [y], u.oneCell' = true := fun u hu => by rw [List.mem_singleton.1 hu]; exact h1
  have hnS : ∀ u ∈ [y], IsS u := fun u hu => by rw [List.mem_singleton.1 hu]; exact hyS
  rcases h3 with ⟨rfl, rfl, rfl⟩ | ⟨g, cur, rfl, hg, hb, h4, h5⟩
  · have hns : xs = [] := List.length_eq_zero_iff.1 (by simpa using hxl)
    subst hns
    have hr := run_append_nil (P := Tryz.prog) W t t e i0 z ht hi hz0 ad 1 1 [y] (by rw [hz1]; simp) hnews (by omega) (by omega) (by have := hby; omega)
    have hge := grownCap_ge W 1 0 e
    have hcm : grownCap W 1 0 e ≤ maxLen := grownCap_le_maxLen W 1 0 e (by unfold maxLen; omega)
    refine ⟨_, _, hr, ⟨⟨hlen, some ⟨W.heap.size, 0, none⟩, _, rfl, by simpa using hge, hcm, .inr ⟨W.heap.size, _, rfl, hbase, heap_alloc_new W.drew _, ?_, ?_⟩⟩, ?_⟩, ⟨rfl, rfl, rfl, by simp, fun k hk _ => Below.heap_alloc W.drew _ k hk⟩, .inr ⟨_, rfl, Nat.le_refl _⟩⟩
    · simp only [Array.size_append, List.size_toArray, size_zeroCells, hzs1, List.length_singleton]
      generalize grownCap W 1 0 e = G at hge
      omega
    · simp
    · intro g cur fz hg9 hb9 u hu
      obtain rfl : g = W.heap.size := by injection hg9 with hg9; exact hg9.symm
      have hb9 := (heap_alloc_new W.drew _).symm.trans hb9
      injection hb9 with hb9
      injection hb9 with hb9
      rw [← hb9, Array.toList_append, List.mem_append] at hu
      rcases hu with hu | hu
      · exact hnS u (by simpa using hu)
      · exact hz9 _ u hu
  · by_cases hroom : n + 1 ≤ c
    · have hfit : n * i0.size + [y].length ≤ cur.size := by
        rw [hz1]
        simp only [List.length_singleton]
        omega
      have hr := run_append_room (P := Tryz.prog) W t t e i0 ht hi g n c cur hb ad 1 1 [y] (by rw [hz1]; simp) hnews h1 hroom hfit
      refine ⟨_, _, hr, ⟨⟨hlen, some ⟨g, 0, none⟩, c, rfl, hroom, hc2, .inr ⟨g, _, rfl, hg, setRow_heap W g cur _ _ _ hb, ?_, ?_⟩⟩, ?_⟩, ⟨rfl, rfl, rfl, by simp, fun k _ hk => setRow_other W g k _ (fun e => hk (by simp [Value.ownBlock, e]))⟩, .inl rfl⟩
      · simp only [List.size_toArray, List.length_append, List.length_take, List.length_drop, Array.length_toList]
        rw [hz1] at hfit ⊢
        simp only [List.length_singleton] at hfit ⊢
        omega
      · rw [hz1, h5, ← hlen]
        exact List.take_left
      · intro g9 cur9 fz hg9 hb9 u hu
        obtain rfl : g = g9 := by injection hg9
        rw [setRow_heap W g cur _ _ _ hb] at hb9
        injection hb9 with hb9
        injection hb9 with hb9
        have hcur := hS g cur (0, 0) rfl hb
        rw [← hb9] at hu
        simp only [List.mem_append] at hu
        rcases hu with (hu | hu) | hu
        · exact hcur u (List.mem_of_mem_take hu)
        · exact hnS u hu
        · exact hcur u (List.mem_of_mem_drop hu)
    · have holds : ∀ j u, xs[j]? = some u → W.cell? ((⟨g, 0, none⟩ : Addr).add j) = some u := by
        intro j u hj
        have hadd : (⟨g, 0, none⟩ : Addr).add j = ⟨g, j, none⟩ := by unfold Addr.add; split <;> simp_all
        rw [hadd, cell_of_row W g j cur _ (0, 0) hb]
        rw [← h5, List.getElem?_take] at hj
        split at hj
        · simpa using hj
        · cases hj
      have hr := run_append_grow (P := Tryz.prog) W t t e i0 z ht hi hz0 ⟨g, 0, none⟩ n c xs (by rw [hz1]; exact hxl) holds ad 1 1 [y] (by rw [hz1]; simp) hnews (by omega) (by omega) (growslice_fits (by omega) hmul)
      have hge := grownCap_ge W (n + 1) c e
      have hcm : grownCap W (n + 1) c e ≤ maxLen := grownCap_le_maxLen W (n + 1) c e (by unfold maxLen; omega)
      refine ⟨_, _, hr, ⟨⟨hlen, some ⟨W.heap.size, 0, none⟩, _, rfl, hge, hcm, .inr ⟨W.heap.size, _, rfl, hbase, heap_alloc_new W.drew _, ?_, ?_⟩⟩, ?_⟩, ⟨rfl, rfl, rfl, by simp, fun k hk _ => Below.heap_alloc W.drew _ k hk⟩, .inr ⟨_, rfl, Nat.le_refl _⟩⟩
      · simp only [Array.size_append, List.size_toArray, size_zeroCells, hzs1, hxl, List.length_singleton]
        generalize grownCap W (n + 1) c e = G at hge
        omega
      · simp only [Array.toList_append]
        rw [← hlen]
        exact List.take_left
      · intro g9 cur9 fz hg9 hb9 u hu
        obtain rfl : g9 = W.heap.size := by injection hg9 with hg9; exact hg9.symm
        have hb9 := (heap_alloc_new W.drew _).symm.trans hb9
        injection hb9 with hb9
        injection hb9 with hb9
        have hcur := hS g cur (0, 0) rfl hb
        rw [← hb9, Array.toList_append, List.mem_append] at hu
        rcases hu with hu | hu
        · simp only [List.mem_append, Array.toList_append] at hu
          rcases hu with hu | hu
          · rw [← h5] at hu; exact hcur u (List.mem_of_mem_take hu)
          · exact hnS u hu
        · exact hz9 _ u hu

/-- .. in a walk. -/
theorem wpList_append_s {t e : TypeId} {i0 : TypeInfo} {z : Value} {ops : Array Oper} {rest : List Oper} {o : Oper} {a : Act} {W : World} {Q : Exit → Act → World → Prop} (hgd : o.guard = none) (s x : Operand)
    (ho : o.op = .call { callee := .builtin .append, args := #[s, x], argTypes := #[t, t] }) (hty : o.type = t) (ht : Tryz.prog.underlying t = some (.slice e)) (hi : Tryz.prog.info? e = some i0) (hz0 : i0.zero = some z) (hz1 : i0.size = 1) (hzs : z.cells = #[z]) (hzS : IsS z) (hby : i0.bytes ≤ 1000)
    (base n : Nat) (v : Value) (xs : List Value) (y : Value) (g : Nat) (hs : a.eval s = v) (hown : OwnS e W base v n xs) (h1 : y.oneCell' = true) (hyS : IsS y)
    (hx : a.eval x = .slice (some ⟨g, 0, none⟩) 1 1) (hnews : W.cell? ⟨g, 0, none⟩ = some y) (hn : (n + 1) * i0.bytes ≤ 140737488355328 ∧ n + 1 ≤ 140737488355328) (hbase : base ≤ W.heap.size)
    (h : ∀ v' w', OwnS e w' base v' (n + 1) (xs ++ [y]) → W.grownBy w' v.ownBlock → (v'.ownBlock = v.ownBlock ∨ ∃ g, v'.ownBlock = some g ∧ W.heap.size ≤ g) → wpList Tryz.prog ops Q rest (a.put o.dst v') w') :
    wpList Tryz.prog ops Q (o :: rest) a W := by
  refine wpList_plain hgd fun K' hK' => ?_
  obtain ⟨v', w', hr, h2, h3, h4⟩ := run_append_s ht hi hz0 hz1 hzs hzS hby hown hnews h1 hyS hn hbase
  unfold Oper.wp execOp
  simp only [ho, resolve, invoke, builtin, Sem.run_bind, Sem.run_pure, Result.andThen_ok, List.map_toArray, List.map_cons, List.map_nil, hs, hx, hty, hr]
  exact hK' _ _ (h v' w' h2 h3 h4)

/-- Where values lie: in blocks that have a number. -/
def HasI (w : World) (b : Nat) : Prop := b < w.heap.size ∧ ∃ o k, w.cell? ⟨b, o, none⟩ = some (.int .i64 k)

theorem VIn_int {w : World} : ∀ (v : V) (b o : Nat), VAt w v b o → VIn w (HasI w) v b o
  | .mk k i t s l, b, o, h => by
    rw [VAt] at h
    rw [VIn]
    obtain ⟨h0, h1, h2, h3, A, c, h4, h5, h6⟩ := h
    refine ⟨h0, h1, h2, h3, A, c, h4, h5, fun hl => ?_⟩
    obtain ⟨b', o', hA, hb', hj⟩ := h6 hl
    exact ⟨b', o', hA, ⟨hb', _, _, (VAt_iff.1 (hj 0 hl)).1⟩, fun j h => VIn_int l[j] b' _ (hj j h)⟩
termination_by v => SizeOf.sizeOf v
decreasing_by
  have := List.sizeOf_lt_of_mem (List.getElem_mem h)
  simp only [V.mk.sizeOf_spec]
  omega

theorem LIn_int {w : World} {A : Option Addr} {l : List V} (h : LAt w A l) : LIn w (HasI w) A l :=
  ⟨h.1, fun hl => by
    obtain ⟨b', o', hA, hb', hj⟩ := h.2 hl
    exact ⟨b', o', hA, ⟨hb', _, _, (VAt_iff.1 (hj 0 hl)).1⟩, fun j h => VIn_int l[j] b' _ (hj j h)⟩⟩
section
variable {w w' : World} (hg : ∀ b, HasI w b → w'.heap[b]? = w.heap[b]?) (hs : w.heap.size ≤ w'.heap.size)
include hg hs

theorem lAt_int {A : Option Addr} {l : List V} (h : LAt w A l) : LAt w' A l := ((LIn_int h).frame hg).at_ (fun b hb => Nat.lt_of_lt_of_le hb.1 hs)

theorem psAt_int {A : Option Addr} {l : List PR} (h : PsAt w A l) : PsAt w' A l := by
  refine ⟨h.1, fun hl => ?_⟩
  obtain ⟨b', o', hA, hb', hj⟩ := h.2 hl
  have hb9 : w'.heap[b']? = w.heap[b']? := hg b' ⟨hb', _, _, ((hj 0 hl).cells).2.2.1⟩
  have hk : ∀ i, w'.cell? ⟨b', i, none⟩ = w.cell? ⟨b', i, none⟩ := fun i => World.cell?_of_block (w := w) hb9
  refine ⟨b', o', hA, Nat.lt_of_lt_of_le hb' hs, fun j h => ?_⟩
  obtain ⟨h0, h1, h2, h3, h4, h5, A', c', h6, h7⟩ := (hj j h).cells
  exact ⟨(hk _).trans h0, h1, VAt_iff.2 ⟨(hk _).trans h2, (hk _).trans h3, (hk _).trans h4, (hk _).trans h5, A', c', (hk _).trans h6, lAt_int hg hs h7⟩⟩
end

/-- .. are as they were when strings are appended. -/
theorem OwnS.hasI {e : TypeId} {w w' : World} {base : Nat} {v : Value} {n : Nat} {xs : List Value} (h : OwnS e w base v n xs) (hg : w.grownBy w' v.ownBlock) : ∀ b, HasI w b → w'.heap[b]? = w.heap[b]? := fun b ⟨hb, _, _, hc⟩ => hg.block b hb (fun e9 => h.no_int hc e9.symm)

theorem mem_size {w : World} {A : Option Addr} {l : List PR} (h : PsAt w A l) : ∀ p ∈ l, p.n.size ≤ maxLen := by
  intro p hp
  obtain ⟨j, hj, rfl⟩ := List.getElem_of_mem hp
  obtain ⟨b', o', hA, hb', hj2⟩ := h.2 (by omega)
  exact (hj2 j hj).2.1

theorem names_size {w : World} {A0 A1 A2 : Option Addr} {B A C : List PR} (h0 : PsAt w A0 B) (h1 : PsAt w A1 A) (h2 : PsAt w A2 C) : ∀ x ∈ allNames B A C, x.size ≤ maxLen := by
  intro x hx
  obtain ⟨p, hp, rfl⟩ := List.mem_map.1 hx
  rw [List.mem_append, List.mem_append] at hp
  rcases hp with hp | hp | hp
  · exact mem_size h0 p hp
  · exact mem_size h1 p hp
  · exact mem_size h2 p hp

theorem info_str : (Tryz.prog.info? 9).map (fun i => (i.zero, i.size, i.bytes)) = some (some (.string ByteArray.empty), 1, 16) := by kernel_rfl

/-- A row of properties and a row of strings, apart from each other. -/
structure MR (w : World) (base : Nat) (v v2 : Value) (ps : List CP) (cl : List ByteArray) : Prop where
  own : OwnK 6 47 w base v ps.length (flatCP ps)
  own2 : OwnK 1 9 w base v2 cl.length (strV cl)
  ins : ∀ p ∈ ps, LIn w (fun b => b < w.heap.size ∧ v.ownBlock ≠ some b ∧ v2.ownBlock ≠ some b) p.q.A p.q.x.l
  nms : ∀ p ∈ ps, p.n.size ≤ maxLen
  apart : ∀ b, v.ownBlock = some b → v2.ownBlock ≠ some b
section
variable {w w' : World} {base : Nat} {v v' v2 : Value} {ps : List CP} {cl : List ByteArray}

theorem mr_nil : MR w base (.slice none 0 0) (.slice none 0 0) [] [] := ⟨OwnK.empty, OwnK.empty, fun _ h => (by cases h), fun _ h => (by cases h), fun b h => (by cases h)⟩

theorem MR.below (h : MR w base v v2 ps cl) (hb : Below w.heap.size w w') : MR w' base v v2 ps cl :=
  ⟨ownK_below h.own hb, ownK_below h.own2 hb, fun p hp => ((h.ins p hp).frame (w' := w') (fun b hb2 => hb.block b hb2.1)).mono (fun b hb2 => ⟨Nat.lt_of_lt_of_le hb2.1 hb.size, hb2.2⟩), h.nms, h.apart⟩

theorem MR.row6 (h : MR w base v v2 ps cl) : Row6 w base v ps := ⟨h.own, fun p hp => (h.ins p hp).mono (fun b hb => ⟨hb.1, hb.2.1⟩), h.nms⟩

theorem MR.push {p : CP} (h : MR w base v v2 ps cl) (hg : w.grownBy w' v.ownBlock) (hf : v'.ownBlock = v.ownBlock ∨ ∃ g, v'.ownBlock = some g ∧ w.heap.size ≤ g)
    (ho : OwnK 6 47 w' base v' (ps.length + 1) (flatCP ps ++ p.cells)) (hp : LIn w (fun b => b < w.heap.size ∧ v.ownBlock ≠ some b ∧ v2.ownBlock ≠ some b) p.q.A p.q.x.l) (hn : p.n.size ≤ maxLen) : MR w' base v' v2 (ps ++ [p]) cl := by
  have hfl : flatCP (ps ++ [p]) = flatCP ps ++ p.cells := by rw [flatCP_append]; simp [flatCP]
  refine ⟨by rw [hfl, List.length_append]; exact ho, h.own2.kept (fun k hk => hg.block k (h.own2.lt k hk).2 (fun e => h.apart k e.symm hk)), fun x hx => ?_, fun x hx => ?_, fun b hb e => ?_⟩
  · have hx2 : LIn w (fun b => b < w.heap.size ∧ v.ownBlock ≠ some b ∧ v2.ownBlock ≠ some b) x.q.A x.q.x.l := by
      rcases List.mem_append.1 hx with hx | hx
      · exact h.ins x hx
      · rw [List.mem_singleton.1 hx]; exact hp
    refine (hx2.frame (w' := w') (fun b hb => hg.block b hb.1 (fun e => hb.2.1 e.symm))).mono (fun b hb => ⟨Nat.lt_of_lt_of_le hb.1 hg.size, fun e => ?_, hb.2.2⟩)
    rcases hf with hf | ⟨g, hf, hg2⟩
    · exact hb.2.1 (hf.symm.trans e)
    · rw [hf] at e
      obtain rfl := Option.some.inj e
      have := hb.1
      omega
  · rcases List.mem_append.1 hx with hx | hx
    · exact h.nms x hx
    · rw [List.mem_singleton.1 hx]; exact hn
  · rcases hf with hf | ⟨g, hf, hg2⟩
    · exact h.apart b (hf.symm.trans hb) e
    · rw [hf] at hb
      obtain rfl := Option.some.inj hb
      have := (h.own2.lt _ e).2
      omega

theorem MR.push2 {x : ByteArray} {v3 : Value} (h : MR w base v v2 ps cl) (hg : w.grownBy w' v2.ownBlock) (hf : v3.ownBlock = v2.ownBlock ∨ ∃ g, v3.ownBlock = some g ∧ w.heap.size ≤ g)
    (ho : OwnK 1 9 w' base v3 (cl.length + 1) (strV cl ++ [.string x])) : MR w' base v v3 ps (cl ++ [x]) := by
  refine ⟨h.own.kept (fun k hk => hg.block k (h.own.lt k hk).2 (fun e => h.apart k hk e.symm)), by rw [strV_snoc, List.length_append]; exact ho, fun y hy => ?_, h.nms, fun b hb e => ?_⟩
  · refine ((h.ins y hy).frame (w' := w') (fun b hb => hg.block b hb.1 (fun e => hb.2.2 e.symm))).mono (fun b hb => ⟨Nat.lt_of_lt_of_le hb.1 hg.size, hb.2.1, fun e => ?_⟩)
    rcases hf with hf | ⟨g, hf, hg2⟩
    · exact hb.2.2 (hf.symm.trans e)
    · rw [hf] at e
      obtain rfl := Option.some.inj e
      have := hb.1
      omega
  · rcases hf with hf | ⟨g, hf, hg2⟩
    · exact h.apart b hb (hf.symm.trans e)
    · rw [hf] at e
      obtain rfl := Option.some.inj e
      have := (h.own.lt _ hb).2
      omega
end

end Go.Proofs.YtdncmjlakmkfiaaGreatDoor
