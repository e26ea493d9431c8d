/-
  ROWS that begin anywhere in their block; maps of numbers to numbers.
-/
import Derived.Test.YtioppoaijehicaaGreatDoorTbe
import Derived.Test.YtioppoaijehicaaGreatDoorOwnB
import Derived.Test.YtioppoaijehicaaGreatDoorOwnG
import Derived.ArgAppend
set_option linter.all false
namespace Go.Proofs.YtioppoaijehicaaGreatDoor
open Go.RowKit Go.Maps Go.WideMaps

/-- A row that the call owns, from any place of its block on. -/
def OwnO (e : TypeId) (w : World) (base : Nat) (v : Value) (xs : List Value) : Prop := ∃ g off c cur, v = .slice (some ⟨g, off, none⟩) xs.length c ∧ base ≤ g ∧ w.heap[g]? = some (.cells cur e (0, 0)) ∧ xs.length ≤ c ∧ c ≤ maxLen ∧ off + c ≤ cur.size ∧ ∀ j (h : j < xs.length), cur[off + j]? = some xs[j]
section
variable {e : TypeId} {w w' : World} {base : Nat} {v : Value} {xs : List Value}

theorem OwnO.lt (h : OwnO e w base v xs) : ∀ k, v.ownBlock = some k → base ≤ k ∧ k < w.heap.size := by
  obtain ⟨g, off, c, cur, rfl, hg, hb, -⟩ := h
  intro k hk
  obtain rfl : g = k := by injection hk
  exact ⟨hg, (Array.getElem?_eq_some_iff.1 hb).1⟩

theorem OwnO.kept (h : OwnO e w base v xs) (hh : ∀ k, v.ownBlock = some k → w'.heap[k]? = w.heap[k]?) : OwnO e w' base v xs := by
  obtain ⟨g, off, c, cur, rfl, hg, hb, h1⟩ := h
  exact ⟨g, off, c, cur, rfl, hg, by rw [hh g rfl]; exact hb, h1⟩

theorem OwnO.below (h : OwnO e w base v xs) (hb : Below w.heap.size w w') : OwnO e w' base v xs := h.kept fun k hk => hb.block k (h.lt k hk).2

theorem OwnO.grown (h : OwnO e w base v xs) {row : Option Nat} (hg : w.grownBy w' row) (hne : v.ownBlock ≠ row) : OwnO e w' base v xs := h.kept fun k hk => hg.block k (h.lt k hk).2 (fun e9 => hne (hk.trans e9))

theorem OwnO.first {x : Value} {t : List Value} (h : OwnO e w base v (x :: t)) : ∃ g off c, v = .slice (some ⟨g, off, none⟩) (t.length + 1) c ∧ t.length + 1 ≤ c ∧ c ≤ maxLen ∧ g < w.heap.size ∧ w.cell? ⟨g, off, none⟩ = some x ∧
    (1 < c → OwnO e w base (.slice (some ⟨g, off + 1, none⟩) t.length (c - 1)) t) ∧ (c = 1 → t = [] ∧ OwnO e w base (.slice (some ⟨g, off, none⟩) 0 0) []) := by
  obtain ⟨g, off, c, cur, rfl, hg, hb, h1, h2, h3, h4⟩ := h
  rw [List.length_cons] at h1
  refine ⟨g, off, c, rfl, h1, h2, (Array.getElem?_eq_some_iff.1 hb).1, ?_, fun hc => ?_, fun hc => ⟨List.length_eq_zero_iff.1 (by omega), ?_⟩⟩
  · rw [cell_of_row w g off cur _ (0, 0) hb]
    have := h4 0 (by simp)
    rwa [Nat.add_zero] at this
  · refine ⟨g, off + 1, c - 1, cur, rfl, hg, hb, by omega, by omega, by omega, fun j hj => ?_⟩
    have := h4 (j + 1) (by simpa using hj)
    rw [show off + 1 + j = off + (j + 1) by omega, this]
    simp
  · exact ⟨g, off, 0, cur, rfl, hg, hb, Nat.le_refl _, Nat.zero_le _, by omega, fun j hj => absurd hj (by simp)⟩

theorem ownO_new (w : World) (e : TypeId) (x : Value) (hb : base ≤ w.heap.size) : OwnO e (w.alloc (.cells #[x] e)) base (.slice (some ⟨w.heap.size, 0, none⟩) 1 1) [x] := by
  refine ⟨w.heap.size, 0, 1, #[x], rfl, hb, Blk.new w e #[x], Nat.le_refl _, by simp [maxLen], by simp, fun j hj => ?_⟩
  have : j = 0 := by simpa using hj
  subst this
  rfl
end

theorem run_append_o {t e : TypeId} {i0 : TypeInfo} {z : Value} {W : World} {base : Nat} {v : Value} {xs : List Value} {y : Value} {ad : Addr} (ht : Tryz.prog.underlying t = some (.slice e)) (hi : Tryz.prog.info? e = some i0) (hz0 : i0.zero = some z) (hz1 : i0.size = 1) (hzs : z.cells.size = 1)
    (hby : i0.bytes ≤ 1000) (h : OwnO e W base v xs) (hnews : W.cell? ad = some y) (h1 : y.oneCell' = true) (hn : xs.length ≤ 1000000) (hbase : base ≤ W.heap.size) :
    ∃ v' w', (Builtin.append_ #[t, t] t #[v, .slice (some ad) 1 1]).run Tryz.prog W = .ok v' w' ∧ OwnO e w' base v' (xs ++ [y]) ∧ W.grownBy w' v.ownBlock ∧ (v'.ownBlock = v.ownBlock ∨ ∃ g, v'.ownBlock = some g ∧ W.heap.size ≤ g) := by
  obtain ⟨g, off, c, cur, rfl, hg, hb, hc1, hc2, hsz, hxs⟩ := h
  have hnews : ∀ j u, [y][j]? = some u → W.cell? (ad.add j) = some u := by
    intro j u hj
    match j, hj with
    | 0, hj =>
      have h9 : ad.add 0 = ad := by unfold Addr.add; split <;> simp_all
      rw [h9, hnews]; exact hj
  have h1' : ∀ u ∈ [y], u.oneCell' = true := fun u hu => by rw [List.mem_singleton.1 hu]; exact h1
  have hlen : (xs ++ [y]).length = xs.length + 1 := by simp
  by_cases hroom : xs.length + 1 ≤ c
  · have hblk : Blk W g e cur := hb
    have hlt : off + xs.length < cur.size := by omega
    have hr := run_append_room_cells (P := Tryz.prog) W t t e i0 ht hi g off xs.length c ad 1 1 [y] (by rw [hz1]; simp) hnews h1' hroom (fun j hj => by
      have : j = 0 := by simpa using hj
      subst this
      rw [hz1, Nat.mul_one, Nat.add_zero, cell_of_row W g _ cur _ (0, 0) hb, Array.getElem?_eq_getElem hlt]; rfl) (fun j hj => by
      have : j = 0 := by simpa using hj
      subst this
      rw [hz1, Nat.mul_one, Nat.add_zero]
      simp [World.frozen?, hb])
    rw [hz1, Nat.mul_one] at hr
    have hset : W.setCells g (off + xs.length) [y] = W.setCell ⟨g, off + xs.length, none⟩ y := rfl
    rw [hset] at hr
    have hheap : (W.setCell ⟨g, off + xs.length, none⟩ y).heap[g]? = some (.cells (cur.setIfInBounds (off + xs.length) y) e (0, 0)) := by
      simp [World.setCell, Array.getElem?_modify, hb]
    refine ⟨_, _, hr, ⟨g, off, c, _, by rw [hlen], hg, hheap, by rw [hlen]; exact hroom, hc2, by rw [Array.size_setIfInBounds]; exact hsz, fun j hj => ?_⟩, ⟨rfl, rfl, rfl, by simp [World.setCell], fun k _ hk => Below.heap_setCell W _ y k (fun e9 => hk (congrArg some e9))⟩, .inl rfl⟩
    rw [hlen] at hj
    rw [Array.getElem?_setIfInBounds]
    by_cases e9 : j = xs.length
    · subst e9
      rw [if_pos rfl, if_pos hlt]
      simp
    · rw [if_neg (by omega), hxs j (by omega), List.getElem_append_left (by omega)]
  · have holds : ∀ j u, xs[j]? = some u → W.cell? ((⟨g, off, none⟩ : Addr).add j) = some u := by
      intro j u hj
      have hj2 := (List.getElem?_eq_some_iff.1 hj).1
      have hadd : (⟨g, off, none⟩ : Addr).add j = ⟨g, off + j, none⟩ := by unfold Addr.add; split <;> simp_all
      rw [hadd, cell_of_row W g _ cur _ (0, 0) hb, hxs j hj2, ← hj, List.getElem?_eq_getElem hj2]
    have hbig : (xs.length + 1) * i0.bytes ≤ 140737488355328 := by
      have : (xs.length + 1) * i0.bytes ≤ 1000001 * 1000 := Nat.mul_le_mul (by omega) hby
      omega
    have hr := run_append_grow (P := Tryz.prog) W t t e i0 z ht hi hz0 ⟨g, off, none⟩ xs.length c xs (by rw [hz1, Nat.mul_one]) holds ad 1 1 [y] (by rw [hz1]; simp) hnews (by omega) (by omega) (growslice_fits (by omega) hbig)
    have hge := grownCap_ge W (xs.length + 1) c e
    have hcm : grownCap W (xs.length + 1) c e ≤ maxLen := grownCap_le_maxLen W (xs.length + 1) c e (by unfold maxLen; omega)
    refine ⟨_, _, hr, ⟨W.heap.size, 0, _, _, by rw [hlen], hbase, heap_alloc_new W.drew _, by rw [hlen]; exact hge, hcm, ?_, fun j hj => ?_⟩, ⟨rfl, rfl, rfl, by simp, fun k hk _ => Below.heap_alloc W.drew _ k hk⟩, .inr ⟨_, rfl, Nat.le_refl _⟩⟩
    · simp only [Array.size_append, List.size_toArray, size_zeroCells, hzs, List.length_singleton]
      omega
    · rw [hlen] at hj
      rw [Nat.zero_add, Array.getElem?_append_left (by simp; omega)]
      rw [← Array.getElem?_toList, Array.toList_append, List.getElem?_eq_getElem (by simp; omega)]

theorem wpList_append_o {t e : TypeId} {i0 : TypeInfo} {z : Value} {ops : Array Oper} {rest : List Oper} {o : Oper} {a : Act} {W : World} {Q : Exit → Act → World → Prop} (hgd : o.guard = none) (s x : Operand)
    (ho : o.op = .call { callee := .builtin .append, args := #[s, x], argTypes := #[t, t] }) (hty : o.type = t) (ht : Tryz.prog.underlying t = some (.slice e)) (hi : Tryz.prog.info? e = some i0) (hz0 : i0.zero = some z) (hz1 : i0.size = 1) (hzs : z.cells.size = 1) (hby : i0.bytes ≤ 1000)
    (base : Nat) (v : Value) (xs : List Value) (y : Value) (g : Nat) (hs : a.eval s = v) (hown : OwnO e W base v xs) (h1 : y.oneCell' = true)
    (hx : a.eval x = .slice (some ⟨g, 0, none⟩) 1 1) (hnews : W.cell? ⟨g, 0, none⟩ = some y) (hn : xs.length ≤ 1000000) (hbase : base ≤ W.heap.size)
    (h : ∀ v' w', OwnO e w' base v' (xs ++ [y]) → W.grownBy w' v.ownBlock → (v'.ownBlock = v.ownBlock ∨ ∃ g, v'.ownBlock = some g ∧ W.heap.size ≤ g) → wpList Tryz.prog ops Q rest (a.put o.dst v') w') :
    wpList Tryz.prog ops Q (o :: rest) a W := by
  refine wpList_plain hgd fun K' hK' => ?_
  obtain ⟨v', w', hr, h2, h3, h4⟩ := run_append_o ht hi hz0 hz1 hzs hby hown hnews h1 hn hbase
  unfold Oper.wp execOp
  simp only [ho, resolve, invoke, builtin, Sem.run_bind, Sem.run_pure, Result.andThen_ok, List.map_toArray, List.map_cons, List.map_nil, hs, hx, hty, hr]
  exact hK' _ _ (h v' w' h2 h3 h4)

theorem info_intO : (Tryz.prog.info? 3).map (fun i => (i.zero, i.size, i.bytes)) = some (some (.int .i64 0), 1, 8) := by kernel_rfl

/-- A map of numbers to numbers: what it says of each number. -/
structure NF (g : Nat) (W : World) (n : Nat) (D : DataW Unit) (f : Int → Option Nat) : Prop where
  own : World.ownsMap W Tryz.prog 3 (plainElem (H := Unit) Tryz.prog 3) g n D
  at_ : ∀ x : Int, D.atKey (.int .i64 x) (.lit (.int .i64 0)) = .lit (.int .i64 ((f x).getD 0 : Nat))
  has : ∀ x : Int, Maps.has D (.int .i64 x) = (f x).isSome
section
variable {g n : Nat} {W W' : World} {D : DataW Unit} {f : Int → Option Nat}

theorem wf_nat {d : Nat} (h : d ≤ 1000000) : (Lit.int .i64 (d : Int)).wf = true := In64.wf (by unfold In64; omega)

theorem nf_made (W : World) (hg : g = W.heap.size) : NF g (W.alloc (.map #[] 0)) 0 (.map []) (fun _ => none) := by
  subst hg
  exact ⟨World.ownsMap_made W _ _ _, fun x => rfl, fun x => by simp [Maps.has]⟩

theorem NF.grown (h : NF g W n D f) {row : Option Nat} (hg : W.grownBy W' row) (hne : some g ≠ row) : NF g W' n D f := ⟨h.own.kept hg hne, h.at_, h.has⟩

theorem NF.below (h : NF g W n D f) (hb : Below W.heap.size W W') : NF g W' n D f :=
  ⟨h.own.kept (row := none) ⟨hb.os, hb.tape, hb.output, hb.size, fun k hk _ => hb.block k hk⟩ (by simp), h.at_, h.has⟩

theorem plain_int {v : Value} {a : Int} {ps : List MemPlace} (h : plainElem (H := Unit) Tryz.prog 3 v = some (.lit (.int .i64 a), ps)) : v = .int .i64 a := by
  obtain ⟨b, rfl, hz, -⟩ := plainElem_int_inv Tryz.underlying3 h
  have h9 : DataW.lit (H := Unit) (.int .i64 a) = .lit (.int .i64 b) := (Prod.mk.inj hz).1
  have h8 := DataW.lit.inj h9
  rw [(Lit.int.inj h8).2]

theorem NF.look (h : NF g W n D f) {x : Int} (hx : In64 x) : (Instr.lookup 52 (.map (some g)) (.int .i64 x) false).run Tryz.prog W = .ok (.int .i64 ((f x).getD 0 : Nat)) W := by
  obtain ⟨v, ps, hr, hv⟩ := h.own.lookup lawI Tryz.underlying52 (Tryz.zeroValue3 W) (plainElem_int Tryz.underlying3 (wf_nat (d := 0) (by omega))) (keyOf_int_mk Tryz.underlying3 hx.wf)
  have h2 := h.at_ x
  rw [h2] at hv
  rw [hr, plain_int hv]

theorem NF.lookOk (h : NF g W n D f) {x : Int} (hx : In64 x) : (Instr.lookup 52 (.map (some g)) (.int .i64 x) true).run Tryz.prog W = .ok (.tuple #[.int .i64 ((f x).getD 0 : Nat), .bool (f x).isSome]) W := by
  obtain ⟨v, ps, hr, hv⟩ := h.own.look_ok lawI Tryz.underlying52 (Tryz.zeroValue3 W) (plainElem_int Tryz.underlying3 (wf_nat (d := 0) (by omega))) (keyOf_int_mk Tryz.underlying3 hx.wf)
  have h2 := h.at_ x
  rw [h2] at hv
  rw [hr, plain_int hv, h.has x]

theorem NF.put (h : NF g W n D f) {x : Int} {d : Nat} (ho : World.ownsMap W' Tryz.prog 3 (plainElem (H := Unit) Tryz.prog 3) g (n + 1) (D.put (.int .i64 x) (.lit (.int .i64 d)))) : NF g W' (n + 1) (D.put (.int .i64 x) (.lit (.int .i64 d))) (updF f x d) := by
  refine ⟨ho, fun y => ?_, fun y => ?_⟩
  · by_cases e : y = x
    · subst e
      rw [atKey_put_same h.own.isMap (by trivial), updF_same]
      rfl
    · rw [atKey_put_other (fun e2 => e (by injection e2)), h.at_ y, updF_other f d e]
  · by_cases e : y = x
    · subst e
      rw [has_put_same h.own.isMap (by trivial), updF_same]
      rfl
    · rw [has_put_other (fun e2 => e (by injection e2)), h.has y, updF_other f d e]
end

end Go.Proofs.YtioppoaijehicaaGreatDoor
