/-
  ROWS that begin anywhere in their block; maps of numbers to numbers.
-/
import Derived.Test.YtioppoaijehicaaGreatDoorTbe
import Derived.Test.YtioppoaijehicaaGreatDoorOwnC
import Derived.ArgAppend
set_option linter.all false
namespace Go.Proofs.YtioppoaijehicaaGreatDoor
open Go.RowKit Go.Maps Go.WideMaps

/-- A row that the call owns, from any place of its block on. -/
def OwnO (e : TypeId) (w : World) (base : Nat) (v : Value) (xs : List Value) : Prop := ∃ g off c cur, v = .slice (some ⟨g, off, none⟩) xs.length c ∧ base ≤ g ∧ w.heap[g]? = some (.cells cur e (0, 0)) ∧ xs.length ≤ c ∧ c ≤ maxLen ∧ off + c ≤ cur.size ∧ ∀ j (h : j < xs.length), cur[off + j]? = some xs[j]
section
variable {e : TypeId} {w w' : World} {base : Nat} {v : Value} {xs : List Value}

theorem OwnO.lt (h : OwnO e w base v xs) : ∀ k, v.ownBlock = some k → base ≤ k ∧ k < w.heap.size := by
  obtain ⟨g, off, c, cur, rfl, hg, hb, -⟩ := h
  intro k hk
  obtain rfl : g = k := by injection hk
  exact ⟨hg, (Array.getElem?_eq_some_iff.1 hb).1⟩

theorem OwnO.kept (h : OwnO e w base v xs) (hh : ∀ k, v.ownBlock = some k → w'.heap[k]? = w.heap[k]?) : OwnO e w' base v xs := by
  obtain ⟨g, off, c, cur, rfl, hg, hb, h1⟩ := h
  exact ⟨g, off, c, cur, rfl, hg, by rw [hh g rfl]; exact hb, h1⟩

theorem OwnO.below (h : OwnO e w base v xs) (hb : Below w.heap.size w w') : OwnO e w' base v xs := h.kept fun k hk => hb.block k (h.lt k hk).2

theorem OwnO.grown (h : OwnO e w base v xs) {row : Option Nat} (hg : w.grownBy w' row) (hne : v.ownBlock ≠ row) : OwnO e w' base v xs := h.kept fun k hk => hg.block k (h.lt k hk).2 (fun e9 => hne (hk.trans e9))

theorem OwnO.first {x : Value} {t : List Value} (h : OwnO e w base v (x :: t)) : ∃ g off c, v = .slice (some ⟨g, off, none⟩) (t.length + 1) c ∧ t.length + 1 ≤ c ∧ c ≤ maxLen ∧ g < w.heap.size ∧ w.cell? ⟨g, off, none⟩ = some x ∧
    (1 < c → OwnO e w base (.slice (some ⟨g, off + 1, none⟩) t.length (c - 1)) t) ∧ (c = 1 → t = [] ∧ OwnO e w base (.slice (some ⟨g, off, none⟩) 0 0) []) := by
  obtain ⟨g, off, c, cur, rfl, hg, hb, h1, h2, h3, h4⟩ := h
  rw [List.length_cons] at h1
  refine ⟨g, off, c, rfl, h1, h2, (Array.getElem?_eq_some_iff.1 hb).1, ?_, fun hc => ?_, fun hc => ⟨List.length_eq_zero_iff.1 (by omega), ?_⟩⟩
  · rw [cell_of_row w g off cur _ (0, 0) hb]
    have := h4 0 (by simp)
    rwa [Nat.add_zero] at this
  · refine ⟨g, off + 1, c - 1, cur, rfl, hg, hb, by omega, by omega, by omega, fun j hj => ?_⟩
    have := h4 (j + 1) (by simpa using hj)
    rw [show off + 1 + j = off + (j + 1) by omega, this]
    simp
  · exact ⟨g, off, 0, cur, rfl, hg, hb, Nat.le_refl _, Nat.zero_le _, by omega, fun j hj => absurd hj (by simp)⟩

theorem ownO_new (w : World) (e : TypeId) (x : Value) (hb : base ≤ w.heap.size) : OwnO e (w.alloc (.cells #[x] e)) base (.slice (some ⟨w.heap.size, 0, none⟩) 1 1) [x] := by
  refine ⟨w.heap.size, 0, 1, #[x], rfl, hb, Blk.new w e #[x], Nat.le_refl _, by simp [maxLen], by simp, fun j hj => ?_⟩
  have : j = 0 := by simpa using hj
  subst this
  rfl
end

theorem run_append_o {t e : TypeId} {i0 : TypeInfo} {z : Value} {W : World} {base : Nat} {v : Value} {xs : List Value} {y : Value} {ad : Addr} (ht : Tryz.prog.underlying t = some (.slice e)) (hi : Tryz.prog.info? e = some i0) (hz0 : i0.zero = some z) (hz1 : i0.size = 1) (hzs : z.cells.size = 1)
    (hby : i0.bytes ≤ 1000) (h : OwnO e W base v xs) (hnews : W.cell? ad = some y) (h1 : y.oneCell' = true) (hn : xs.length ≤ 1000000) (hbase : base ≤ W.heap.size) :
    ∃ v' w', (Builtin.append_ #[t, t] t #[v, .slice (some ad) 1 1]).run Tryz.prog W = .ok v' w' ∧ OwnO e w' base v' (xs ++ [y]) ∧ W.grownBy w' v.ownBlock ∧ (v'.ownBlock = v.ownBlock ∨ ∃ g, v'.ownBlock = some g ∧ W.heap.size ≤ g) := by
  obtain ⟨g, off, c, cur, rfl, hg, hb, hc1, hc2, hsz, hxs⟩ := h
  have hnews : ∀ j u, [y][j]? = some u → W.cell? (ad.add j) = some u := by
    intro j u hj
    match j, hj with
    | 0, hj =>
      have h9 : ad.add 0 = ad := by unfold Addr.add; split <;> simp_all
      rw [h9, hnews]; exact hj
  have h1' : ∀ u ∈ [y], u.oneCell' = true := fun u hu => by rw [List.mem_singleton.1 hu]; exact h1
  have hlen : (xs ++ [y]).length = xs.length + 1 := by simp
  by_cases hroom : xs.length + 1 ≤ c
  · have hblk : Blk W g e cur := hb
    have hlt : off + xs.length < cur.size := by omega
    have hr := run_append_room_cells (P := Tryz.prog) W t t e i0 ht hi g off xs.length c ad 1 1 [y] (by rw [hz1]; simp) hnews h1' hroom (fun j hj => by
      have : j = 0 := by simpa using hj
      subst this
      rw [hz1, Nat.mul_one, Nat.add_zero, cell_of_row W g _ cur _ (0, 0) hb, Array.getElem?_eq_getElem hlt]; rfl) (fun j hj => by
      have : j = 0 := by simpa using hj
      subst this
      rw [hz1, Nat.mul_one, Nat.add_zero]
      simp [World.frozen?, hb])
    rw [hz1, Nat.mul_one] at hr
    have hset : W.setCells g (off + xs.length) [y] = W.setCell ⟨g, off + xs.length, none⟩ y := rfl
    rw [hset] at hr
    have hheap : (W.setCell ⟨g, off + xs.length, none⟩ y).heap[g]? = some (.cells (cur.setIfInBounds (off + xs.length) y) e (0, 0)) := by
      simp [World.setCell, Array.getElem?_modify, hb]
    refine ⟨_, _, hr, ⟨g, off, c, _, by rw [hlen], hg, hheap, by rw [hlen]; exact hroom, hc2, by rw [Array.size_setIfInBounds]; exact hsz, fun j hj => ?_⟩, ⟨rfl, rfl, rfl, by simp [World.setCell], fun k _ hk => Below.heap_setCell W _ y k (fun e9 => hk (congrArg some e9))⟩, .inl rfl⟩
    rw [hlen] at hj
    rw [Array.getElem?_setIfInBounds]
    by_cases e9 : j = xs.length
    · subst e9
      rw [if_pos rfl, if_pos hlt]
      simp
    · rw [if_neg (by omega), hxs j (by omega), List.getElem_append_left (by omega)]
  · have holds : ∀ j u, xs[j]? = some u → W.cell? ((⟨g, off, none⟩ : Addr).add j) = some u := by
      intro j u hj
      have hj2 := (List.getElem?_eq_some_iff.1 hj).1
      have hadd : (⟨g, off, none⟩ : Addr).add j = ⟨g, off + j, none⟩ := by unfold Addr.add; split <;> simp_all
      rw [hadd, cell_of_row W g _ cur _ (0, 0) hb, hxs j hj2, ← hj, List.getElem?_eq_getElem hj2]
    have hbig : (xs.length + 1) * i0.bytes ≤ 140737488355328 := by
      have : (xs.length + 1) * i0.bytes ≤ 1000001 * 1000 := Nat.mul_le_mul (by omega) hby
      omega
    have hr := run_append_grow (P := Tryz.prog) W t t e i0 z ht hi hz0 ⟨g, off, none⟩ xs.length c xs (by rw [hz1, Nat.mul_one]) holds ad 1 1 [y] (by rw [hz1]; simp) hnews (by omega) (by omega) (growslice_fits (by omega) hbig)
    have hge := grownCap_ge W (xs.length + 1) c e
    have hcm : grownCap W (xs.length + 1) c e ≤ maxLen := grownCap_le_maxLen W (xs.length + 1) c e (by unfold maxLen; omega)
    refine ⟨_, _, hr, ⟨W.heap.size, 0, _, _, by rw [hlen], hbase, heap_alloc_new W.drew _, by rw [hlen]; exact hge, hcm, ?_, fun j hj => ?_⟩, ⟨rfl, rfl, rfl, by simp, fun k hk _ => Below.heap_alloc W.drew _ k hk⟩, .inr ⟨_, rfl, Nat.le_refl _⟩⟩
    · simp only [Array.size_append, List.size_toArray, size_zeroCells, hzs, List.length_singleton]
      omega
    · rw [hlen] at hj
      rw [Nat.zero_add, Array.getElem?_append_left (by simp; omega)]
      rw [← Array.getElem?_toList, Array.toList_append, List.getElem?_eq_getElem (by simp; omega)]

theorem wpList_append_o {t e : TypeId} {i0 : TypeInfo} {z : Value} {ops : Array Oper} {rest : List Oper} {o : Oper} {a : Act} {W : World} {Q : Exit → Act → World → Prop} (hgd : o.guard = none) (s x : Operand)
    (ho : o.op = .call { callee := .builtin .append, args := #[s, x], argTypes := #[t, t] }) (hty : o.type = t) (ht : Tryz.prog.underlying t = some (.slice e)) (hi : Tryz.prog.info? e = some i0) (hz0 : i0.zero = some z) (hz1 : i0.size = 1) (hzs : z.cells.size = 1) (hby : i0.bytes ≤ 1000)
    (base : Nat) (v : Value) (xs : List Value) (y : Value) (g : Nat) (hs : a.eval s = v) (hown : OwnO e W base v xs) (h1 : y.oneCell' = true)
    (hx : a.eval x = .slice (some ⟨g, 0, none⟩) 1 1) (hnews : W.cell? ⟨g, 0, none⟩ = some y) (hn : xs.length ≤ 1000000) (hbase : base ≤ W.heap.size)
    (h : ∀ v' w', OwnO e w' base v' (xs ++ [y]) → W.grownBy w' v.ownBlock → (v'.ownBlock = v.ownBlock ∨ ∃ g, v'.ownBlock = some g ∧ W.heap.size ≤ g) → wpList Tryz.prog ops Q rest (a.put o.dst v') w') :
    wpList Tryz.prog ops Q (o :: rest) a W := by
  refine wpList_plain hgd fun K' hK' => ?_
  obtain ⟨v', w', hr, h2, h3, h4⟩ := run_append_o ht hi hz0 hz1 hzs hby hown hnews h1 hn hbase
  unfold Oper.wp execOp
  simp only [ho, resolve, invoke, builtin, Sem.run_bind, Sem.run_pure, Result.andThen_ok, List.map_toArray, List.map_cons, List.map_nil, hs, hx, hty, hr]
  exact hK' _ _ (h v' w' h2 h3 h4)

theorem info_intO : (Tryz.prog.info? 3).map (fun i => (i.zero, i.size, i.bytes)) = some (some (.int .i64 0), 1, 8) := by kernel_rfl

/-- A map of numbers to numbers: what it says of each number. -/
structure NF (g : Nat) (W : World) (n : Nat) (D : DataW Unit) (f : Int → Option Nat) : Prop where
  own : World.ownsMap W Tryz.prog 3 (plainElem (H := Unit) Tryz.prog 3) g n D
  at_ : ∀ x : Int, D.atKey (.int .i64 x) (.lit (.int .i64 0)) = .lit (.int .i64 ((f x).getD 0 : Nat))
  has : ∀ x : Int, Maps.has D (.int .i64 x) = (f x).isSome
section
variable {g n : Nat} {W W' : World} {D : DataW Unit} {f : Int → Option Nat}

theorem wf_nat {d : Nat} (h : d ≤ 1000000) : (Lit.int .i64 (d : Int)).wf = true := In64.wf (by unfold In64; omega)

theorem nf_made (W : World) (hg : g = W.heap.size) : NF g (W.alloc (.map #[] 0)) 0 (.map []) (fun _ => none) := by
  subst hg
  exact ⟨World.ownsMap_made W _ _ _, fun x => rfl, fun x => by simp [Maps.has]⟩

theorem NF.grown (h : NF g W n D f) {row : Option Nat} (hg : W.grownBy W' row) (hne : some g ≠ row) : NF g W' n D f := ⟨h.own.kept hg hne, h.at_, h.has⟩

theorem NF.below (h : NF g W n D f) (hb : Below W.heap.size W W') : NF g W' n D f :=
  ⟨h.own.kept (row := none) ⟨hb.os, hb.tape, hb.output, hb.size, fun k hk _ => hb.block k hk⟩ (by simp), h.at_, h.has⟩

theorem plain_int {v : Value} {a : Int} {ps : List MemPlace} (h : plainElem (H := Unit) Tryz.prog 3 v = some (.lit (.int .i64 a), ps)) : v = .int .i64 a := by
  obtain ⟨b, rfl, hz, -⟩ := plainElem_int_inv Tryz.underlying3 h
  have h9 : DataW.lit (H := Unit) (.int .i64 a) = .lit (.int .i64 b) := (Prod.mk.inj hz).1
  have h8 := DataW.lit.inj h9
  rw [(Lit.int.inj h8).2]

theorem NF.look (h : NF g W n D f) {x : Int} (hx : In64 x) : (Instr.lookup 52 (.map (some g)) (.int .i64 x) false).run Tryz.prog W = .ok (.int .i64 ((f x).getD 0 : Nat)) W := by
  obtain ⟨v, ps, hr, hv⟩ := h.own.lookup lawI Tryz.underlying52 (Tryz.zeroValue3 W) (plainElem_int Tryz.underlying3 (wf_nat (d := 0) (by omega))) (keyOf_int_mk Tryz.underlying3 hx.wf)
  have h2 := h.at_ x
  rw [h2] at hv
  rw [hr, plain_int hv]

theorem NF.lookOk (h : NF g W n D f) {x : Int} (hx : In64 x) : (Instr.lookup 52 (.map (some g)) (.int .i64 x) true).run Tryz.prog W = .ok (.tuple #[.int .i64 ((f x).getD 0 : Nat), .bool (f x).isSome]) W := by
  obtain ⟨v, ps, hr, hv⟩ := h.own.look_ok lawI Tryz.underlying52 (Tryz.zeroValue3 W) (plainElem_int Tryz.underlying3 (wf_nat (d := 0) (by omega))) (keyOf_int_mk Tryz.underlying3 hx.wf)
  have h2 := h.at_ x
  rw [h2] at hv
  rw [hr, plain_int hv, h.has x]

theorem NF.put (h : NF g W n D f) {x : Int} {d : Nat} (ho : World.ownsMap W' Tryz.prog 3 (plainElem (H := Unit) Tryz.prog 3) g (n + 1) (D.put (.int .i64 x) (.lit (.int .i64 d)))) : NF g W' (n + 1) (D.put (.int .i64 x) (.lit (.int .i64 d))) (updF f x d) := by
  refine ⟨ho, fun y => ?_, fun y => ?_⟩
  · by_cases e : y = x
    · subst e
      rw [atKey_put_same h.own.isMap (by trivial), updF_same]
      rfl
    · rw [atKey_put_other (fun e2 => e (by injection e2)), h.at_ y, updF_other f d e]
  · by_cases e : y = x
    · subst e
      rw [has_put_same h.own.isMap (by trivial), updF_same]
      rfl
    · rw [has_put_other (fun e2 => e (by injection e2)), h.has y, updF_other f d e]
end

end Go.Proofs.YtioppoaijehicaaGreatDoor
/-
  WALK: how deep blocks are, by a queue.
-/
namespace Go.Proofs.YtioppoaijehicaaGreatDoor
open Go.RowKit Go.Maps Go.WideMaps

def intV (l : List Int) : List Value := l.map (Value.int .i64)

theorem intV_len (l : List Int) : (intV l).length = l.length := List.length_map _

theorem intV_cons (a : Int) (l : List Int) : intV (a :: l) = .int .i64 a :: intV l := rfl

theorem intV_snoc (l : List Int) (a : Int) : intV (l ++ [a]) = intV l ++ [.int .i64 a] := by simp [intV]

theorem ownO_first {e : TypeId} {w : World} {base : Nat} {v : Value} {x : Int} {t : List Int} (h : OwnO e w base v (intV (x :: t))) : ∃ g off c, v = .slice (some ⟨g, off, none⟩) (t.length + 1) c ∧ t.length + 1 ≤ c ∧ c ≤ maxLen ∧ g < w.heap.size ∧ base ≤ g ∧ w.cell? ⟨g, off, none⟩ = some (.int .i64 x) ∧
    (1 < c → OwnO e w base (.slice (some ⟨g, off + 1, none⟩) t.length (c - 1)) (intV t)) ∧ (c = 1 → t = [] ∧ OwnO e w base (.slice (some ⟨g, off, none⟩) 0 0) (intV [])) := by
  rw [intV_cons] at h
  obtain ⟨g, off, c, hv, h1, h2, h3, h4, h5, h6⟩ := h.first
  have hb := (h.lt g (by rw [hv]; rfl)).1
  rw [intV_len] at hv h1 h5
  exact ⟨g, off, c, hv, h1, h2, h3, hb, h4, h5, fun hc => ⟨by have := (h6 hc).1; exact List.map_eq_nil_iff.1 this, (h6 hc).2⟩⟩

theorem OwnO.ne_blk {e t : TypeId} {w : World} {base g : Nat} {v : Value} {xs : List Value} {cs : Array Value} (h : OwnO e w base v xs) (hB : Blk w g t cs) (hne : e ≠ t) : some g ≠ v.ownBlock := fun e9 => by
  obtain ⟨g2, off, c, cur, rfl, hg, hb, -⟩ := h
  obtain rfl : g = g2 := by injection e9
  have h9 : some (Obj.cells cs t (0, 0)) = some (Obj.cells cur e (0, 0)) := hB.symm.trans hb
  injection h9 with h9
  injection h9 with _ h9 _
  exact hne h9.symm

theorem blk5 {w : World} {g : Nat} {t : TypeId} {v0 v1 v2 v3 v4 : Value} (h : Blk w g t #[v0, v1, v2, v3, v4]) : w.cell? ⟨g, 0, none⟩ = some v0 ∧ w.cell? ⟨g, 1, none⟩ = some v1 ∧ w.cell? ⟨g, 2, none⟩ = some v2 ∧ w.cell? ⟨g, 3, none⟩ = some v3 ∧ w.cell? ⟨g, 4, none⟩ = some v4 ∧ g < w.heap.size := ⟨h.cell 0, h.cell 1, h.cell 2, h.cell 3, h.cell 4, h.lt⟩

theorem ownO_form {e : TypeId} {w : World} {base : Nat} {v : Value} {l : List Int} (h : OwnO e w base v (intV l)) : ∃ g off c, v = .slice (some ⟨g, off, none⟩) l.length c := by
  obtain ⟨g, off, c, cur, rfl, -⟩ := h
  exact ⟨g, off, c, by rw [intV_len]⟩

/-- The cells of a block, now; its lists, as they came in. -/
theorem BsAt.getB {w W : World} {A : Option Addr} {l : List BK} (h : BsAt w A l) (hb : Below w.heap.size w W) {q : Nat} (hq : q < l.length) : ∃ b o A1 c1 A2 c2, A = some ⟨b, o, none⟩ ∧ b < W.heap.size ∧ W.cell? ⟨b, o + q * 5, none⟩ = some (.int .i64 l[q].id) ∧ W.cell? ⟨b, o + q * 5 + 1, none⟩ = some (.int .i64 l[q].par) ∧
    W.cell? ⟨b, o + q * 5 + 2, none⟩ = some (.slice A1 l[q].kids.length c1) ∧ W.cell? ⟨b, o + q * 5 + 3, none⟩ = some (.string l[q].txt) ∧ W.cell? ⟨b, o + q * 5 + 4, none⟩ = some (.slice A2 l[q].ps.length c2) ∧ IntsAt w A1 l[q].kids ∧ PsAt w A2 l[q].ps := by
  obtain ⟨b, o, A1, c1, A2, c2, hA, hlt, h0, h1, h2, h3, h4, h5, h6⟩ := h.get hq
  exact ⟨b, o, A1, c1, A2, c2, hA, Nat.lt_of_lt_of_le hlt hb.size, (hb.cell (p := ⟨b, o + q * 5, none⟩) hlt).trans h0, (hb.cell (p := ⟨b, o + q * 5 + 1, none⟩) hlt).trans h1, (hb.cell (p := ⟨b, o + q * 5 + 2, none⟩) hlt).trans h2, (hb.cell (p := ⟨b, o + q * 5 + 3, none⟩) hlt).trans h3, (hb.cell (p := ⟨b, o + q * 5 + 4, none⟩) hlt).trans h4, h5, h6⟩

/-- What the first way hands out. -/
def DepOut (l : List BK) (w : World) (e : Ending) (w' : World) : Prop := ∃ (g n : Nat) (D : DataW Unit) (f : Int → Option Nat), e = .returned (.map (some g)) ∧ NF g w' n D f ∧ Bf l f [] ∧ (∀ k d, f k = some d → d ≤ 2000) ∧ Below w.heap.size w w'

set_option maxHeartbeats 3200000 in
set_option maxRecDepth 100000 in
theorem depths_any (l : List BK) (A : Option Addr) (c : Nat) (w : World) (hA : BsAt w A l) (G : Good l) (hn : l.length ≤ 2000) (h0 : 0 < l.length) (h5 : ∀ b ∈ l, b.kids.length ≤ 500) :
    Calls Tryz.prog 59 #[.slice A l.length c] w (DepOut l w) := by
  have hmm := @run_makeMap Tryz.prog
  obtain ⟨wi, hins, hoi, hgi⟩ := (World.ownsMap_made w Tryz.prog 3 (plainElem (H := Unit) Tryz.prog 3)).update lawI Tryz.underlying52 (by unfold maxLen; omega) (keyOf_int_mk Tryz.underlying3 (wf_nat (d := 0) (by omega))) (plainElem_int Tryz.underlying3 (wf_nat (d := 0) (by omega)))
  have HNF0 := hide ((nf_made w rfl).put (x := 0) (d := 0) hoi)
  have HB0 := hide ((bl_alloc (Below.refl w.heap.size w) (.map #[] 0)).grown hgi (by simp) (fun k hk => by injection hk with hk; omega))
  have HS0 := hide (show w.heap.size + 1 ≤ wi.heap.size from by have := hgi.size; simpa using this)
  have HU0 := hide (show unm (updF (fun _ => none) 0 0) l + 1 ≤ l.length from by
    have h1 := unm_upd (f := fun _ => none) (k := 0) 0 rfl (l := l) ⟨l[0], List.getElem_mem h0, G.ids.zero h0⟩
    have h2 := unm_le (fun _ => none) l
    omega)
  have HPO : Hid (∀ (g n : Nat) (D : DataW Unit) (f : Int → Option Nat) (w' : World), NF g w' n D f → Bf l f [] → (∀ k d, f k = some d → d ≤ 2000) → Below w.heap.size w w' → DepOut l w (.returned (.map (some g))) w') := hide fun g n D f w' h1 h2 h3 h4 => ⟨g, n, D, f, rfl, h1, h2, h3, h4⟩
  generalize DepOut l w = PO at *
  have HA := hide hA
  have HG := hide G
  have HL0 := hide h0
  have H5 := hide h5
  simp only [Int.natCast_zero] at hins
  clear hA G h5 hoi hgi
  go_enter Tryz.func59, Tryz.ntmps59
  go_wp2
  go_loopg [4] l.length (fun kx s4 wr => ∃ (ts : List Int) (n : Nat) (D : DataW Unit) (ff : Int → Option Nat), Hid (NF w.heap.size wr n D ff) ∧ Hid (OwnO 3 wr (w.heap.size + 1) s4 (intV ts)) ∧ Hid (Bf l ff ts) ∧ Hid (Below w.heap.size w wr) ∧ Hid (unm ff l + ts.length ≤ kx ∧ kx ≤ l.length) ∧ Hid (∀ k d, ff k = some d → d + unm ff l ≤ l.length) ∧ Hid (n + unm ff l ≤ l.length + 1))
  case atStart => exact ⟨[0], 1, _, updF (fun _ => none) 0 0, hide (HNF0.out.below (by repeat (first | with_reducible exact Below.refl _ _ | with_reducible refine bl_plus ?_ | with_reducible refine bl_alloc ?_ _ | with_reducible refine bl_drew ?_ | with_reducible refine bl_drewN ?_ _))), hide (ownO_new wi 3 (.int .i64 0) HS0.out), hide (bf_start l), hide (below_chainT HB0.out (by repeat (first | with_reducible exact Below.refl _ _ | with_reducible refine bl_plus ?_ | with_reducible refine bl_alloc ?_ _ | with_reducible refine bl_drew ?_ | with_reducible refine bl_drewN ?_ _))), hide ⟨HU0.out, Nat.le_refl _⟩, hide (fun k d hk => by
    by_cases e : k = 0
    · subst e
      rw [updF_same] at hk
      obtain rfl := Option.some.inj hk
      have := HU0.out
      omega
    · rw [updF_other _ _ e] at hk; cases hk), hide (by have := HU0.out; omega)⟩
  case round =>
    obtain ⟨ts, n, D, ff, HNF, HOW, HBF, HBW, HU, HD2, HNN⟩ := hrel
    clear HNF0 HB0 HS0 HU0 hins
    cases ts with
    | nil =>
      obtain ⟨g4, o4, c4, cur, rfl, -⟩ := HOW.out
      have HR := hide (HPO.out _ _ _ _ wr HNF.out HBF.out (fun k d hk => by have := HD2.out k d hk; omega) HBW.out)
      simp only [intV, List.map_nil, List.length_nil] at *
      clear HOW
      go_wp2
      first
        | exact HR.out
        | (go_ret; exact HR.out)
    | cons k0 t =>
      obtain ⟨g4, o4, c4, rfl, hc1, hc2, hg4, hg5, y0, HX1, HX0⟩ := ownO_first HOW.out
      obtain ⟨d0, hd0⟩ := HBF.out.tds k0 (by simp)
      obtain ⟨m, hm, hid⟩ := (HBF.out.ok k0 d0 hd0).at HG.out HL0.out
      subst hid
      have HIX := hide (fun W (hb : Below wr.heap.size wr W) => index_any l _ c l[m].id W (HA.out.below (below_chainT HBW.out hb)) HG.out.ids hn (by have := HG.out.ids.bound hm; omega))
      have HI7 := hide (show ixI l l[m].id = m by unfold ixI; rw [HG.out.ids.ix hm])
      rw [HI7.out] at HIX
      obtain ⟨b, o, A1, c1, A2, c2, rfl, hb, q0, q1, q2, q3, q4, hks, -⟩ := HA.out.getB HBW.out hm
      have im : (m : Int) < (l.length : Int) := by omega
      have HMEM := hide (List.getElem_mem hm)
      have HBG := hide HBF.out.pop
      have HKS := hide hks
      have HL5 := hide (H5.out l[m] HMEM.out)
      have HXI := hide (show In64 l[m].id from by have := HG.out.ids.bound hm; unfold In64; omega)
      have HGK := hide HU.out.2
      clear hks HI7 HBF hd0
      generalize l[m] = x at *
      obtain ⟨xi, xp, xk, xt, xs⟩ := x
      (try simp only at *)
      obtain ⟨iI, hiI, hzI0, hzI1, hzI2⟩ := info_parts info_intO
      have info9 := And.intro hiI (And.intro hzI0 (And.intro hzI1 hzI2))
      have HI9 := hide info9
      clear hiI hzI0 hzI1 hzI2 info9
      by_cases hcc : c4 = 1
      · subst hcc
        obtain ⟨ht, HOW2⟩ := HX0 rfl
        subst ht
        have HOW2 := hide HOW2
        clear HX1 HX0 HOW
        go_upto_region 6 with (go_at_call 94; (refine (HIX.out _ (by repeat (first | with_reducible exact Below.refl _ _ | with_reducible refine bl_plus ?_ | with_reducible refine bl_alloc ?_ _ | with_reducible refine bl_drew ?_ | with_reducible refine bl_drewN ?_ _))).mono ?_); rintro e w' ⟨rfl, hbl⟩; obtain ⟨os1, n1, rfl⟩ := below_plus hbl; clear hbl)
        have HNF1 := hide (HNF.out.below (bl_plus (os := os1) (n := n1) (Below.refl _ wr)))
        have HOW1 := hide (HOW2.out.below (bl_plus (os := os1) (n := n1) (Below.refl _ wr)))
        have HBW1 := hide (below_chainT HBW.out (bl_plus (os := os1) (n := n1) (Below.refl _ wr)))
        have HGB := hide (show w.heap.size < (plus wr os1 n1).heap.size from by rw [plus_size]; have := HNF.out.own.lt; omega)
        rw [show wr.heap.size + os1.size = (plus wr os1 n1).heap.size from plus_size.symm]
        clear HNF HOW2 HBW q0 q1 q2 q3 q4 y0 HIX hg4 hb
        generalize plus wr os1 n1 = WB at *
        go_wp2
        go_loopw [4, 29] (fun s4 i wr => ∃ (j : Nat) (ts : List Int) (n : Nat) (D : DataW Unit) (ff : Int → Option Nat), j ≤ xk.length ∧ i = .int .i64 j ∧ Hid (NF w.heap.size wr n D ff) ∧ Hid (OwnO 3 wr (w.heap.size + 1) s4 (intV ts)) ∧ Hid (Bg l ff (.mk xi xp xk xt xs) j ts) ∧ Hid (Blk wr WB.heap.size 82 #[.int .i64 xi, .int .i64 xp, .slice A1 xk.length c1, .string xt, .slice A2 xs.length c2]) ∧ Hid (Below w.heap.size w wr) ∧ Hid (unm ff l + ts.length + 1 ≤ gk) ∧ Hid (∀ k d, ff k = some d → d + unm ff l ≤ l.length) ∧ Hid (n + unm ff l ≤ l.length + 1)) (fun _ i _ => xk.length - (intOf i).toNat)
        case atStart => exact ⟨0, [], n, D, ff, Nat.zero_le _, rfl, hide (HNF1.out.below (by repeat (first | with_reducible exact Below.refl _ _ | with_reducible refine bl_plus ?_ | with_reducible refine bl_alloc ?_ _ | with_reducible refine bl_drew ?_ | with_reducible refine bl_drewN ?_ _))), hide (HOW1.out.below (by repeat (first | with_reducible exact Below.refl _ _ | with_reducible refine bl_plus ?_ | with_reducible refine bl_alloc ?_ _ | with_reducible refine bl_drew ?_ | with_reducible refine bl_drewN ?_ _))), HBG, hide (Blk.new WB 82 #[.int .i64 xi, .int .i64 xp, .slice A1 xk.length c1, .string xt, .slice A2 xs.length c2]), hide (below_chainT HBW1.out (by repeat (first | with_reducible exact Below.refl _ _ | with_reducible refine bl_plus ?_ | with_reducible refine bl_alloc ?_ _ | with_reducible refine bl_drew ?_ | with_reducible refine bl_drewN ?_ _))), hide (by have := HU.out.1; rw [List.length_cons] at this; omega), HD2, HNN⟩
        case round =>
          clear HNF1 HOW1 HBG HD2 HNN HU
          obtain ⟨j, ts, n, D, ff, hj, rfl, HNF, HOW, HBG, HBX, HB, HU, HD2, HNN⟩ := hrel
          obtain ⟨g5, o5, c5, hs5⟩ := ownO_form HOW.out
          subst hs5
          by_cases hlt : j < xk.length
          · obtain ⟨b2, o2, rfl, hb2, z0⟩ := ints_get (HKS.out.below HB.out) hlt
            have i1 : (j : Int) < (xk.length : Int) := by omega
            have hkm : xk[j] ∈ xk := List.getElem_mem hlt
            obtain ⟨nk, hnk, hnk0, hnid, -⟩ := HG.out.kid _ HMEM.out _ hkm
            have h64 : In64 xk[j] := by have := HG.out.ids.bound hnk; unfold In64; omega
            have HKID := hide (show ∃ b ∈ l, b.id = xk[j] from ⟨l[nk], List.getElem_mem hnk, hnid⟩)
            have hkey : keyOf Tryz.prog 3 (.int .i64 xk[j]) = some (.int .i64 xk[j]) := keyOf_int_mk Tryz.underlying3 h64.wf
            have hlk := HNF.out.lookOk h64
            obtain ⟨v0, v1, v2, v3, v4, vl⟩ := blk5 HBX.out
            have i5 : xk.length ≤ 500 := HL5.out
            have HSK := hide (fun hm => HBG.out.skip hlt hm)
            have HMK := hide (fun d hd hn => HBG.out.mark (d := d) HMEM.out hlt hd hn)
            have HBD := hide (show ts.length ≤ 1000000 from by have := HU.out; have := HGK.out; omega)
            obtain ⟨d0, hd0⟩ := HBG.out.self
            have hd0 : ff xi = some d0 := hd0
            have hlk2 := HNF.out.look (x := xi) HXI.out
            rw [hd0] at hlk2
            have HD0 := hide hd0
            have hdle : d0 ≤ 2000 := by have := HD2.out xi d0 hd0; omega
            (try simp only at HSK HMK)
            clear hnid hnk hnk0 hkm hd0
            generalize xk[j] = k at *
            cases hf : ff k with
            | some dk =>
              have HR := hide (HSK.out ⟨dk, hf⟩)
              rw [hf] at hlk
              simp only [Option.isSome_some, Option.getD_some] at hlk hlk2
              clear hf HSK HMK
              go_wp2
              go_roundw
              case rel => exact ⟨j + 1, ts, n, D, ff, hlt, by go_num, HNF, HOW, HR, HBX, HB, HU, HD2, HNN⟩
              case measure => simp [intOf]; omega
            | none =>
              have HR := hide (HMK.out d0 HD0.out hf)
              have HUN := hide (unm_upd (d0 + 1) hf HKID.out)
              rw [hf] at hlk
              simp only [Option.isSome_none, Option.getD_none, Option.getD_some] at hlk hlk2
              have hn9 : n < maxLen := by have := HNN.out; unfold maxLen; omega
              have HII := HI9
              have HD3 := hide (show ∀ k9 d9, updF ff k (d0 + 1) k9 = some d9 → d9 + unm (updF ff k (d0 + 1)) l ≤ l.length from fun k9 d9 h9 => by
                by_cases e9 : k9 = k
                · subst e9
                  rw [updF_same] at h9
                  obtain rfl := Option.some.inj h9
                  have := HD2.out xi d0 HD0.out
                  have := HUN.out
                  omega
                · rw [updF_other _ _ e9] at h9
                  have := HD2.out k9 d9 h9
                  have := HUN.out
                  omega)
              clear hf HSK HMK
              go_wp2_with (first | (at_mapUpdate; refine wpList_mapUpdate_own _ rfl _ _ _ 52 rfl 3 3 lawI Tryz.underlying52 _ w.heap.size n D rfl (HNF.out.below (by repeat (first | with_reducible exact Below.refl _ _ | with_reducible refine bl_plus ?_ | with_reducible refine bl_alloc ?_ _ | with_reducible refine bl_drew ?_ | with_reducible refine bl_drewN ?_ _))).own hn9 _ _ _ rfl rfl hkey _ [] (plainElem_int Tryz.underlying3 (wf_nat (d := d0 + 1) (by omega))) ?_; intro w1 hown1 hgr1; have HNF3 := hide (HNF.out.put (d := d0 + 1) hown1); have HOW3 := hide (HOW.out.grown hgr1 (fun e9 => by have h9 := (HOW.out.lt _ e9).1; omega)); have HBX3 := hide (HBX.out.grown hgr1 (fun e9 => by injection e9 with e9; have := HGB.out; omega)); have HB3 := hide (HB.out.grown hgr1 HB.out.size (fun k hk => by injection hk with hk; omega)); obtain ⟨v0, v1, v2, v3, v4, vl⟩ := blk5 HBX3.out; clear hown1 hgr1) | (at_builtin; refine wpList_append_o rfl (.tmp 48) (.tmp 50) rfl rfl Tryz.underlying28 HII.out.1 HII.out.2.1 HII.out.2.2.1 rfl (by have := HII.out.2.2.2; omega) (w.heap.size + 1) _ (intV ts) (.int .i64 k) _ rfl (HOW3.out.below (bl_alloc (Below.refl _ _) _)) rfl rfl ((Blk.new w1 3 #[.int .i64 k]).cell 0) (by rw [intV_len]; have := HBD.out; omega) (by rw [World.size_alloc]; have := HB3.out.size; have := HNF3.out.own.lt; omega) ?_; intro v' w8 hown8 hgr8 hfr8; have HNF8 := hide ((HNF3.out.below (bl_alloc (Below.refl _ _) (.cells #[.int .i64 k] 3))).grown hgr8 (fun e9 => by have h9 := (HOW3.out.lt _ e9.symm).1; omega)); have HBX8 := hide ((HBX3.out.alloc (.cells #[.int .i64 k] 3)).grown hgr8 ((HOW3.out.below (bl_alloc (Below.refl _ _) (.cells #[.int .i64 k] 3))).ne_blk (HBX3.out.alloc _) (by decide))); have HB8 := hide ((bl_alloc HB3.out (.cells #[.int .i64 k] 3)).grown hgr8 (by rw [World.size_alloc]; have := HB3.out.size; omega) (fun k9 hk9 => by have h9 := (HOW3.out.lt k9 hk9).1; omega)); rw [← intV_snoc] at hown8; have HOW8 := hide hown8; clear hown8 hgr8 hfr8))
              go_roundw
              case rel => exact ⟨j + 1, ts ++ [k], n + 1, _, updF ff k (d0 + 1), hlt, by go_num, HNF8, HOW8, HR, HBX8, HB8, hide (by rw [List.length_append, List.length_singleton]; have := HUN.out; have := HU.out; omega), HD3, hide (by have := HUN.out; have := HNN.out; omega)⟩
              case measure => simp [intOf]; omega
          · obtain rfl : j = xk.length := by omega
            have HR := hide (HBG.out.end_ HG.out.ids HMEM.out)
            go_wp2
            go_roundg (unm ff l + ts.length)
            case measure => have := HU.out; omega
            case rel => exact ⟨ts, n, D, ff, HNF, HOW, HR, HB, hide ⟨Nat.le_refl _, by have := HU.out; have := HGK.out; omega⟩, HD2, HNN⟩
      · have hcc2 : 1 < c4 := by omega
        have HOW2 := hide (HX1 hcc2)
        clear HX1 HX0 HOW
        go_upto_region 6 with (go_at_call 94; (refine (HIX.out _ (by repeat (first | with_reducible exact Below.refl _ _ | with_reducible refine bl_plus ?_ | with_reducible refine bl_alloc ?_ _ | with_reducible refine bl_drew ?_ | with_reducible refine bl_drewN ?_ _))).mono ?_); rintro e w' ⟨rfl, hbl⟩; obtain ⟨os1, n1, rfl⟩ := below_plus hbl; clear hbl)
        have HNF1 := hide (HNF.out.below (bl_plus (os := os1) (n := n1) (Below.refl _ wr)))
        have HOW1 := hide (HOW2.out.below (bl_plus (os := os1) (n := n1) (Below.refl _ wr)))
        have HBW1 := hide (below_chainT HBW.out (bl_plus (os := os1) (n := n1) (Below.refl _ wr)))
        have HGB := hide (show w.heap.size < (plus wr os1 n1).heap.size from by rw [plus_size]; have := HNF.out.own.lt; omega)
        rw [show wr.heap.size + os1.size = (plus wr os1 n1).heap.size from plus_size.symm]
        clear HNF HOW2 HBW q0 q1 q2 q3 q4 y0 HIX hg4 hb
        generalize plus wr os1 n1 = WB at *
        go_wp2
        go_loopw [4, 29] (fun s4 i wr => ∃ (j : Nat) (ts : List Int) (n : Nat) (D : DataW Unit) (ff : Int → Option Nat), j ≤ xk.length ∧ i = .int .i64 j ∧ Hid (NF w.heap.size wr n D ff) ∧ Hid (OwnO 3 wr (w.heap.size + 1) s4 (intV ts)) ∧ Hid (Bg l ff (.mk xi xp xk xt xs) j ts) ∧ Hid (Blk wr WB.heap.size 82 #[.int .i64 xi, .int .i64 xp, .slice A1 xk.length c1, .string xt, .slice A2 xs.length c2]) ∧ Hid (Below w.heap.size w wr) ∧ Hid (unm ff l + ts.length + 1 ≤ gk) ∧ Hid (∀ k d, ff k = some d → d + unm ff l ≤ l.length) ∧ Hid (n + unm ff l ≤ l.length + 1)) (fun _ i _ => xk.length - (intOf i).toNat)
        case atStart => exact ⟨0, t, n, D, ff, Nat.zero_le _, rfl, hide (HNF1.out.below (by repeat (first | with_reducible exact Below.refl _ _ | with_reducible refine bl_plus ?_ | with_reducible refine bl_alloc ?_ _ | with_reducible refine bl_drew ?_ | with_reducible refine bl_drewN ?_ _))), hide (HOW1.out.below (by repeat (first | with_reducible exact Below.refl _ _ | with_reducible refine bl_plus ?_ | with_reducible refine bl_alloc ?_ _ | with_reducible refine bl_drew ?_ | with_reducible refine bl_drewN ?_ _))), HBG, hide (Blk.new WB 82 #[.int .i64 xi, .int .i64 xp, .slice A1 xk.length c1, .string xt, .slice A2 xs.length c2]), hide (below_chainT HBW1.out (by repeat (first | with_reducible exact Below.refl _ _ | with_reducible refine bl_plus ?_ | with_reducible refine bl_alloc ?_ _ | with_reducible refine bl_drew ?_ | with_reducible refine bl_drewN ?_ _))), hide (by have := HU.out.1; rw [List.length_cons] at this; omega), HD2, HNN⟩
        case round =>
          clear HNF1 HOW1 HBG HD2 HNN HU
          obtain ⟨j, ts, n, D, ff, hj, rfl, HNF, HOW, HBG, HBX, HB, HU, HD2, HNN⟩ := hrel
          obtain ⟨g5, o5, c5, hs5⟩ := ownO_form HOW.out
          subst hs5
          by_cases hlt : j < xk.length
          · obtain ⟨b2, o2, rfl, hb2, z0⟩ := ints_get (HKS.out.below HB.out) hlt
            have i1 : (j : Int) < (xk.length : Int) := by omega
            have hkm : xk[j] ∈ xk := List.getElem_mem hlt
            obtain ⟨nk, hnk, hnk0, hnid, -⟩ := HG.out.kid _ HMEM.out _ hkm
            have h64 : In64 xk[j] := by have := HG.out.ids.bound hnk; unfold In64; omega
            have HKID := hide (show ∃ b ∈ l, b.id = xk[j] from ⟨l[nk], List.getElem_mem hnk, hnid⟩)
            have hkey : keyOf Tryz.prog 3 (.int .i64 xk[j]) = some (.int .i64 xk[j]) := keyOf_int_mk Tryz.underlying3 h64.wf
            have hlk := HNF.out.lookOk h64
            obtain ⟨v0, v1, v2, v3, v4, vl⟩ := blk5 HBX.out
            have i5 : xk.length ≤ 500 := HL5.out
            have HSK := hide (fun hm => HBG.out.skip hlt hm)
            have HMK := hide (fun d hd hn => HBG.out.mark (d := d) HMEM.out hlt hd hn)
            have HBD := hide (show ts.length ≤ 1000000 from by have := HU.out; have := HGK.out; omega)
            obtain ⟨d0, hd0⟩ := HBG.out.self
            have hd0 : ff xi = some d0 := hd0
            have hlk2 := HNF.out.look (x := xi) HXI.out
            rw [hd0] at hlk2
            have HD0 := hide hd0
            have hdle : d0 ≤ 2000 := by have := HD2.out xi d0 hd0; omega
            (try simp only at HSK HMK)
            clear hnid hnk hnk0 hkm hd0
            generalize xk[j] = k at *
            cases hf : ff k with
            | some dk =>
              have HR := hide (HSK.out ⟨dk, hf⟩)
              rw [hf] at hlk
              simp only [Option.isSome_some, Option.getD_some] at hlk hlk2
              clear hf HSK HMK
              go_wp2
              go_roundw
              case rel => exact ⟨j + 1, ts, n, D, ff, hlt, by go_num, HNF, HOW, HR, HBX, HB, HU, HD2, HNN⟩
              case measure => simp [intOf]; omega
            | none =>
              have HR := hide (HMK.out d0 HD0.out hf)
              have HUN := hide (unm_upd (d0 + 1) hf HKID.out)
              rw [hf] at hlk
              simp only [Option.isSome_none, Option.getD_none, Option.getD_some] at hlk hlk2
              have hn9 : n < maxLen := by have := HNN.out; unfold maxLen; omega
              have HII := HI9
              have HD3 := hide (show ∀ k9 d9, updF ff k (d0 + 1) k9 = some d9 → d9 + unm (updF ff k (d0 + 1)) l ≤ l.length from fun k9 d9 h9 => by
                by_cases e9 : k9 = k
                · subst e9
                  rw [updF_same] at h9
                  obtain rfl := Option.some.inj h9
                  have := HD2.out xi d0 HD0.out
                  have := HUN.out
                  omega
                · rw [updF_other _ _ e9] at h9
                  have := HD2.out k9 d9 h9
                  have := HUN.out
                  omega)
              clear hf HSK HMK
              go_wp2_with (first | (at_mapUpdate; refine wpList_mapUpdate_own _ rfl _ _ _ 52 rfl 3 3 lawI Tryz.underlying52 _ w.heap.size n D rfl (HNF.out.below (by repeat (first | with_reducible exact Below.refl _ _ | with_reducible refine bl_plus ?_ | with_reducible refine bl_alloc ?_ _ | with_reducible refine bl_drew ?_ | with_reducible refine bl_drewN ?_ _))).own hn9 _ _ _ rfl rfl hkey _ [] (plainElem_int Tryz.underlying3 (wf_nat (d := d0 + 1) (by omega))) ?_; intro w1 hown1 hgr1; have HNF3 := hide (HNF.out.put (d := d0 + 1) hown1); have HOW3 := hide (HOW.out.grown hgr1 (fun e9 => by have h9 := (HOW.out.lt _ e9).1; omega)); have HBX3 := hide (HBX.out.grown hgr1 (fun e9 => by injection e9 with e9; have := HGB.out; omega)); have HB3 := hide (HB.out.grown hgr1 HB.out.size (fun k hk => by injection hk with hk; omega)); obtain ⟨v0, v1, v2, v3, v4, vl⟩ := blk5 HBX3.out; clear hown1 hgr1) | (at_builtin; refine wpList_append_o rfl (.tmp 48) (.tmp 50) rfl rfl Tryz.underlying28 HII.out.1 HII.out.2.1 HII.out.2.2.1 rfl (by have := HII.out.2.2.2; omega) (w.heap.size + 1) _ (intV ts) (.int .i64 k) _ rfl (HOW3.out.below (bl_alloc (Below.refl _ _) _)) rfl rfl ((Blk.new w1 3 #[.int .i64 k]).cell 0) (by rw [intV_len]; have := HBD.out; omega) (by rw [World.size_alloc]; have := HB3.out.size; have := HNF3.out.own.lt; omega) ?_; intro v' w8 hown8 hgr8 hfr8; have HNF8 := hide ((HNF3.out.below (bl_alloc (Below.refl _ _) (.cells #[.int .i64 k] 3))).grown hgr8 (fun e9 => by have h9 := (HOW3.out.lt _ e9.symm).1; omega)); have HBX8 := hide ((HBX3.out.alloc (.cells #[.int .i64 k] 3)).grown hgr8 ((HOW3.out.below (bl_alloc (Below.refl _ _) (.cells #[.int .i64 k] 3))).ne_blk (HBX3.out.alloc _) (by decide))); have HB8 := hide ((bl_alloc HB3.out (.cells #[.int .i64 k] 3)).grown hgr8 (by rw [World.size_alloc]; have := HB3.out.size; omega) (fun k9 hk9 => by have h9 := (HOW3.out.lt k9 hk9).1; omega)); rw [← intV_snoc] at hown8; have HOW8 := hide hown8; clear hown8 hgr8 hfr8))
              go_roundw
              case rel => exact ⟨j + 1, ts ++ [k], n + 1, _, updF ff k (d0 + 1), hlt, by go_num, HNF8, HOW8, HR, HBX8, HB8, hide (by rw [List.length_append, List.length_singleton]; have := HUN.out; have := HU.out; omega), HD3, hide (by have := HUN.out; have := HNN.out; omega)⟩
              case measure => simp [intOf]; omega
          · obtain rfl : j = xk.length := by omega
            have HR := hide (HBG.out.end_ HG.out.ids HMEM.out)
            go_wp2
            go_roundg (unm ff l + ts.length)
            case measure => have := HU.out; omega
            case rel => exact ⟨ts, n, D, ff, HNF, HOW, HR, HB, hide ⟨Nat.le_refl _, by have := HU.out; have := HGK.out; omega⟩, HD2, HNN⟩

end Go.Proofs.YtioppoaijehicaaGreatDoor
