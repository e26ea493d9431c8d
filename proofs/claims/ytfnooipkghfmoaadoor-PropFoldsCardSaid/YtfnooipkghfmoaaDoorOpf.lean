/-
  OPENING ARGUMENTS: values and lists of properties as they come in, with the bound that the reach of memory sets on their lists.
-/
import Derived.Test.YtfnooipkghfmoaaDoorOpv
import Derived.Test.YtfnooipkghfmoaaDoorCpv
set_option linter.all false
namespace Go.Proofs.YtfnooipkghfmoaaDoor
open Go.ChangeShapes Go.WideShapes Go.ChangeAt Go.Deep Go.RowKit

theorem weightsAll_of {H : Type} {P : Program} {e : TypeId} : ∀ {l : List (DataW H)} {d : DataW H}, d ∈ l → ∀ n ∈ d.weights P e, n ∈ DataW.weightsAll P e l
  | d' :: r, d, hd, n, hn => by
    simp only [DataW.weightsAll, List.mem_append]
    rcases List.mem_cons.1 hd with rfl | h
    · exact Or.inl hn
    · exact Or.inr (weightsAll_of h n hn)
theorem bytes_val : Tryd.prog.bytesOf 24 = 64 := by kernel_rfl

section
variable {H : Type} {enc : TypeId × Value → H} {w : World} {base : Nat} {held : Bool}

/-- A slice that comes in, with the weights of what it holds. -/
theorem open_elemsW {α : Type} {Q : List Value → α → Prop} {t e : TypeId} {K fuel : Nat} {cs : List Value} {x : DataW H × List MemPlace} (ht : Tryd.prog.underlying t = some (.slice e)) (hC : Tryd.prog.cellsOf e = K) (hK : 0 < K)
    (ih : ∀ n, n < fuel → ∀ cs x, DataW.trod enc Tryd.prog w base (fun _ => true) held n e cs = some x → (∀ m ∈ x.1.weights Tryd.prog e, m ≤ reachBytes) → ∃ a : α, Q cs a)
    (h : DataW.trod enc Tryd.prog w base (fun _ => true) held fuel t cs = some x) (hw : ∀ m ∈ x.1.weights Tryd.prog t, m ≤ reachBytes) :
    ∃ (A : Option Addr) (len cap : Nat) (l : List α), cs = [.slice A len cap] ∧ len ≤ cap ∧ cap ≤ maxLen ∧ (A = none → cap = 0) ∧ len * Tryd.prog.bytesOf e ≤ reachBytes ∧ l.length = len ∧ (0 < len → ∃ b off, A = some ⟨b, off, none⟩ ∧ b < w.heap.size ∧
      ∀ i (h : i < l.length), ∃ cs', Q cs' l[i] ∧ cs'.length = K ∧ ∀ j v, cs'[j]? = some v → w.cell? ⟨b, off + i * K + j, none⟩ = some v) := by
  rcases DataW.trod_slice ht h with ⟨rfl, _⟩ | ⟨a, len, cap, elems, rest, n, rfl, rfl, rfl, _, hl, hm, hlen, hel, _, _⟩
  · exact ⟨none, 0, 0, [], rfl, Nat.le_refl _, by simp [maxLen], fun _ => rfl, by simp, rfl, fun h => absurd h (by simp)⟩
  · rw [hC] at hel
    simp only [DataW.weights, ht, List.mem_cons, List.mem_append, List.length_map] at hw
    have hwb : len * Tryd.prog.bytesOf e ≤ reachBytes := by
      have := hw _ (Or.inl rfl)
      rw [hlen] at this
      exact Nat.le_trans (Nat.mul_le_mul_right _ (Nat.le_add_right _ _)) this
    have hwe : ∀ i (hi : i < elems.length), ∀ m ∈ (elems[i].1).weights Tryd.prog e, m ≤ reachBytes := fun i hi m hm => hw m (Or.inr (Or.inl (weightsAll_of (List.mem_map_of_mem (List.getElem_mem hi)) m hm)))
    have hget : ∀ i, i < len → ∃ (y : α), ∃ cs', Q cs' y ∧ cs'.length = K ∧ ∀ j v, cs'[j]? = some v → w.cell? (a.add (i * K + j)) = some v := by
      intro i hi
      have h1 := hel i hi
      rw [List.getElem?_eq_getElem (by omega)] at h1
      obtain ⟨cs', hcs', htr⟩ := Option.bind_eq_some_iff.1 h1
      obtain ⟨y, hy⟩ := ih n (by omega) _ _ htr (hwe i (by omega))
      obtain ⟨_, hcl, hat⟩ := World.cells?_some hcs'
      refine ⟨y, cs', hy, hcl, fun j v hj => ?_⟩
      have hjl : j < K := by
        have := (List.getElem?_eq_some_iff.1 hj).1
        omega
      rw [← Go.Deep.add_add, hat j hjl, hj]
    by_cases hlen0 : 0 < len
    · obtain ⟨_, cs', _, hcl, hat⟩ := hget 0 hlen0
      have h0 := hat 0 _ (List.getElem?_eq_getElem (show 0 < cs'.length by omega))
      have hspot : a.spot = none := by simpa [Addr.add] using World.cell?_spot h0
      obtain ⟨b, off, spot⟩ := a
      simp only at hspot
      subst hspot
      have hb : b < w.heap.size := by
        have := lt_of_cell h0
        simpa [Addr.add] using this
      obtain ⟨l, hl2, hq⟩ := list_of (Q := fun i (y : α) => ∃ cs', Q cs' y ∧ cs'.length = K ∧ ∀ j v, cs'[j]? = some v → w.cell? ⟨b, off + i * K + j, none⟩ = some v) len (fun i hi' => by
        obtain ⟨y, cs', h1, h2, h3⟩ := hget i hi'
        refine ⟨y, cs', h1, h2, fun j v hj => ?_⟩
        have := h3 j v hj
        rw [add_plain, ← Nat.add_assoc] at this
        exact this)
      exact ⟨_, len, cap, l, rfl, hl, hm, (fun h => by cases h), hwb, hl2, fun _ => ⟨b, off, rfl, hb, hq⟩⟩
    · have : len = 0 := by omega
      subst this
      exact ⟨some a, 0, cap, [], rfl, hl, hm, (fun h => by cases h), hwb, rfl, fun h => absurd h (by simp)⟩

theorem open_itemsF {fuel : Nat} {cs : List Value} {x : DataW H × List MemPlace}
    (ih : ∀ n, n < fuel → ∀ cs x, DataW.trod enc Tryd.prog w base (fun _ => true) held n 24 cs = some x → (∀ m ∈ x.1.weights Tryd.prog 24, m ≤ reachBytes) → ∃ v : V, ValCells w cs v ∧ v.fits)
    (h : DataW.trod enc Tryd.prog w base (fun _ => true) held fuel 22 cs = some x) (hw : ∀ m ∈ x.1.weights Tryd.prog 22, m ≤ reachBytes) :
    ∃ (l : List V) (A : Option Addr) (c : Nat), cs = [.slice A l.length c] ∧ LAt w A l ∧ l.length ≤ c ∧ l.length * 64 ≤ 140737488351232 ∧ ∀ j (h : j < l.length), (l[j]).fits := by
  obtain ⟨A, len, cap, l, rfl, h1, h2, _, hb64, rfl, hq⟩ := open_elemsW (Q := fun cs (v : V) => ValCells w cs v ∧ v.fits) Tryd.underlying22 (show Tryd.prog.cellsOf 24 = 5 by kernel_rfl) (by decide) ih h hw
  rw [bytes_val] at hb64
  refine ⟨l, A, cap, rfl, ⟨by omega, fun hp => ?_⟩, h1, hb64, fun j hj => ?_⟩
  · obtain ⟨b, off, rfl, hb, hi⟩ := hq hp
    refine ⟨b, off, rfl, hb, fun j hj => ?_⟩
    obtain ⟨cs', ⟨⟨A, c, rfl, hl⟩, _⟩, _, hc⟩ := hi j hj
    exact VAt_iff.2 ⟨hc 0 _ rfl, hc 1 _ rfl, hc 2 _ rfl, hc 3 _ rfl, A, c, hc 4 _ rfl, hl⟩
  · obtain ⟨b, off, rfl, hb, hi⟩ := hq (by omega)
    obtain ⟨cs', ⟨_, hf⟩, _⟩ := hi j hj
    exact hf

set_option maxRecDepth 100000 in
/-- A value that comes in; its lists are short enough. -/
theorem open_valueF : ∀ (fuel : Nat) (cs : List Value) (x : DataW H × List MemPlace), DataW.trod enc Tryd.prog w base (fun _ => true) held fuel 24 cs = some x → (∀ m ∈ x.1.weights Tryd.prog 24, m ≤ reachBytes) → ∃ v : V, ValCells w cs v ∧ v.fits := by
  intro fuel
  induction fuel using Nat.strongRecOn with
  | ind fuel ih =>
    intro cs x h hw
    obtain ⟨ys, n, rfl, rfl, hlen, hyl, hf⟩ := DataW.trod_struct Tryd.underlying24 h
    simp only [DataW.weights, Tryd.underlying24] at hw
    have hC : Tryd.prog.cellsOf 24 = 5 := by kernel_rfl
    rw [hC] at hlen
    match cs, hlen with
    | [q0, q1, q2, q3, q4], _ =>
      have hys : ys.length = 5 := hyl
      match ys, hys with
      | [y0, y1, y2, y3, y4], _ =>
        have hi1 : Tryd.prog.cellsOf 3 = 1 := by kernel_rfl
        have hs1 : Tryd.prog.cellsOf 9 = 1 := by kernel_rfl
        have hl1 : Tryd.prog.cellsOf 22 = 1 := by kernel_rfl
        have t0 : DataW.trod enc Tryd.prog w base (fun _ => true) held n 3 (([q0, q1, q2, q3, q4].drop 0).take (Tryd.prog.cellsOf 3)) = some y0 := hf 0 _ rfl
        rw [hi1] at t0
        have t1 : DataW.trod enc Tryd.prog w base (fun _ => true) held n 3 (([q0, q1, q2, q3, q4].drop 1).take (Tryd.prog.cellsOf 3)) = some y1 := hf 1 _ rfl
        rw [hi1] at t1
        have t2 : DataW.trod enc Tryd.prog w base (fun _ => true) held n 3 (([q0, q1, q2, q3, q4].drop 2).take (Tryd.prog.cellsOf 3)) = some y2 := hf 2 _ rfl
        rw [hi1] at t2
        have t3 : DataW.trod enc Tryd.prog w base (fun _ => true) held n 9 (([q0, q1, q2, q3, q4].drop 3).take (Tryd.prog.cellsOf 9)) = some y3 := hf 3 _ rfl
        rw [hs1] at t3
        have t4 : DataW.trod enc Tryd.prog w base (fun _ => true) held n 22 (([q0, q1, q2, q3, q4].drop 4).take (Tryd.prog.cellsOf 22)) = some y4 := hf 4 _ rfl
        rw [hl1] at t4
        have hw4 : ∀ m ∈ y4.1.weights Tryd.prog 22, m ≤ reachBytes := fun m hm => hw m (DataW.weights_mem_each (j := 4) (d := y4.1) rfl rfl m hm)
        simp only [List.drop_zero, List.drop_succ_cons, List.take_succ_cons, List.take_zero] at t0 t1 t2 t3 t4
        obtain ⟨k0, e0, _, _⟩ := DataW.trod_int Tryd.underlying3 t0
        obtain ⟨k1, e1, _, _⟩ := DataW.trod_int Tryd.underlying3 t1
        obtain ⟨k2, e2, _, _⟩ := DataW.trod_int Tryd.underlying3 t2
        obtain ⟨k3, e3, _, _⟩ := DataW.trod_string Tryd.underlying9 t3
        obtain ⟨l, A, c, e4, hl, _, hl64, hlf⟩ := open_itemsF (fun m hm cs x h => ih m (by omega) cs x h) t4 hw4
        simp only [List.cons.injEq, and_true] at e0 e1 e2 e3 e4
        subst e0 e1 e2 e3 e4
        exact ⟨.mk k0 k1 k2 k3 l, ⟨A, c, rfl, hl⟩, V.fits_iff.2 ⟨hl64, hlf⟩⟩

set_option maxRecDepth 100000 in
theorem open_propF (fuel : Nat) (cs : List Value) (x : DataW H × List MemPlace) (h : DataW.trod enc Tryd.prog w base (fun _ => true) held fuel 52 cs = some x) (hw : ∀ m ∈ x.1.weights Tryd.prog 52, m ≤ reachBytes) :
    ∃ p : PR, p.n.size ≤ maxLen ∧ p.v.fits ∧ ∃ cs', cs = .string p.n :: cs' ∧ ValCells w cs' p.v := by
  obtain ⟨ys, n, rfl, rfl, hlen, hyl, hf⟩ := DataW.trod_struct Tryd.underlying52 h
  simp only [DataW.weights, Tryd.underlying52] at hw
  have hC : Tryd.prog.cellsOf 52 = 6 := by kernel_rfl
  rw [hC] at hlen
  match cs, hlen with
  | [q0, q1, q2, q3, q4, q5], _ =>
    have hys : ys.length = 2 := hyl
    match ys, hys with
    | [y0, y1], _ =>
      have hs1 : Tryd.prog.cellsOf 9 = 1 := by kernel_rfl
      have hv1 : Tryd.prog.cellsOf 24 = 5 := by kernel_rfl
      have t0 : DataW.trod enc Tryd.prog w base (fun _ => true) held n 9 (([q0, q1, q2, q3, q4, q5].drop 0).take (Tryd.prog.cellsOf 9)) = some y0 := hf 0 _ rfl
      rw [hs1] at t0
      have t1 : DataW.trod enc Tryd.prog w base (fun _ => true) held n 24 (([q0, q1, q2, q3, q4, q5].drop 1).take (Tryd.prog.cellsOf 24)) = some y1 := hf 1 _ rfl
      rw [hv1] at t1
      have hw1 : ∀ m ∈ y1.1.weights Tryd.prog 24, m ≤ reachBytes := fun m hm => hw m (DataW.weights_mem_each (j := 1) (d := y1.1) rfl rfl m hm)
      simp only [List.drop_zero, List.drop_succ_cons, List.take_succ_cons, List.take_zero] at t0 t1
      obtain ⟨s, e0, _, hs⟩ := DataW.trod_string Tryd.underlying9 t0
      obtain ⟨v, hv, hvf⟩ := open_valueF n _ _ t1 hw1
      simp only [List.cons.injEq, and_true] at e0
      subst e0
      exact ⟨⟨s, v⟩, hs, hvf, _, rfl, hv⟩
set_option maxRecDepth 100000 in
/-- A list of properties that comes in. -/
theorem open_propsF {v : Value} {d : DataW H} {ps : List MemPlace} {r : Reach} {b0 : Nat} (hv : Value.okWide Tryd.prog w r b0 48 v) (h : DataW.Trod enc Tryd.prog w base (fun _ => true) held 48 v d ps) (hw : ∀ m ∈ d.weights Tryd.prog 48, m ≤ reachBytes) :
    ∃ (l : List PR) (A : Option Addr) (c : Nat), v = .slice A l.length c ∧ l.length ≤ c ∧ c ≤ maxLen ∧ (A = none → c = 0) ∧ PsAt w A l ∧ ∀ p ∈ l, p.v.fits := by
  obtain ⟨A0, len0, cap0, rfl⟩ := okWide_slice Tryd.underlying48 hv
  obtain ⟨fuel, hf⟩ := h
  obtain ⟨A, len, cap, l, e, h1, h2, h3, _, rfl, hq⟩ := open_elemsW (Q := fun cs (p : PR) => p.n.size ≤ maxLen ∧ p.v.fits ∧ ∃ cs', cs = .string p.n :: cs' ∧ ValCells w cs' p.v) Tryd.underlying48 (show Tryd.prog.cellsOf 52 = 6 by kernel_rfl) (by decide) (fun n _ cs x h => open_propF n cs x h) hf hw
  have e : [Value.slice A0 len0 cap0] = [.slice A l.length cap] := e
  simp only [List.cons.injEq, and_true] at e
  refine ⟨l, A, cap, e, h1, h2, h3, ⟨by omega, fun hp => ?_⟩, fun p hp => ?_⟩
  · obtain ⟨b, off, rfl, hb, hi⟩ := hq hp
    refine ⟨b, off, rfl, hb, fun j hj => ?_⟩
    obtain ⟨cs', ⟨hs, _, _, rfl, A, c, rfl, hl⟩, _, hc⟩ := hi j hj
    exact ⟨hc 0 _ rfl, hs, VAt_iff.2 ⟨hc 1 _ rfl, hc 2 _ rfl, hc 3 _ rfl, hc 4 _ rfl, A, c, hc 5 _ rfl, hl⟩⟩
  · obtain ⟨j, hj, rfl⟩ := List.mem_iff_getElem.1 hp
    obtain ⟨b, off, rfl, hb, hi⟩ := hq (by omega)
    obtain ⟨cs', ⟨_, hf, _⟩, _⟩ := hi j hj
    exact hf
set_option maxRecDepth 100000 in
/-- A value that comes in as an argument. -/
theorem open_valF {v : Value} {d : DataW H} {ps : List MemPlace} {r : Reach} {b0 : Nat} (hv : Value.okWide Tryd.prog w r b0 24 v) (h : DataW.Trod enc Tryd.prog w base (fun _ => true) held 24 v d ps) (hw : ∀ m ∈ d.weights Tryd.prog 24, m ≤ reachBytes) :
    ∃ (x : V) (A : Option Addr) (c : Nat), v = x.arg A c ∧ LAt w A x.l ∧ x.fits := by
  obtain ⟨cs, rfl, _⟩ := okWide_struct Tryd.underlying24 hv
  obtain ⟨fuel, hf⟩ := h
  obtain ⟨x, ⟨A, c, hx, hl⟩, hfit⟩ := open_valueF fuel _ _ hf hw
  refine ⟨x, A, c, ?_, hl, hfit⟩
  obtain ⟨cs⟩ := cs
  have hx' : cs = _ := hx
  rw [hx']
  rfl
end

end Go.Proofs.YtfnooipkghfmoaaDoor
