/-
  OPENING ARGUMENTS: values, lists of properties, lists of types, as they come in.
-/
import Derived.Test.YtioppoaijehicaaGreatDoorRowS
import Derived.Test.YtioppoaijehicaaGreatDoorDayA
import Derived.Test.YtioppoaijehicaaGreatDoorPpb
import Derived.Test.YtioppoaijehicaaGreatDoorRows
import Derived.Test.YtioppoaijehicaaGreatDoorTbe
import Derived.Deep.DeepHandedRow
import Derived.OpenShut
set_option linter.all false
namespace Go.Proofs.YtioppoaijehicaaGreatDoor
open Go.ChangeShapes Go.WideShapes Go.ChangeAt Go.Deep Go.RowKit

section
variable {H : Type} {enc : TypeId × Value → H} {w : World} {base : Nat} {held : Bool}

/-- A slice that comes in, where each of its elements can be opened with less fuel. -/
theorem open_elems {α : Type} {Q : List Value → α → Prop} {t e : TypeId} {K fuel : Nat} {cs : List Value} {x : DataW H × List MemPlace} (ht : Tryz.prog.underlying t = some (.slice e)) (hC : Tryz.prog.cellsOf e = K) (hK : 0 < K)
    (ih : ∀ n, n < fuel → ∀ cs x, DataW.trod enc Tryz.prog w base (fun _ => true) held n e cs = some x → ∃ a : α, Q cs a)
    (h : DataW.trod enc Tryz.prog w base (fun _ => true) held fuel t cs = some x) :
    ∃ (A : Option Addr) (len cap : Nat) (l : List α), cs = [.slice A len cap] ∧ len ≤ cap ∧ cap ≤ maxLen ∧ (A = none → cap = 0) ∧ l.length = len ∧ (0 < len → ∃ b off, A = some ⟨b, off, none⟩ ∧ b < w.heap.size ∧
      ∀ i (h : i < l.length), ∃ cs', Q cs' l[i] ∧ cs'.length = K ∧ ∀ j v, cs'[j]? = some v → w.cell? ⟨b, off + i * K + j, none⟩ = some v) := by
  rcases DataW.trod_slice ht h with ⟨rfl, _⟩ | ⟨a, len, cap, elems, rest, n, rfl, rfl, _, _, hl, hm, hlen, hel, _, _⟩
  · exact ⟨none, 0, 0, [], rfl, Nat.le_refl _, by simp [maxLen], fun _ => rfl, rfl, fun h => absurd h (by simp)⟩
  · rw [hC] at hel
    have hget : ∀ i, i < len → ∃ (y : α), ∃ cs', Q cs' y ∧ cs'.length = K ∧ ∀ j v, cs'[j]? = some v → w.cell? (a.add (i * K + j)) = some v := by
      intro i hi
      have h1 := hel i hi
      rw [List.getElem?_eq_getElem (by omega)] at h1
      obtain ⟨cs', hcs', htr⟩ := Option.bind_eq_some_iff.1 h1
      obtain ⟨y, hy⟩ := ih n (by omega) _ _ htr
      obtain ⟨_, hcl, hat⟩ := World.cells?_some hcs'
      refine ⟨y, cs', hy, hcl, fun j v hj => ?_⟩
      have hjl : j < K := by
        have := (List.getElem?_eq_some_iff.1 hj).1
        omega
      rw [← Go.Deep.add_add, hat j hjl, hj]
    by_cases hlen0 : 0 < len
    · obtain ⟨_, cs', _, hcl, hat⟩ := hget 0 hlen0
      have h0 := hat 0 _ (List.getElem?_eq_getElem (show 0 < cs'.length by omega))
      have hspot : a.spot = none := by simpa [Addr.add] using World.cell?_spot h0
      obtain ⟨b, off, spot⟩ := a
      simp only at hspot
      subst hspot
      have hb : b < w.heap.size := by
        have := lt_of_cell h0
        simpa [Addr.add] using this
      obtain ⟨l, hl2, hq⟩ := list_of (Q := fun i (y : α) => ∃ cs', Q cs' y ∧ cs'.length = K ∧ ∀ j v, cs'[j]? = some v → w.cell? ⟨b, off + i * K + j, none⟩ = some v) len (fun i hi' => by
        obtain ⟨y, cs', h1, h2, h3⟩ := hget i hi'
        refine ⟨y, cs', h1, h2, fun j v hj => ?_⟩
        have := h3 j v hj
        rw [add_plain, ← Nat.add_assoc] at this
        exact this)
      exact ⟨_, len, cap, l, rfl, hl, hm, (fun h => by cases h), hl2, fun _ => ⟨b, off, rfl, hb, hq⟩⟩
    · have : len = 0 := by omega
      subst this
      exact ⟨some a, 0, cap, [], rfl, hl, hm, (fun h => by cases h), rfl, fun h => absurd h (by simp)⟩

def ValCells (w : World) (cs : List Value) (v : V) : Prop := ∃ (A : Option Addr) (c : Nat), cs = [.int .i64 v.k, .int .i64 v.i, .int .i64 v.t, .string v.s, .slice A v.l.length c] ∧ LAt w A v.l

theorem open_items {fuel : Nat} {cs : List Value} {x : DataW H × List MemPlace}
    (ih : ∀ n, n < fuel → ∀ cs x, DataW.trod enc Tryz.prog w base (fun _ => true) held n 116 cs = some x → ∃ v : V, ValCells w cs v)
    (h : DataW.trod enc Tryz.prog w base (fun _ => true) held fuel 114 cs = some x) : ∃ (l : List V) (A : Option Addr) (c : Nat), cs = [.slice A l.length c] ∧ LAt w A l := by
  obtain ⟨A, len, cap, l, rfl, h1, h2, _, rfl, hq⟩ := open_elems Tryz.underlying114 (show Tryz.prog.cellsOf 116 = 5 by kernel_rfl) (by decide) ih h
  refine ⟨l, A, cap, rfl, by omega, fun hp => ?_⟩
  obtain ⟨b, off, rfl, hb, hi⟩ := hq hp
  refine ⟨b, off, rfl, hb, fun j hj => ?_⟩
  obtain ⟨cs', ⟨A, c, rfl, hl⟩, _, hc⟩ := hi j hj
  exact VAt_iff.2 ⟨hc 0 _ rfl, hc 1 _ rfl, hc 2 _ rfl, hc 3 _ rfl, A, c, hc 4 _ rfl, hl⟩

set_option maxRecDepth 100000 in
/-- A value that comes in. -/
theorem open_value : ∀ (fuel : Nat) (cs : List Value) (x : DataW H × List MemPlace), DataW.trod enc Tryz.prog w base (fun _ => true) held fuel 116 cs = some x → ∃ v : V, ValCells w cs v := by
  intro fuel
  induction fuel using Nat.strongRecOn with
  | ind fuel ih =>
    intro cs x h
    obtain ⟨ys, n, rfl, _, hlen, hyl, hf⟩ := DataW.trod_struct Tryz.underlying116 h
    have hC : Tryz.prog.cellsOf 116 = 5 := by kernel_rfl
    rw [hC] at hlen
    match cs, hlen with
    | [q0, q1, q2, q3, q4], _ =>
      have hys : ys.length = 5 := hyl
      match ys, hys with
      | [y0, y1, y2, y3, y4], _ =>
        have hi1 : Tryz.prog.cellsOf 3 = 1 := by kernel_rfl
        have hs1 : Tryz.prog.cellsOf 9 = 1 := by kernel_rfl
        have hl1 : Tryz.prog.cellsOf 114 = 1 := by kernel_rfl
        have t0 : DataW.trod enc Tryz.prog w base (fun _ => true) held n 3 (([q0, q1, q2, q3, q4].drop 0).take (Tryz.prog.cellsOf 3)) = some y0 := hf 0 _ rfl
        rw [hi1] at t0
        have t1 : DataW.trod enc Tryz.prog w base (fun _ => true) held n 3 (([q0, q1, q2, q3, q4].drop 1).take (Tryz.prog.cellsOf 3)) = some y1 := hf 1 _ rfl
        rw [hi1] at t1
        have t2 : DataW.trod enc Tryz.prog w base (fun _ => true) held n 3 (([q0, q1, q2, q3, q4].drop 2).take (Tryz.prog.cellsOf 3)) = some y2 := hf 2 _ rfl
        rw [hi1] at t2
        have t3 : DataW.trod enc Tryz.prog w base (fun _ => true) held n 9 (([q0, q1, q2, q3, q4].drop 3).take (Tryz.prog.cellsOf 9)) = some y3 := hf 3 _ rfl
        rw [hs1] at t3
        have t4 : DataW.trod enc Tryz.prog w base (fun _ => true) held n 114 (([q0, q1, q2, q3, q4].drop 4).take (Tryz.prog.cellsOf 114)) = some y4 := hf 4 _ rfl
        rw [hl1] at t4
        simp only [List.drop_zero, List.drop_succ_cons, List.take_succ_cons, List.take_zero] at t0 t1 t2 t3 t4
        obtain ⟨k0, e0, _, _⟩ := DataW.trod_int Tryz.underlying3 t0
        obtain ⟨k1, e1, _, _⟩ := DataW.trod_int Tryz.underlying3 t1
        obtain ⟨k2, e2, _, _⟩ := DataW.trod_int Tryz.underlying3 t2
        obtain ⟨k3, e3, _, _⟩ := DataW.trod_string Tryz.underlying9 t3
        obtain ⟨l, A, c, e4, hl⟩ := open_items (fun m hm cs x h => ih m (by omega) cs x h) t4
        simp only [List.cons.injEq, and_true] at e0 e1 e2 e3 e4
        subst e0 e1 e2 e3 e4
        exact ⟨.mk k0 k1 k2 k3 l, A, c, rfl, hl⟩

set_option maxRecDepth 100000 in
theorem open_prop (fuel : Nat) (cs : List Value) (x : DataW H × List MemPlace) (h : DataW.trod enc Tryz.prog w base (fun _ => true) held fuel 118 cs = some x) :
    ∃ p : PR, p.n.size ≤ maxLen ∧ ∃ cs', cs = .string p.n :: cs' ∧ ValCells w cs' p.v := by
  obtain ⟨ys, n, rfl, _, hlen, hyl, hf⟩ := DataW.trod_struct Tryz.underlying118 h
  have hC : Tryz.prog.cellsOf 118 = 6 := by kernel_rfl
  rw [hC] at hlen
  match cs, hlen with
  | [q0, q1, q2, q3, q4, q5], _ =>
    have hys : ys.length = 2 := hyl
    match ys, hys with
    | [y0, y1], _ =>
      have hs1 : Tryz.prog.cellsOf 9 = 1 := by kernel_rfl
      have hv1 : Tryz.prog.cellsOf 116 = 5 := by kernel_rfl
      have t0 : DataW.trod enc Tryz.prog w base (fun _ => true) held n 9 (([q0, q1, q2, q3, q4, q5].drop 0).take (Tryz.prog.cellsOf 9)) = some y0 := hf 0 _ rfl
      rw [hs1] at t0
      have t1 : DataW.trod enc Tryz.prog w base (fun _ => true) held n 116 (([q0, q1, q2, q3, q4, q5].drop 1).take (Tryz.prog.cellsOf 116)) = some y1 := hf 1 _ rfl
      rw [hv1] at t1
      simp only [List.drop_zero, List.drop_succ_cons, List.take_succ_cons, List.take_zero] at t0 t1
      obtain ⟨s, e0, _, hs⟩ := DataW.trod_string Tryz.underlying9 t0
      obtain ⟨v, hv⟩ := open_value n _ _ t1
      simp only [List.cons.injEq, and_true] at e0
      subst e0
      exact ⟨⟨s, v⟩, hs, _, rfl, hv⟩

set_option maxRecDepth 100000 in
/-- A list of properties that comes in. -/
theorem open_props {v : Value} {d : DataW H} {ps : List MemPlace} {r : Reach} {b0 : Nat} (hv : Value.okWide Tryz.prog w r b0 80 v) (h : DataW.Trod enc Tryz.prog w base (fun _ => true) held 80 v d ps) :
    ∃ (l : List PR) (A : Option Addr) (c : Nat), v = .slice A l.length c ∧ l.length ≤ c ∧ c ≤ maxLen ∧ (A = none → c = 0) ∧ PsAt w A l := by
  obtain ⟨A0, len0, cap0, rfl⟩ := okWide_slice Tryz.underlying80 hv
  obtain ⟨fuel, hf⟩ := h
  obtain ⟨A, len, cap, l, e, h1, h2, h3, rfl, hq⟩ := open_elems Tryz.underlying80 (show Tryz.prog.cellsOf 118 = 6 by kernel_rfl) (by decide) (fun n _ cs x h => open_prop n cs x h) hf
  have e : [Value.slice A0 len0 cap0] = [.slice A l.length cap] := e
  simp only [List.cons.injEq, and_true] at e
  refine ⟨l, A, cap, e, h1, h2, h3, by omega, fun hp => ?_⟩
  obtain ⟨b, off, rfl, hb, hi⟩ := hq hp
  refine ⟨b, off, rfl, hb, fun j hj => ?_⟩
  obtain ⟨cs', ⟨hs, _, rfl, A, c, rfl, hl⟩, _, hc⟩ := hi j hj
  exact ⟨hc 0 _ rfl, hs, VAt_iff.2 ⟨hc 1 _ rfl, hc 2 _ rfl, hc 3 _ rfl, hc 4 _ rfl, A, c, hc 5 _ rfl, hl⟩⟩

set_option maxRecDepth 100000 in
theorem open_strs {fuel : Nat} {cs : List Value} {x : DataW H × List MemPlace} (h : DataW.trod enc Tryz.prog w base (fun _ => true) held fuel 109 cs = some x) :
    ∃ (l : List ByteArray) (A : Option Addr) (c : Nat), cs = [.slice A l.length c] ∧ l.length ≤ c ∧ SAt w A l := by
  obtain ⟨A, len, cap, l, rfl, h1, h2, _, rfl, hq⟩ := open_elems (Q := fun cs (s : ByteArray) => cs = [.string s]) Tryz.underlying109 (show Tryz.prog.cellsOf 9 = 1 by kernel_rfl) (by decide)
    (fun n _ cs x h => by
      obtain ⟨s, e, _⟩ := DataW.trod_string Tryz.underlying9 h
      exact ⟨s, e⟩) h
  refine ⟨l, A, cap, rfl, h1, by omega, fun hp => ?_⟩
  obtain ⟨b, off, rfl, hb, hi⟩ := hq hp
  refine ⟨b, off, rfl, hb, fun j hj => ?_⟩
  obtain ⟨cs', rfl, _, hc⟩ := hi j hj
  have := hc 0 _ rfl
  rwa [Nat.mul_one, Nat.add_zero] at this

end

end Go.Proofs.YtioppoaijehicaaGreatDoor
/-
  OPENING: blocks as they come in; and THE ROW OF A LAW, SECOND FORM, THAT LISTS VARIABLES.
-/
set_option linter.all false
namespace Go.Proofs.YtioppoaijehicaaGreatDoor
open Go.ChangeShapes Go.WideShapes Go.ChangeAt Go.Deep Go.RowKit

section
variable {H : Type} {enc : TypeId × Value → H} {w : World} {base : Nat} {held : Bool}

theorem in64_wf {k : Int} (h : (Lit.int .i64 k).wf = true) : In64 k := by
  unfold In64
  simp only [Lit.wf, IntKind.min, IntKind.max, IntKind.signed, IntKind.bits, Bool.and_eq_true, decide_eq_true_eq, if_true] at h
  omega

set_option maxRecDepth 100000 in
theorem open_kids {fuel : Nat} {cs : List Value} {x : DataW H × List MemPlace} (h : DataW.trod enc Tryz.prog w base (fun _ => true) held fuel 28 cs = some x) :
    ∃ (l : List Int) (A : Option Addr) (c : Nat), cs = [.slice A l.length c] ∧ l.length ≤ c ∧ IntsAt w A l ∧ ∀ k ∈ l, In64 k := by
  obtain ⟨A, len, cap, l, rfl, h1, h2, _, rfl, hq⟩ := open_elems (Q := fun cs (k : Int) => cs = [.int .i64 k] ∧ In64 k) Tryz.underlying28 (show Tryz.prog.cellsOf 3 = 1 by kernel_rfl) (by decide)
    (fun n _ cs x h => by
      obtain ⟨k, e, _, hw⟩ := DataW.trod_int Tryz.underlying3 h
      exact ⟨k, e, in64_wf hw⟩) h
  refine ⟨l, A, cap, rfl, h1, fun hp => ?_, fun k hk => ?_⟩
  · obtain ⟨b, off, rfl, hb, hi⟩ := hq hp
    refine ⟨b, off, rfl, hb, fun j hj => ?_⟩
    obtain ⟨cs', ⟨rfl, _⟩, _, hc⟩ := hi j hj
    have := hc 0 _ rfl
    rwa [Nat.mul_one, Nat.add_zero] at this
  · obtain ⟨j, hj, rfl⟩ := List.getElem_of_mem hk
    obtain ⟨b, off, rfl, hb, hi⟩ := hq (by omega)
    obtain ⟨cs', ⟨_, h⟩, _, _⟩ := hi j hj
    exact h

theorem open_propsC {fuel : Nat} {cs : List Value} {x : DataW H × List MemPlace} (h : DataW.trod enc Tryz.prog w base (fun _ => true) held fuel 80 cs = some x) :
    ∃ (l : List PR) (A : Option Addr) (c : Nat), cs = [.slice A l.length c] ∧ PsAt w A l := by
  obtain ⟨A, len, cap, l, rfl, h1, h2, h3, rfl, hq⟩ := open_elems Tryz.underlying80 (show Tryz.prog.cellsOf 118 = 6 by kernel_rfl) (by decide) (fun n _ cs x h => open_prop n cs x h) h
  refine ⟨l, A, cap, rfl, by omega, fun hp => ?_⟩
  obtain ⟨b, off, rfl, hb, hi⟩ := hq hp
  refine ⟨b, off, rfl, hb, fun j hj => ?_⟩
  obtain ⟨cs', ⟨hs, _, rfl, A, c, rfl, hl⟩, _, hc⟩ := hi j hj
  exact ⟨hc 0 _ rfl, hs, VAt_iff.2 ⟨hc 1 _ rfl, hc 2 _ rfl, hc 3 _ rfl, hc 4 _ rfl, A, c, hc 5 _ rfl, hl⟩⟩

def BlkCells (w : World) (cs : List Value) (x : BK) : Prop := ∃ (A1 : Option Addr) (c1 : Nat) (A2 : Option Addr) (c2 : Nat), cs = [.int .i64 x.id, .int .i64 x.par, .slice A1 x.kids.length c1, .string x.txt, .slice A2 x.ps.length c2] ∧ IntsAt w A1 x.kids ∧ PsAt w A2 x.ps ∧ x.kids.length ≤ c1 ∧ ∀ k ∈ x.kids, In64 k

set_option maxRecDepth 100000 in
theorem open_block (fuel : Nat) (cs : List Value) (x : DataW H × List MemPlace) (h : DataW.trod enc Tryz.prog w base (fun _ => true) held fuel 82 cs = some x) : ∃ b : BK, BlkCells w cs b := by
  obtain ⟨ys, n, rfl, _, hlen, hyl, hf⟩ := DataW.trod_struct Tryz.underlying82 h
  have hC : Tryz.prog.cellsOf 82 = 5 := by kernel_rfl
  rw [hC] at hlen
  match cs, hlen with
  | [q0, q1, q2, q3, q4], _ =>
    have hys : ys.length = 5 := hyl
    match ys, hys with
    | [y0, y1, y2, y3, y4], _ =>
      have hi1 : Tryz.prog.cellsOf 3 = 1 := by kernel_rfl
      have hs1 : Tryz.prog.cellsOf 9 = 1 := by kernel_rfl
      have hk1 : Tryz.prog.cellsOf 28 = 1 := by kernel_rfl
      have hp1 : Tryz.prog.cellsOf 80 = 1 := by kernel_rfl
      have t0 : DataW.trod enc Tryz.prog w base (fun _ => true) held n 3 (([q0, q1, q2, q3, q4].drop 0).take (Tryz.prog.cellsOf 3)) = some y0 := hf 0 _ rfl
      rw [hi1] at t0
      have t1 : DataW.trod enc Tryz.prog w base (fun _ => true) held n 3 (([q0, q1, q2, q3, q4].drop 1).take (Tryz.prog.cellsOf 3)) = some y1 := hf 1 _ rfl
      rw [hi1] at t1
      have t2 : DataW.trod enc Tryz.prog w base (fun _ => true) held n 28 (([q0, q1, q2, q3, q4].drop 2).take (Tryz.prog.cellsOf 28)) = some y2 := hf 2 _ rfl
      rw [hk1] at t2
      have t3 : DataW.trod enc Tryz.prog w base (fun _ => true) held n 9 (([q0, q1, q2, q3, q4].drop 3).take (Tryz.prog.cellsOf 9)) = some y3 := hf 3 _ rfl
      rw [hs1] at t3
      have t4 : DataW.trod enc Tryz.prog w base (fun _ => true) held n 80 (([q0, q1, q2, q3, q4].drop 4).take (Tryz.prog.cellsOf 80)) = some y4 := hf 4 _ rfl
      rw [hp1] at t4
      simp only [List.drop_zero, List.drop_succ_cons, List.take_succ_cons, List.take_zero] at t0 t1 t2 t3 t4
      obtain ⟨k0, e0, _, _⟩ := DataW.trod_int Tryz.underlying3 t0
      obtain ⟨k1, e1, _, _⟩ := DataW.trod_int Tryz.underlying3 t1
      obtain ⟨ks, A1, c1, e2, hc1, hk, h64⟩ := open_kids t2
      obtain ⟨s, e3, _, _⟩ := DataW.trod_string Tryz.underlying9 t3
      obtain ⟨ps, A2, c2, e4, hp⟩ := open_propsC t4
      simp only [List.cons.injEq, and_true] at e0 e1 e2 e3 e4
      subst e0 e1 e2 e3 e4
      exact ⟨⟨k0, k1, ks, s, ps⟩, A1, c1, A2, c2, rfl, hk, hp, hc1, h64⟩

set_option maxRecDepth 100000 in
/-- A base that comes in. -/
theorem open_blocks {v : Value} {d : DataW H} {ps : List MemPlace} {r : Reach} {b0 : Nat} (hv : Value.okWide Tryz.prog w r b0 22 v) (h : DataW.Trod enc Tryz.prog w base (fun _ => true) held 22 v d ps) :
    ∃ (l : List BK) (A : Option Addr) (c : Nat), v = .slice A l.length c ∧ l.length ≤ c ∧ BsAt w A l ∧ ∀ b ∈ l, ∀ k ∈ b.kids, In64 k := by
  obtain ⟨A0, len0, cap0, rfl⟩ := okWide_slice Tryz.underlying22 hv
  obtain ⟨fuel, hf⟩ := h
  obtain ⟨A, len, cap, l, e, h1, h2, h3, rfl, hq⟩ := open_elems Tryz.underlying22 (show Tryz.prog.cellsOf 82 = 5 by kernel_rfl) (by decide) (fun n _ cs x h => open_block n cs x h) hf
  have e : [Value.slice A0 len0 cap0] = [.slice A l.length cap] := e
  simp only [List.cons.injEq, and_true] at e
  refine ⟨l, A, cap, e, h1, ⟨by omega, fun hp => ?_⟩, fun b hb k hk => ?_⟩
  · obtain ⟨b, off, rfl, hb, hi⟩ := hq hp
    refine ⟨b, off, rfl, hb, fun j hj => ?_⟩
    obtain ⟨cs', ⟨A1, c1, A2, c2, rfl, hk, hps, hc1, _⟩, _, hc⟩ := hi j hj
    exact ⟨hc 0 _ rfl, hc 1 _ rfl, hc 3 _ rfl, A1, c1, A2, c2, hc 2 _ rfl, hk, hc 4 _ rfl, hps, hc1⟩
  · obtain ⟨j, hj, rfl⟩ := List.getElem_of_mem hb
    obtain ⟨b, off, rfl, hb, hi⟩ := hq (by omega)
    obtain ⟨cs', ⟨A1, c1, A2, c2, rfl, _, _, _, h64⟩, _, _⟩ := hi j hj
    exact h64 k hk
end

set_option maxRecDepth 100000 in
/-- A law's second row, variables listed, lifted. -/
theorem law_lifted_row {fid : FuncId} {F : Func} {s : ChangeSpec} {T : TypeId} {os : Os} (laid : List (String × DataW Unit)) (started : os.Started) {H : Type} {enc : TypeId × Value → H} {Fi : Stop.Interp}
    (noInit : Tryz.checked.prog.inits.idxOf? fid = none) (hfn : Tryz.checked.prog.funcs[fid]? = some F)
    (hvars : s.vars = []) (hres : F.resultTypes = #[T]) (hT : Tryz.prog.underlying T = some .bool)
    (hread : ∀ t ∈ F.params.toList, Tryz.prog.readableRec t = true ∧ t < Tryz.prog.types.size)
    (hsp : ∀ ds : List (DataW H), ds.length = F.params.toList.length → s.fn H ds = { results := [.lit (.bool true)], args := ds })
    (witness : ∃ (w : World) (tape : Tape) (i : Input), w.os = os ∧ (w.forCall tape i).Shaped Tryz.checked.prog ∧ i.vars = [] ∧ Input.okWide Tryz.checked.prog (w.forCall tape i) .any w.heap.size fid i ∧
      (Rows.OpenSpec.upto s).preRow enc Tryz.checked.prog F [] false laid (w.forCall tape i).memory i.args ∧ ({} : Assume).holds Tryz.checked.prog (lone (Frame.enter Tryz.checked.prog fid i.args .normal) [] (w.forCall tape i)))
    (contract : ∀ (W : World) (base : Nat) (args : Array Value) (ds : List (DataW H)) (p : List MemPlace),
      (∀ (j : Nat) t v, F.params[j]? = some t → args[j]? = some v → Value.okWide Tryz.prog W .any base t v) →
      DataW.TrodAll enc Tryz.prog W 0 (fun _ => true) true F.params.toList args.toList ds p →
      (∀ x ∈ p, x.block < W.heap.size) → Rows.uptoSmall H ds = true → laidMetH Tryz.prog laid W → W.ShapedOpen Tryz.prog →
      Calls Tryz.prog fid args W fun e W' => e = .returned (.bool true) ∧ Below W.heap.size W W') :
    ReturnsInHanded {} Tryz.checked os fid .any ((Rows.OpenSpec.upto s).preRow enc Tryz.prog F [] false laid) (((Rows.OpenSpec.upto s).at Fi).post enc Tryz.prog F false true false false) := by
  refine returnsInHanded_of_row (C := Tryz.checked) (s := Rows.OpenSpec.upto s) Tryz.own started noInit hfn witness ?_
  intro W base args ds gs before hval hW _ hk _ hL hsh _
  have hk := hk _ rfl
  have hW0 : DataW.Whole enc Tryz.prog F.params.toList s.vars false W args.toList ds gs before := hW
  have hlt : ∀ p ∈ before, p.block < W.heap.size := fun p hp => hW0.lt p hp
  obtain ⟨p, q, hA, hV, rfl, hfz, hnd⟩ := hW
  have hV' := hV
  rw [show (Rows.OpenSpec.upto s).vars = s.vars from rfl, hvars] at hV'
  obtain ⟨rfl, rfl⟩ := trodVars_none hV'
  simp only [List.append_nil] at hlt hk
  refine (contract W base args ds p hval hA hlt hk hL hsh).mono fun e W' ⟨he, hb⟩ => ?_
  exact ⟨_, he, law_post Tryz.laidOut hvars hres hT hread hsp hW0 hb⟩

end Go.Proofs.YtioppoaijehicaaGreatDoor
