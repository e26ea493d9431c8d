/-
  OPENING A QUERY THAT COMES IN, WITH THE BOUND THAT ITS BULK SETS; what is found is short.
-/
import Derived.Test.YtfnooipkghfmoaaSnk
import Derived.Test.YtfnooipkghfmoaaRowU
set_option linter.all false
namespace Go.Proofs.Ytfnooipkghfmoaa
open Go.ChangeShapes Go.WideShapes Go.ChangeAt Go.Deep Go.RowKit

/-! ### Sums -/
theorem sum_le {α : Type} {f g : α → Nat} (h : ∀ a, f a ≤ g a) : ∀ l : List α, (l.map f).sum ≤ (l.map g).sum
  | [] => Nat.le_refl _
  | a :: l => by
    have h1 := sum_le h l
    have h2 := h a
    simp only [List.map_cons, List.sum_cons]
    omega
theorem sum_mem {α : Type} {f : α → Nat} : ∀ {l : List α} {a : α}, a ∈ l → f a ≤ (l.map f).sum
  | b :: l, a, h => by
    simp only [List.map_cons, List.sum_cons]
    rcases List.mem_cons.1 h with rfl | h
    · omega
    · have := sum_mem (f := f) h
      omega
theorem sum_len {α : Type} {f : α → Nat} (h : ∀ a, 1 ≤ f a) : ∀ l : List α, l.length ≤ (l.map f).sum
  | [] => Nat.le_refl _
  | a :: l => by
    have h1 := sum_len h l
    have h2 := h a
    simp only [List.map_cons, List.sum_cons, List.length_cons]
    omega
theorem bulk_sum {H α : Type} {B : α → Nat} : ∀ (l : List α) (es : List (DataW H)), l.length = es.length → (∀ i (h : i < l.length) (h' : i < es.length), B l[i] ≤ Rows.uptoBulk es[i]) → (l.map B).sum ≤ Rows.uptoBulkAll es
  | [], es, _, _ => Nat.zero_le _
  | a :: l, [], h, _ => by simp at h
  | a :: l, e :: es, h, hi => by
    have h1 := bulk_sum l es (by simpa using h) (fun i h2 h3 => hi (i + 1) (by simpa using h2) (by simpa using h3))
    have h2 : B a ≤ Rows.uptoBulk e := hi 0 (by simp) (by simp)
    simp only [List.map_cons, List.sum_cons, Rows.uptoBulkAll]
    omega
def bS (s : ByteArray) : Nat := s.size + 1
def bP (p : Pq) : Nat := (p.ws.map bS).sum + 1
def bC (c : Cq) : Nat := (c.ps.map bP).sum + 1

section
variable {H : Type} {enc : TypeId × Value → H} {w : World} {base : Nat} {held : Bool}

/-- A slice that comes in, with the bulk of what it holds. -/
theorem open_elemsB {α : Type} {B : α → Nat} {Q : List Value → α → Prop} {t e : TypeId} {K fuel : Nat} {cs : List Value} {x : DataW H × List MemPlace} (ht : Try.prog.underlying t = some (.slice e)) (hC : Try.prog.cellsOf e = K) (hK : 0 < K)
    (ih : ∀ n, n < fuel → ∀ cs x, DataW.trod enc Try.prog w base (fun _ => true) held n e cs = some x → ∃ a : α, Q cs a ∧ B a ≤ Rows.uptoBulk x.1)
    (h : DataW.trod enc Try.prog w base (fun _ => true) held fuel t cs = some x) :
    ∃ (A : Option Addr) (len cap : Nat) (l : List α), cs = [.slice A len cap] ∧ len ≤ cap ∧ cap ≤ maxLen ∧ (l.map B).sum + 1 ≤ Rows.uptoBulk x.1 ∧ l.length = len ∧ (0 < len → ∃ b off, A = some ⟨b, off, none⟩ ∧ b < w.heap.size ∧
      ∀ i (h : i < l.length), ∃ cs', Q cs' l[i] ∧ cs'.length = K ∧ ∀ j v, cs'[j]? = some v → w.cell? ⟨b, off + i * K + j, none⟩ = some v) := by
  rcases DataW.trod_slice ht h with ⟨rfl, rfl⟩ | ⟨a, len, cap, elems, rest, n, rfl, rfl, rfl, _, hl, hm, hlen, hel, _, _⟩
  · exact ⟨none, 0, 0, [], rfl, Nat.le_refl _, by simp [maxLen], by simp [Rows.uptoBulk], rfl, fun h => absurd h (by simp)⟩
  · rw [hC] at hel
    have hget : ∀ i, i < len → ∃ (y : α), (∀ h : i < elems.length, B y ≤ Rows.uptoBulk (elems[i]).1) ∧ ∃ cs', Q cs' y ∧ cs'.length = K ∧ ∀ j v, cs'[j]? = some v → w.cell? (a.add (i * K + j)) = some v := by
      intro i hi
      have h1 := hel i hi
      rw [List.getElem?_eq_getElem (by omega)] at h1
      obtain ⟨cs', hcs', htr⟩ := Option.bind_eq_some_iff.1 h1
      obtain ⟨y, hy, hyB⟩ := ih n (by omega) _ _ htr
      obtain ⟨_, hcl, hat⟩ := World.cells?_some hcs'
      refine ⟨y, fun _ => hyB, cs', hy, hcl, fun j v hj => ?_⟩
      have hjl : j < K := by
        have := (List.getElem?_eq_some_iff.1 hj).1
        omega
      rw [← Go.Deep.add_add, hat j hjl, hj]
    have hbulk : ∀ (l : List α), l.length = len → (∀ i (h : i < l.length) (h' : i < elems.length), B l[i] ≤ Rows.uptoBulk (elems[i]).1) → (l.map B).sum + 1 ≤ Rows.uptoBulk (DataW.slice (elems.map (·.1)) (rest.map (·.1))) := by
      intro l hl hB
      have := bulk_sum (H := H) (B := B) l (elems.map (·.1)) (by rw [List.length_map]; omega) (fun i h1 h2 => by
        rw [List.getElem_map]
        exact hB i h1 (by simpa using h2))
      simp only [Rows.uptoBulk]
      omega
    by_cases hlen0 : 0 < len
    · obtain ⟨_, _, cs', _, hcl, hat⟩ := hget 0 hlen0
      have h0 := hat 0 _ (List.getElem?_eq_getElem (show 0 < cs'.length by omega))
      have hspot : a.spot = none := by simpa [Addr.add] using World.cell?_spot h0
      obtain ⟨b, off, spot⟩ := a
      simp only at hspot
      subst hspot
      have hb : b < w.heap.size := by
        have := lt_of_cell h0
        simpa [Addr.add] using this
      obtain ⟨l, hl2, hq⟩ := list_of (Q := fun i (y : α) => (∀ h : i < elems.length, B y ≤ Rows.uptoBulk (elems[i]).1) ∧ ∃ cs', Q cs' y ∧ cs'.length = K ∧ ∀ j v, cs'[j]? = some v → w.cell? ⟨b, off + i * K + j, none⟩ = some v) len (fun i hi' => by
        obtain ⟨y, h0, cs', h1, h2, h3⟩ := hget i hi'
        refine ⟨y, h0, cs', h1, h2, fun j v hj => ?_⟩
        have := h3 j v hj
        rw [add_plain, ← Nat.add_assoc] at this
        exact this)
      exact ⟨_, len, cap, l, rfl, hl, hm, hbulk l hl2 (fun i h1 h2 => (hq i h1).1 h2), hl2, fun _ => ⟨b, off, rfl, hb, fun i hi => (hq i hi).2⟩⟩
    · have : len = 0 := by omega
      subst this
      exact ⟨some a, 0, cap, [], rfl, hl, hm, hbulk [] rfl (fun i h1 _ => absurd h1 (by simp)), rfl, fun h => absurd h (by simp)⟩

def PartCells (w : World) (cs : List Value) (p : Pq) : Prop := ∃ (A : Option Addr) (c : Nat), cs = [.int .i64 p.k, .slice A p.ws.length c] ∧ p.ws.length ≤ c ∧ SsAt w A p.ws
def ClauseCells (w : World) (cs : List Value) (q : Cq) : Prop := ∃ (A : Option Addr) (c : Nat), cs = [.bool q.neg, .slice A q.ps.length c] ∧ PqsAt w A q.ps

set_option maxRecDepth 100000 in
theorem open_words {fuel : Nat} {cs : List Value} {x : DataW H × List MemPlace} (h : DataW.trod enc Try.prog w base (fun _ => true) held fuel 37 cs = some x) :
    ∃ (l : List ByteArray) (A : Option Addr) (c : Nat), cs = [.slice A l.length c] ∧ l.length ≤ c ∧ SsAt w A l ∧ (l.map bS).sum + 1 ≤ Rows.uptoBulk x.1 := by
  obtain ⟨A, len, cap, l, rfl, h1, h2, h3, rfl, hq⟩ := open_elemsB (B := bS) (Q := fun cs (s : ByteArray) => cs = [.string s]) Try.underlying37 (show Try.prog.cellsOf 9 = 1 by kernel_rfl) (by decide)
    (fun n _ cs x h => by
      obtain ⟨s, e, rfl, _⟩ := DataW.trod_string Try.underlying9 h
      refine ⟨s, e, ?_⟩
      simp only [Rows.uptoBulk, bS, Array.length_toList]
      exact Nat.le_refl _) h
  refine ⟨l, A, cap, rfl, h1, ⟨by omega, fun hp => ?_⟩, h3⟩
  obtain ⟨b, off, rfl, hb, hi⟩ := hq hp
  refine ⟨b, off, rfl, hb, fun j hj => ?_⟩
  obtain ⟨cs', rfl, _, hc⟩ := hi j hj
  have := hc 0 _ rfl
  rwa [Nat.mul_one, Nat.add_zero] at this

set_option maxRecDepth 100000 in
theorem open_part (fuel : Nat) (cs : List Value) (x : DataW H × List MemPlace) (h : DataW.trod enc Try.prog w base (fun _ => true) held fuel 63 cs = some x) :
    ∃ p : Pq, PartCells w cs p ∧ bP p ≤ Rows.uptoBulk x.1 := by
  obtain ⟨y0, y1, n, rfl, hlen, t0, t1⟩ := trod_struct2 Try.underlying63 h
  have hC : Try.prog.cellsOf 63 = 2 := by kernel_rfl
  rw [hC] at hlen
  match cs, hlen with
  | [q0, q1], _ =>
    have hi1 : Try.prog.cellsOf 3 = 1 := by kernel_rfl
    have hl1 : Try.prog.cellsOf 37 = 1 := by kernel_rfl
    have t0 : DataW.trod enc Try.prog w base (fun _ => true) held n 3 (([q0, q1].drop 0).take (Try.prog.cellsOf 3)) = some y0 := t0
    have t1 : DataW.trod enc Try.prog w base (fun _ => true) held n 37 (([q0, q1].drop 1).take (Try.prog.cellsOf 37)) = some y1 := t1
    rw [hi1] at t0
    rw [hl1] at t1
    simp only [List.drop_zero, List.drop_succ_cons, List.take_succ_cons, List.take_zero] at t0 t1
    obtain ⟨k0, e0, _, _⟩ := DataW.trod_int Try.underlying3 t0
    obtain ⟨l, A, c, e1, h1, h2, h3⟩ := open_words t1
    simp only [List.cons.injEq, and_true] at e0 e1
    subst e0 e1
    refine ⟨⟨k0, l⟩, ⟨A, c, rfl, h1, h2⟩, ?_⟩
    simp only [Rows.uptoBulk, Rows.uptoBulkAll, bP]
    omega

set_option maxRecDepth 100000 in
theorem open_clause (fuel : Nat) (cs : List Value) (x : DataW H × List MemPlace) (h : DataW.trod enc Try.prog w base (fun _ => true) held fuel 61 cs = some x) :
    ∃ c : Cq, ClauseCells w cs c ∧ bC c ≤ Rows.uptoBulk x.1 := by
  obtain ⟨y0, y1, n, rfl, hlen, t0, t1⟩ := trod_struct2 Try.underlying61 h
  have hC : Try.prog.cellsOf 61 = 2 := by kernel_rfl
  rw [hC] at hlen
  match cs, hlen with
  | [q0, q1], _ =>
    have hi1 : Try.prog.cellsOf 4 = 1 := by kernel_rfl
    have hl1 : Try.prog.cellsOf 59 = 1 := by kernel_rfl
    have t0 : DataW.trod enc Try.prog w base (fun _ => true) held n 4 (([q0, q1].drop 0).take (Try.prog.cellsOf 4)) = some y0 := t0
    have t1 : DataW.trod enc Try.prog w base (fun _ => true) held n 59 (([q0, q1].drop 1).take (Try.prog.cellsOf 59)) = some y1 := t1
    rw [hi1] at t0
    rw [hl1] at t1
    simp only [List.drop_zero, List.drop_succ_cons, List.take_succ_cons, List.take_zero] at t0 t1
    obtain ⟨k0, e0, _⟩ := DataW.trod_bool Try.underlying4 t0
    obtain ⟨A, len, cap, l, e1, h1, h2, h3, rfl, hq⟩ := open_elemsB (B := bP) (Q := PartCells w) Try.underlying59 (show Try.prog.cellsOf 63 = 2 by kernel_rfl) (by decide) (fun n _ cs x h => open_part n cs x h) t1
    simp only [List.cons.injEq, and_true] at e0 e1
    subst e0 e1
    refine ⟨⟨k0, l⟩, ⟨A, cap, rfl, Nat.le_trans h1 h2, fun hp => ?_⟩, ?_⟩
    · obtain ⟨b, off, rfl, hb, hi⟩ := hq hp
      refine ⟨b, off, rfl, hb, fun j hj => ?_⟩
      obtain ⟨cs', ⟨A, c, rfl, hlc, hl⟩, _, hc⟩ := hi j hj
      exact ⟨hc 0 _ rfl, A, c, hc 1 _ rfl, hlc, hl⟩
    · simp only [Rows.uptoBulk, Rows.uptoBulkAll, bC]
      omega

set_option maxRecDepth 100000 in
/-- A query that comes in as an argument. -/
theorem open_query {v : Value} {d : DataW H} {ps : List MemPlace} {r : Reach} {b0 : Nat} (hv : Value.okWide Try.prog w r b0 24 v) (h : DataW.Trod enc Try.prog w base (fun _ => true) held 24 v d ps) :
    ∃ (cs : List Cq) (A : Option Addr) (c : Nat), v = .agg #[.slice A cs.length c] ∧ CqsAt w A cs ∧ (cs.map bC).sum + 1 ≤ Rows.uptoBulk d := by
  obtain ⟨cells, rfl, _⟩ := okWide_struct Try.underlying24 hv
  obtain ⟨fuel, hf⟩ := h
  obtain ⟨cells⟩ := cells
  have hf : DataW.trod enc Try.prog w base (fun _ => true) held fuel 24 cells = some (d, ps) := hf
  obtain ⟨y0, n, e, hlen, t0⟩ := trod_struct1 Try.underlying24 hf
  have hC : Try.prog.cellsOf 24 = 1 := by kernel_rfl
  rw [hC] at hlen
  match cells, hlen with
  | [q0], _ =>
    have hl1 : Try.prog.cellsOf 22 = 1 := by kernel_rfl
    have t0 : DataW.trod enc Try.prog w base (fun _ => true) held n 22 (([q0].drop 0).take (Try.prog.cellsOf 22)) = some y0 := t0
    rw [hl1] at t0
    simp only [List.drop_zero, List.take_succ_cons, List.take_zero] at t0
    obtain ⟨A, len, cap, l, e1, h1, h2, h3, rfl, hq⟩ := open_elemsB (B := bC) (Q := ClauseCells w) Try.underlying22 (show Try.prog.cellsOf 61 = 2 by kernel_rfl) (by decide) (fun n _ cs x h => open_clause n cs x h) t0
    simp only [List.cons.injEq, and_true] at e1
    subst e1
    simp only [Prod.mk.injEq] at e
    obtain ⟨rfl, rfl⟩ := e
    refine ⟨l, A, cap, rfl, ⟨by omega, fun hp => ?_⟩, ?_⟩
    · obtain ⟨b, off, rfl, hb, hi⟩ := hq hp
      refine ⟨b, off, rfl, hb, fun j hj => ?_⟩
      obtain ⟨cs', ⟨A, c, rfl, hl⟩, _, hc⟩ := hi j hj
      exact ⟨hc 0 _ rfl, A, c, hc 1 _ rfl, hl⟩
    · simp only [Rows.uptoBulk, Rows.uptoBulkAll]
      omega
end

/-- What the bulk bounds. -/
theorem query_small {cs : List Cq} {M : Nat} (h : (cs.map bC).sum ≤ M) : nParts cs ≤ M ∧ cs.length ≤ M ∧ ∀ x ∈ cs, ∀ p ∈ x.ps, p.ws.length ≤ M ∧ ∀ y ∈ p.ws, y.size ≤ M := by
  have h1 : nParts cs ≤ (cs.map bC).sum := sum_le (fun c => by
    have := sum_len (f := bP) (fun p => Nat.le_add_left _ _) c.ps
    unfold bC
    omega) cs
  have h2 := sum_len (f := bC) (fun p => Nat.le_add_left _ _) cs
  refine ⟨by omega, by omega, fun x hx p hp => ?_⟩
  have h3 := sum_mem (f := bC) hx
  have h4 := sum_mem (f := bP) hp
  have h5 := sum_len (f := bS) (fun p => Nat.le_add_left _ _) p.ws
  have e1 : bC x = (x.ps.map bP).sum + 1 := rfl
  have e2 : bP p = (p.ws.map bS).sum + 1 := rfl
  refine ⟨by omega, fun y hy => ?_⟩
  have h6 := sum_mem (f := bS) hy
  have e3 : bS y = y.size + 1 := rfl
  omega

/-! ### What is found is short -/
theorem marks_len (fl : List Wd) (x0 : Wd) (TO : Nat) : (marksOf fl x0 TO).length ≤ fl.length := List.length_filter_le _ _
theorem foldP_len (ws fl : List Wd) (W M : Nat) (hfl : fl.length ≤ M) : ∀ (L : List Wd) (st : Snp × Nat), st.1.ms.length ≤ M → (L.foldl (stepP ws fl W) st).1.ms.length ≤ M
  | [], st, h => h
  | x :: L, st, h => by
    rw [List.foldl_cons]
    refine foldP_len ws fl W M hfl L _ ?_
    unfold stepP
    split
    · exact Nat.le_trans (marks_len _ _ _) hfl
    · exact h
theorem snipP_len (ws : List Wd) (P : Wd → Bool) (W : Nat) : (snipP ws P W).ms.length ≤ ws.length := by
  cases ws with
  | nil => exact Nat.le_refl _
  | cons x r =>
    show (if (x :: r).filter P = [] then (⟨x.f, winTo (x :: r) x W, []⟩ : Snp) else (((x :: r).filter P).foldl (stepP (x :: r) ((x :: r).filter P) W) (Snp.zero, 0)).1).ms.length ≤ _
    split
    · exact Nat.zero_le _
    · exact foldP_len _ _ _ _ (List.length_filter_le _ _) _ _ (Nat.zero_le _)
theorem snipAll_len (s : ByteArray) (cs : List Cq) (W : Int) : (snipAll s cs W).1.ms.length ≤ 2000 := by
  unfold snipAll
  split
  · exact Nat.zero_le _
  · split
    · exact Nat.zero_le _
    · split
      · exact Nat.zero_le _
      · have h1 := snipP_len (wordsAt s 0) (fun x => wantB cs x.t) W.toNat
        have h2 := wordsAt_count s
        simp only
        omega

end Go.Proofs.Ytfnooipkghfmoaa
