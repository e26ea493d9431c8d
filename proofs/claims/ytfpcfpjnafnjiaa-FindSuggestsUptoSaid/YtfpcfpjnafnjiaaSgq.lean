/-
  OPENING AN INDEX THAT COMES IN, WITH THE BOUND THAT ITS BULK SETS.
-/
import Derived.Test.YtfpcfpjnafnjiaaOpb
import Derived.Test.YtfpcfpjnafnjiaaSga
set_option linter.all false
namespace Go.Proofs.Ytfpcfpjnafnjiaa
open Go.ChangeShapes Go.WideShapes Go.ChangeAt Go.Deep Go.RowKit

def bStr (s : ByteArray) : Nat := s.size + 1
def bI (_ : Int) : Nat := 1
def bE (_ : En) : Nat := 1
def bPo (p : Po) : Nat := (p.ns.map bI).sum + 1
def bTe (t : Te) : Nat := bStr t.t + (t.l.map bPo).sum

section
variable {H : Type} {enc : TypeId × Value → H} {w : World} {base : Nat} {held : Bool}
def EnCells (cs : List Value) (e : En) : Prop := cs = [.int .i64 e.id, .int .i64 e.sz]
def PoCells (w : World) (cs : List Value) (p : Po) : Prop := ∃ (A : Option Addr) (c : Nat), cs = [.int .i64 p.id, .slice A p.ns.length c] ∧ (Lit.int .i64 p.id).wf = true ∧ NsAt w A p.ns
def TeCells (w : World) (cs : List Value) (t : Te) : Prop := ∃ (A : Option Addr) (c : Nat), cs = [.string t.t, .slice A t.l.length c] ∧ PosAt w A t.l

set_option maxRecDepth 100000 in
theorem open_ns {fuel : Nat} {cs : List Value} {x : DataW H × List MemPlace} (h : DataW.trod enc Try.prog w base (fun _ => true) held fuel 70 cs = some x) :
    ∃ (l : List Int) (A : Option Addr) (c : Nat), cs = [.slice A l.length c] ∧ NsAt w A l ∧ (l.map bI).sum + 1 ≤ Rows.uptoBulk x.1 := by
  obtain ⟨A, len, cap, l, rfl, h1, h2, h3, rfl, hq⟩ := open_elemsB (B := bI) (Q := fun cs (n : Int) => cs = [.int .i64 n]) Try.underlying70 (show Try.prog.cellsOf 3 = 1 by kernel_rfl) (by decide)
    (fun n _ cs x h => by
      obtain ⟨k0, e0, e1, _⟩ := DataW.trod_int Try.underlying3 h
      refine ⟨k0, e0, ?_⟩
      subst e1
      simp only [Rows.uptoBulk, bI]
      exact Nat.le_refl _) h
  refine ⟨l, A, cap, rfl, ⟨by omega, fun hp => ?_⟩, h3⟩
  obtain ⟨b, off, rfl, hb, hi⟩ := hq hp
  refine ⟨b, off, rfl, hb, fun j hj => ?_⟩
  obtain ⟨cs', rfl, _, hc⟩ := hi j hj
  have := hc 0 _ rfl
  rwa [Nat.mul_one, Nat.add_zero] at this

set_option maxRecDepth 100000 in
theorem open_entry (fuel : Nat) (cs : List Value) (x : DataW H × List MemPlace) (h : DataW.trod enc Try.prog w base (fun _ => true) held fuel 66 cs = some x) :
    ∃ e : En, EnCells cs e ∧ bE e ≤ Rows.uptoBulk x.1 := by
  obtain ⟨y0, y1, n, rfl, hlen, t0, t1⟩ := trod_struct2 Try.underlying66 h
  have hC : Try.prog.cellsOf 66 = 2 := by kernel_rfl
  rw [hC] at hlen
  match cs, hlen with
  | [q0, q1], _ =>
    have hi1 : Try.prog.cellsOf 3 = 1 := by kernel_rfl
    have t0 : DataW.trod enc Try.prog w base (fun _ => true) held n 3 (([q0, q1].drop 0).take (Try.prog.cellsOf 3)) = some y0 := t0
    have t1 : DataW.trod enc Try.prog w base (fun _ => true) held n 3 (([q0, q1].drop 1).take (Try.prog.cellsOf 3)) = some y1 := t1
    rw [hi1] at t0 t1
    simp only [List.drop_zero, List.drop_succ_cons, List.take_succ_cons, List.take_zero] at t0 t1
    obtain ⟨k0, e0, _, _⟩ := DataW.trod_int Try.underlying3 t0
    obtain ⟨k1, e1, _, _⟩ := DataW.trod_int Try.underlying3 t1
    simp only [List.cons.injEq, and_true] at e0 e1
    subst e0 e1
    refine ⟨⟨k0, k1⟩, rfl, ?_⟩
    simp only [Rows.uptoBulk, Rows.uptoBulkAll, bE]
    omega

set_option maxRecDepth 100000 in
theorem open_posting (fuel : Nat) (cs : List Value) (x : DataW H × List MemPlace) (h : DataW.trod enc Try.prog w base (fun _ => true) held fuel 74 cs = some x) :
    ∃ p : Po, PoCells w cs p ∧ bPo p ≤ Rows.uptoBulk x.1 := by
  obtain ⟨y0, y1, n, rfl, hlen, t0, t1⟩ := trod_struct2 Try.underlying74 h
  have hC : Try.prog.cellsOf 74 = 2 := by kernel_rfl
  rw [hC] at hlen
  match cs, hlen with
  | [q0, q1], _ =>
    have hi1 : Try.prog.cellsOf 3 = 1 := by kernel_rfl
    have hl1 : Try.prog.cellsOf 70 = 1 := by kernel_rfl
    have t0 : DataW.trod enc Try.prog w base (fun _ => true) held n 3 (([q0, q1].drop 0).take (Try.prog.cellsOf 3)) = some y0 := t0
    have t1 : DataW.trod enc Try.prog w base (fun _ => true) held n 70 (([q0, q1].drop 1).take (Try.prog.cellsOf 70)) = some y1 := t1
    rw [hi1] at t0
    rw [hl1] at t1
    simp only [List.drop_zero, List.drop_succ_cons, List.take_succ_cons, List.take_zero] at t0 t1
    obtain ⟨k0, e0, _, hwf⟩ := DataW.trod_int Try.underlying3 t0
    obtain ⟨l, A, c, e1, h1, h2⟩ := open_ns t1
    simp only [List.cons.injEq, and_true] at e0 e1
    subst e0 e1
    refine ⟨⟨k0, l⟩, ⟨A, c, rfl, hwf, h1⟩, ?_⟩
    simp only [Rows.uptoBulk, Rows.uptoBulkAll, bPo]
    omega

set_option maxRecDepth 100000 in
theorem open_term (fuel : Nat) (cs : List Value) (x : DataW H × List MemPlace) (h : DataW.trod enc Try.prog w base (fun _ => true) held fuel 39 cs = some x) :
    ∃ t : Te, TeCells w cs t ∧ bTe t ≤ Rows.uptoBulk x.1 := by
  obtain ⟨y0, y1, n, rfl, hlen, t0, t1⟩ := trod_struct2 Try.underlying39 h
  have hC : Try.prog.cellsOf 39 = 2 := by kernel_rfl
  rw [hC] at hlen
  match cs, hlen with
  | [q0, q1], _ =>
    have hi1 : Try.prog.cellsOf 9 = 1 := by kernel_rfl
    have hl1 : Try.prog.cellsOf 37 = 1 := by kernel_rfl
    have t0 : DataW.trod enc Try.prog w base (fun _ => true) held n 9 (([q0, q1].drop 0).take (Try.prog.cellsOf 9)) = some y0 := t0
    have t1 : DataW.trod enc Try.prog w base (fun _ => true) held n 37 (([q0, q1].drop 1).take (Try.prog.cellsOf 37)) = some y1 := t1
    rw [hi1] at t0
    rw [hl1] at t1
    simp only [List.drop_zero, List.drop_succ_cons, List.take_succ_cons, List.take_zero] at t0 t1
    obtain ⟨s, e0, hx, _⟩ := DataW.trod_string Try.underlying9 t0
    obtain ⟨A, len, cap, l, e1, h1, h2, h3, rfl, hq⟩ := open_elemsB (B := bPo) (Q := PoCells w) Try.underlying37 (show Try.prog.cellsOf 74 = 2 by kernel_rfl) (by decide) (fun n _ cs x h => open_posting n cs x h) t1
    simp only [List.cons.injEq, and_true] at e0 e1
    subst e0 e1
    refine ⟨⟨s, l⟩, ⟨A, cap, rfl, ⟨by show l.length ≤ maxLen; omega, fun hp => ?_⟩⟩, ?_⟩
    · obtain ⟨b, off, rfl, hb, hi⟩ := hq hp
      refine ⟨b, off, rfl, hb, fun j hj => ?_⟩
      obtain ⟨cs', ⟨A, c, rfl, hwf, hl⟩, _, hc⟩ := hi j hj
      exact ⟨hc 0 _ rfl, hwf, A, c, hc 1 _ rfl, hl⟩
    · subst hx
      simp only [Rows.uptoBulk, Rows.uptoBulkAll, bTe, bStr, Array.length_toList]
      have : s.data.size = s.size := rfl
      omega

set_option maxRecDepth 100000 in
theorem open_index {v : Value} {d : DataW H} {ps : List MemPlace} {r : Reach} {b0 : Nat} (hv : Value.okWide Try.prog w r b0 25 v) (h : DataW.Trod enc Try.prog w base (fun _ => true) held 25 v d ps) :
    ∃ (E : List En) (T : List Te) (A B : Option Addr) (c c' : Nat), v = .agg #[.slice A E.length c, .slice B T.length c'] ∧ EnsAt w A E ∧ TesAt w B T ∧ (T.map bTe).sum + 1 ≤ Rows.uptoBulk d := by
  obtain ⟨cells, rfl, _⟩ := okWide_struct Try.underlying25 hv
  obtain ⟨fuel, hf⟩ := h
  obtain ⟨cells⟩ := cells
  have hf : DataW.trod enc Try.prog w base (fun _ => true) held fuel 25 cells = some (d, ps) := hf
  obtain ⟨y0, y1, n, e, hlen, t0, t1⟩ := trod_struct2 Try.underlying25 hf
  have hC : Try.prog.cellsOf 25 = 2 := by kernel_rfl
  rw [hC] at hlen
  match cells, hlen with
  | [q0, q1], _ =>
    have hl0 : Try.prog.cellsOf 22 = 1 := by kernel_rfl
    have hl1 : Try.prog.cellsOf 23 = 1 := by kernel_rfl
    have t0 : DataW.trod enc Try.prog w base (fun _ => true) held n 22 (([q0, q1].drop 0).take (Try.prog.cellsOf 22)) = some y0 := t0
    have t1 : DataW.trod enc Try.prog w base (fun _ => true) held n 23 (([q0, q1].drop 1).take (Try.prog.cellsOf 23)) = some y1 := t1
    rw [hl0] at t0
    rw [hl1] at t1
    simp only [List.drop_zero, List.drop_succ_cons, List.take_succ_cons, List.take_zero] at t0 t1
    obtain ⟨A, lenA, capA, lE, e0, g1, g2, g3, rfl, gq⟩ := open_elemsB (B := bE) (Q := EnCells) Try.underlying22 (show Try.prog.cellsOf 66 = 2 by kernel_rfl) (by decide) (fun n _ cs x h => open_entry n cs x h) t0
    obtain ⟨B, lenB, capB, lT, e1, h1, h2, h3, rfl, hq⟩ := open_elemsB (B := bTe) (Q := TeCells w) Try.underlying23 (show Try.prog.cellsOf 39 = 2 by kernel_rfl) (by decide) (fun n _ cs x h => open_term n cs x h) t1
    simp only [List.cons.injEq, and_true] at e0 e1
    subst e0 e1
    simp only [Prod.mk.injEq] at e
    obtain ⟨rfl, rfl⟩ := e
    refine ⟨lE, lT, A, B, capA, capB, rfl, ⟨by omega, fun hp => ?_⟩, ⟨by omega, fun hp => ?_⟩, ?_⟩
    · obtain ⟨b, off, rfl, hb, hi⟩ := gq hp
      refine ⟨b, off, rfl, hb, fun j hj => ?_⟩
      obtain ⟨cs', hcs, _, hc⟩ := hi j hj
      unfold EnCells at hcs
      subst hcs
      exact ⟨hc 0 _ rfl, hc 1 _ rfl⟩
    · obtain ⟨b, off, rfl, hb, hi⟩ := hq hp
      refine ⟨b, off, rfl, hb, fun j hj => ?_⟩
      obtain ⟨cs', ⟨A, c, rfl, hl⟩, _, hc⟩ := hi j hj
      exact ⟨hc 0 _ rfl, A, c, hc 1 _ rfl, hl⟩
    · simp only [Rows.uptoBulk, Rows.uptoBulkAll]
      omega
end

/-- What the bulk bounds. -/
theorem index_small {T : List Te} {M : Nat} (h : (T.map bTe).sum ≤ M) : T.length ≤ M ∧ ∀ t ∈ T, t.t.size + 1 ≤ M := by
  have h1 := sum_len (f := bTe) (fun t => by unfold bTe bStr; omega) T
  refine ⟨by omega, fun t ht => ?_⟩
  have h2 := sum_mem (f := bTe) ht
  have e : bTe t = t.t.size + 1 + (t.l.map bPo).sum := rfl
  omega

end Go.Proofs.Ytfpcfpjnafnjiaa
