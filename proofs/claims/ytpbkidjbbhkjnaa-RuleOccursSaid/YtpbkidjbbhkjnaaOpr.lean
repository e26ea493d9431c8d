/-
  OPENING ARGUMENTS: a rule that comes in by value.
-/
import Derived.Test.YtpbkidjbbhkjnaaRlb
import Derived.Test.YtpbkidjbbhkjnaaRow
namespace Go.Proofs.Ytpbkidjbbhkjnaa
open Go.ChangeShapes Go.WideShapes Go.ChangeAt Go.Deep Go.RowKit

section
variable {H : Type} {enc : TypeId × Value → H} {w : World} {base : Nat} {held : Bool}
theorem ints_of_trod {q : Value} {n : Nat} {x : DataW H × List MemPlace} (hf : DataW.trod enc Try.prog w base (fun _ => true) held n 33 [q] = some x) :
    ∃ (A : Option Addr) (l : List Int) (cap : Nat), q = .slice A l.length cap ∧ l.length ≤ maxLen ∧ IntsAt w A l := by
  rcases open_ints Try.underlying33 Try.underlying3 (by kernel_rfl) hf with ⟨hcs, _⟩ | ⟨a, len', cap', zs, hcs, _, hl, hm, hz, _, hcell, hwf⟩
  · simp only [List.cons.injEq, and_true] at hcs
    exact ⟨none, [], 0, hcs, by simp [maxLen], fun h => absurd h (by simp)⟩
  · simp only [List.cons.injEq, and_true] at hcs
    subst hcs
    simp only [if_true] at hz
    have hlen : (zs.take len').length = len' := by rw [List.length_take]; omega
    refine ⟨some a, zs.take len', cap', by rw [hlen], by omega, fun hp => ?_⟩
    rw [hlen] at hp
    have h0 := hcell 0 (by omega)
    have hspot : a.spot = none := by simpa [Addr.add] using World.cell?_spot h0
    obtain ⟨b, off, spot⟩ := a
    simp only at hspot
    subst hspot
    have hb : b < w.heap.size := by
      have := lt_of_cell h0
      simpa [Addr.add] using this
    refine ⟨b, off, rfl, hb, fun j hj => ?_⟩
    have hc := hcell j (by omega)
    rw [add_plain] at hc
    rw [hc, List.getElem_take]
    simp [List.getD, List.getElem?_eq_getElem (show j < zs.length by omega)]

set_option maxRecDepth 100000 in
/-- A rule that comes in by value. -/
theorem open_rule {v : Value} {d : DataW H} {ps : List MemPlace} {r : Reach} {b0 : Nat} (hv : Value.okWide Try.prog w r b0 35 v) (h : DataW.Trod enc Try.prog w base (fun _ => true) held 35 v d ps) : ∃ x : Rul, RulAt w x v := by
  obtain ⟨cs, rfl, _⟩ := okWide_struct Try.underlying35 hv
  obtain ⟨fuel, hf⟩ := h
  obtain ⟨ys, n, rfl, _, hlen, hyl, hf⟩ := DataW.trod_struct Try.underlying35 hf
  have hC : Try.prog.cellsOf 35 = 9 := by kernel_rfl
  rw [hC] at hlen
  obtain ⟨cs⟩ := cs
  change cs.length = 9 at hlen
  match cs, hlen with
  | [q0, q1, q2, q3, q4, q5, q6, q7, q8], _ =>
    have hys : ys.length = 9 := hyl
    match ys, hys with
    | [y0, y1, y2, y3, y4, y5, y6, y7, y8], _ =>
      have hi1 : Try.prog.cellsOf 3 = 1 := by kernel_rfl
      have hl1 : Try.prog.cellsOf 33 = 1 := by kernel_rfl
      have t0 : DataW.trod enc Try.prog w base (fun _ => true) held n 3 (([q0, q1, q2, q3, q4, q5, q6, q7, q8].drop 0).take (Try.prog.cellsOf 3)) = some y0 := hf 0 _ rfl
      have t1 : DataW.trod enc Try.prog w base (fun _ => true) held n 3 (([q0, q1, q2, q3, q4, q5, q6, q7, q8].drop 1).take (Try.prog.cellsOf 3)) = some y1 := hf 1 _ rfl
      have t2 : DataW.trod enc Try.prog w base (fun _ => true) held n 3 (([q0, q1, q2, q3, q4, q5, q6, q7, q8].drop 2).take (Try.prog.cellsOf 3)) = some y2 := hf 2 _ rfl
      have t3 : DataW.trod enc Try.prog w base (fun _ => true) held n 3 (([q0, q1, q2, q3, q4, q5, q6, q7, q8].drop 3).take (Try.prog.cellsOf 3)) = some y3 := hf 3 _ rfl
      have t4 : DataW.trod enc Try.prog w base (fun _ => true) held n 3 (([q0, q1, q2, q3, q4, q5, q6, q7, q8].drop 4).take (Try.prog.cellsOf 3)) = some y4 := hf 4 _ rfl
      have t5 : DataW.trod enc Try.prog w base (fun _ => true) held n 33 (([q0, q1, q2, q3, q4, q5, q6, q7, q8].drop 5).take (Try.prog.cellsOf 33)) = some y5 := hf 5 _ rfl
      have t6 : DataW.trod enc Try.prog w base (fun _ => true) held n 33 (([q0, q1, q2, q3, q4, q5, q6, q7, q8].drop 6).take (Try.prog.cellsOf 33)) = some y6 := hf 6 _ rfl
      have t7 : DataW.trod enc Try.prog w base (fun _ => true) held n 3 (([q0, q1, q2, q3, q4, q5, q6, q7, q8].drop 7).take (Try.prog.cellsOf 3)) = some y7 := hf 7 _ rfl
      have t8 : DataW.trod enc Try.prog w base (fun _ => true) held n 33 (([q0, q1, q2, q3, q4, q5, q6, q7, q8].drop 8).take (Try.prog.cellsOf 33)) = some y8 := hf 8 _ rfl
      rw [hi1] at t0 t1 t2 t3 t4 t7
      rw [hl1] at t5 t6 t8
      simp only [List.drop_zero, List.drop_succ_cons, List.take_succ_cons, List.take_zero] at t0 t1 t2 t3 t4 t5 t6 t7 t8
      obtain ⟨k0, e0, _, _⟩ := DataW.trod_int Try.underlying3 t0
      obtain ⟨k1, e1, _, _⟩ := DataW.trod_int Try.underlying3 t1
      obtain ⟨k2, e2, _, _⟩ := DataW.trod_int Try.underlying3 t2
      obtain ⟨k3, e3, _, _⟩ := DataW.trod_int Try.underlying3 t3
      obtain ⟨k4, e4, _, _⟩ := DataW.trod_int Try.underlying3 t4
      obtain ⟨k7, e7, _, _⟩ := DataW.trod_int Try.underlying3 t7
      obtain ⟨A, l5, c5, e5, m5, i5⟩ := ints_of_trod t5
      obtain ⟨B, l6, c6, e6, m6, i6⟩ := ints_of_trod t6
      obtain ⟨C, l8, c8, e8, m8, i8⟩ := ints_of_trod t8
      simp only [List.cons.injEq, and_true] at e0 e1 e2 e3 e4 e7
      subst e0 e1 e2 e3 e4 e5 e6 e7 e8
      exact ⟨⟨k0, k1, k2, k3, k4, k7, l5, l6, l8⟩, ⟨A, B, C, c5, c6, c8, rfl, i5, i6, i8, m5, m6, m8⟩⟩
end

end Go.Proofs.Ytpbkidjbbhkjnaa
