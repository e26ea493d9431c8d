/-
  PLAIN: a field by the reference's way: the name up to twenty bytes, the other string by the first of three bytes; rows of fields.
-/
import Derived.Test.YtpbkidjbbhkjnaaTmd
namespace Go.Proofs.Ytpbkidjbbhkjnaa
open Go.RowKit

theorem stops_contain (b : UInt8) : ([123, 125, 10] : List UInt8).contains b = stopB b := by
  have h : ∀ c : UInt8, (b == c) = decide (b.toNat = c.toNat) := fun c => by
    by_cases h : b = c
    · subst h; simp
    · rw [beq_eq_false_iff_ne.2 h, decide_eq_false (fun e => h (UInt8.toNat_inj.1 e))]
  unfold stopB
  simp only [List.contains_cons, h, List.contains_nil, Bool.or_false]
  rfl
theorem indexAny_stops : ∀ l : List UInt8, Lib.indexAny l [123, 125, 10] = if (l.takeWhile (fun b => !stopB b)).length = l.length then -1 else ((l.takeWhile (fun b => !stopB b)).length : Int)
  | [] => rfl
  | b :: l => by
    have ih := indexAny_stops l
    rw [Lib.indexAny, stops_contain]
    cases hb : stopB b with
    | true =>
      rw [List.takeWhile_cons_of_neg (by simp [hb])]
      simp
    | false =>
      rw [List.takeWhile_cons_of_pos (by simp [hb]), ih]
      simp only [List.length_cons, Bool.false_eq_true, if_false]
      by_cases h : (l.takeWhile (fun b => !stopB b)).length = l.length
      · rw [if_pos h, if_pos (show ((-1 : Int) == -1) = true from rfl), if_pos (by omega)]
      · rw [if_neg h, if_neg (fun e => by have := beq_iff_eq.1 e; omega), if_neg (by omega)]
        push_cast
        rfl
/-- Where the first of the three bytes is. -/
theorem indexAny_run {d : List UInt8} {k : Nat} (hk : k ≤ d.length) : Lib.indexAny (d.drop k) [123, 125, 10] = if runEnd (fun b => !stopB b) d k = d.length then -1 else ((runEnd (fun b => !stopB b) d k : Nat) : Int) - (k : Int) := by
  rw [indexAny_stops]
  unfold runEnd
  rw [List.length_drop]
  by_cases h : ((d.drop k).takeWhile (fun b => !stopB b)).length = d.length - k
  · rw [if_pos h, if_pos (by omega)]
  · rw [if_neg h, if_neg (by omega)]
    push_cast
    omega

/-- How a field is read, case by case, as the reference reads it. -/
theorem fld_none {d : List UInt8} {a : Nat} (h : runEnd nmB d a = a) : fld d a = (a, false) := if_pos h
theorem fld_long {d : List UInt8} {a : Nat} (h : 20 < runEnd nmB d a - a) : fld d a = (a + 20, false) := by
  unfold fld
  rw [if_neg (by omega), if_pos h]
theorem fld_other {d : List UInt8} {a te : Nat} (h : runEnd nmB d a = te) (h1 : te ≠ a) (h2 : te - a ≤ 20) (h3 : d[te]? ≠ some 124) (h4 : d[te]? ≠ some 125) : fld d a = (te, false) := by
  unfold fld
  rw [h, if_neg h1, if_neg (by omega), fldEnd, if_neg h3, if_pos h4]
theorem fld_stop {d : List UInt8} {a te e : Nat} (h : runEnd nmB d a = te) (h1 : te ≠ a) (h2 : te - a ≤ 20) (he : fldEnd d te = e) (h4 : d[e]? ≠ some 125) : fld d a = (e, false) := by
  unfold fld
  rw [h, if_neg h1, if_neg (by omega), he, if_pos h4]
theorem fld_one {d : List UInt8} {a te e : Nat} (h : runEnd nmB d a = te) (h1 : te ≠ a) (h2 : te - a ≤ 20) (he : fldEnd d te = e) (h4 : d[e]? = some 125) (h5 : d[e + 1]? ≠ some 125) : fld d a = (e + 1, false) := by
  unfold fld
  rw [h, if_neg h1, if_neg (by omega), he, if_neg (fun h => h h4), if_pos h5]
theorem fld_two {d : List UInt8} {a te e : Nat} (h : runEnd nmB d a = te) (h1 : te ≠ a) (h2 : te - a ≤ 20) (he : fldEnd d te = e) (h4 : d[e]? = some 125) (h5 : d[e + 1]? = some 125) : fld d a = (e + 2, true) := by
  unfold fld
  rw [h, if_neg h1, if_neg (by omega), he, if_neg (fun h => h h4), if_neg (fun h => h h5)]
theorem fldEnd_bar {d : List UInt8} {te : Nat} (h : d[te]? = some 124) : fldEnd d te = runEnd (fun b => !stopB b) d (te + 1) := if_pos h
theorem fldEnd_no {d : List UInt8} {te : Nat} (h : d[te]? ≠ some 124) : fldEnd d te = te := if_neg h

/-- A part of a template, in the reference. -/
structure Fd where
  t : ByteArray
  n : ByteArray
  o : ByteArray
  i : Bool
  h : Bool
def Fd.cells (p : Fd) : List Value := [.string p.t, .string p.n, .string p.o, .bool p.i, .bool p.h]
def flatFd (ps : List Fd) : List Value := ps.flatMap Fd.cells
theorem flatFd_append (a b : List Fd) : flatFd (a ++ b) = flatFd a ++ flatFd b := List.flatMap_append
theorem flatFd_len : ∀ ps : List Fd, (flatFd ps).length = ps.length * 5
  | [] => rfl
  | p :: ps => by
    have ih := flatFd_len ps
    show (p.cells ++ flatFd ps).length = _
    rw [List.length_append, ih]
    simp only [Fd.cells, List.length_cons, List.length_nil]
    omega
theorem flatFd_get : ∀ (ps : List Fd) (j i : Nat) (h : j < ps.length), i < 5 → (flatFd ps)[j * 5 + i]? = ps[j].cells[i]?
  | p :: ps, 0, i, _, hi => by
    show (p.cells ++ flatFd ps)[0 * 5 + i]? = _
    rw [List.getElem?_append_left (by simp only [Fd.cells, List.length_cons, List.length_nil]; omega)]
    simp only [Nat.zero_mul, Nat.zero_add, List.getElem_cons_zero]
  | p :: ps, j + 1, i, h, hi => by
    have ih := flatFd_get ps j i (by simpa using h) hi
    show (p.cells ++ flatFd ps)[(j + 1) * 5 + i]? = _
    rw [List.getElem?_append_right (by simp only [Fd.cells, List.length_cons, List.length_nil]; omega)]
    rw [show (j + 1) * 5 + i - p.cells.length = j * 5 + i by simp only [Fd.cells, List.length_cons, List.length_nil]; omega]
    exact ih
/-- The names of fields. -/
def fdNames (ps : List Fd) : List ByteArray := (ps.filter (·.i)).map (·.n)
theorem fdNames_append (a b : List Fd) : fdNames (a ++ b) = fdNames a ++ fdNames b := by
  unfold fdNames
  rw [List.filter_append, List.map_append]
theorem fdNames_text (t n o : ByteArray) (h : Bool) : fdNames [⟨t, n, o, false, h⟩] = [] := rfl
theorem fdNames_field (t0 n0 o0 t n o : ByteArray) (h0 h : Bool) : fdNames [⟨t0, n0, o0, false, h0⟩, ⟨t, n, o, true, h⟩] = [n] := rfl
/-- Where fields lie. -/
def FdAt (w : World) (A : Option Addr) (ps : List Fd) : Prop :=
  ps.length ≤ maxLen ∧ (0 < ps.length → ∃ b' o', A = some ⟨b', o', none⟩ ∧ b' < w.heap.size ∧ ∀ j (h : j < ps.length), w.cell? ⟨b', o' + j * 5, none⟩ = some (.string ps[j].t) ∧ w.cell? ⟨b', o' + j * 5 + 1, none⟩ = some (.string ps[j].n) ∧
    w.cell? ⟨b', o' + j * 5 + 2, none⟩ = some (.string ps[j].o) ∧ w.cell? ⟨b', o' + j * 5 + 3, none⟩ = some (.bool ps[j].i) ∧ w.cell? ⟨b', o' + j * 5 + 4, none⟩ = some (.bool ps[j].h))
theorem FdAt.below {w w' : World} {A : Option Addr} {l : List Fd} (h : FdAt w A l) (hb : Below w.heap.size w w') : FdAt w' A l :=
  ⟨h.1, fun hl => by
    obtain ⟨b', o', hA, hb', hj⟩ := h.2 hl
    have hk : ∀ i, w'.cell? ⟨b', i, none⟩ = w.cell? ⟨b', i, none⟩ := fun i => hb.cell (p := ⟨b', i, none⟩) hb'
    exact ⟨b', o', hA, Nat.lt_of_lt_of_le hb' hb.size, fun j h => by
      obtain ⟨h0, h1, h2, h3, h4⟩ := hj j h
      exact ⟨(hk _).trans h0, (hk _).trans h1, (hk _).trans h2, (hk _).trans h3, (hk _).trans h4⟩⟩⟩
theorem OwnK.fds {w : World} {base n m c : Nat} {A : Option Addr} {ps : List Fd} (h : OwnK 5 53 w base (.slice A m c) n (flatFd ps)) : m = n ∧ ps.length = n ∧ FdAt w A ps := by
  obtain ⟨hl, A', c', hv, h1, h2, h3⟩ := h
  injection hv with e1 e2 e3
  subst e1 e2 e3
  rw [flatFd_len] at hl
  have hn : ps.length = m := by omega
  refine ⟨rfl, hn, by omega, fun hp => ?_⟩
  rcases h3 with ⟨_, h0, _⟩ | ⟨g, cur, hA, hg, hb, h4, h5⟩
  · omega
  · refine ⟨g, 0, hA, (Array.getElem?_eq_some_iff.1 hb).1, fun j hj => ?_⟩
    have hc : ∀ i, i < 5 → w.cell? ⟨g, 0 + j * 5 + i, none⟩ = ps[j].cells[i]? := fun i hi => by
      rw [← flatFd_get ps j i hj hi, Nat.zero_add, cell_of_row w g _ cur _ (0, 0) hb, ← h5, List.getElem?_take_of_lt (by omega)]; simp
    exact ⟨hc 0 (by omega), hc 1 (by omega), hc 2 (by omega), hc 3 (by omega), hc 4 (by omega)⟩
theorem info_fd : (Try.prog.info? 53).map (fun i => (i.zero, i.size, i.bytes)) = some (some (.agg #[.string ByteArray.empty, .string ByteArray.empty, .string ByteArray.empty, .bool false, .bool false]), 5, 56) := by kernel_rfl

/-- What templateOf hands back. -/
def ToOut (s : ByteArray) (w : World) (e : Ending) (w' : World) : Prop :=
  Below w.heap.size w w' ∧ ((∃ q, (tm s 0).2 = some q ∧ e = .returned (.tuple #[.slice none 0 0, .int .i64 (q : Nat), .bool false])) ∨
    ((tm s 0).2 = none ∧ ∃ A c ps, e = .returned (.tuple #[.slice A ps.length c, .int .i64 0, .bool true]) ∧ FdAt w' A ps ∧ fdNames ps = (tm s 0).1 ∧ ps.length = 2 * (fdNames ps).length + 1 ∧ ps.length ≤ 400001))

end Go.Proofs.Ytpbkidjbbhkjnaa
