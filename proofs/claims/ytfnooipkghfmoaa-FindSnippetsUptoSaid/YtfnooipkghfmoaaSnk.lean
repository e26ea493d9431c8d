/-
  PLAIN AND WALKS: marks in memory; what carries rows and maps from one literal world to another.
-/
import Derived.Test.YtfnooipkghfmoaaSnj
set_option linter.all false
namespace Go.Proofs.Ytfnooipkghfmoaa
open Go.RowKit Go.Lib

def mkCells (x : Wd) : List Value := [.int .i64 x.f, .int .i64 x.u]
def flatMk (l : List Wd) : List Value := l.flatMap mkCells
theorem flatMk_snoc (l : List Wd) (x : Wd) : flatMk (l ++ [x]) = flatMk l ++ mkCells x := by simp [flatMk]
theorem flatMk_len (l : List Wd) : (flatMk l).length = l.length * 2 := by
  induction l with
  | nil => rfl
  | cons x xs ih => simp [flatMk, mkCells] at ih ⊢; omega
theorem flatMk_get (xs : List Wd) : ∀ (j i : Nat) (h : j < xs.length), i < 2 → (flatMk xs)[j * 2 + i]? = (mkCells xs[j])[i]? := by
  induction xs with
  | nil => intro j i h; simp at h
  | cons x xs ih =>
    intro j i h hi
    cases j with
    | zero =>
      simp only [flatMk, List.flatMap_cons, Nat.zero_mul, Nat.zero_add, List.getElem_cons_zero]
      rw [List.getElem?_append_left (by simp [mkCells]; omega)]
    | succ j =>
      have := ih j i (by simpa using h) hi
      simp only [flatMk, List.flatMap_cons, List.getElem_cons_succ] at this ⊢
      rw [List.getElem?_append_right (by simp [mkCells]; omega)]
      simp only [mkCells, List.length_cons, List.length_nil] at this ⊢
      rw [show (j + 1) * 2 + i - (0 + 1 + 1) = j * 2 + i by omega]
      exact this
theorem info_mk : (Try.prog.info? 55).map (fun i => (i.zero, i.size, i.bytes)) = some (some (.agg #[.int .i64 0, .int .i64 0]), 2, 16) := by kernel_rfl
/-- A slice of marks reads as a list. -/
def MksAt (w : World) (A : Option Addr) (l : List Wd) : Prop :=
  0 < l.length → ∃ b o, A = some ⟨b, o, none⟩ ∧ b < w.heap.size ∧ ∀ j (h : j < l.length), w.cell? ⟨b, o + j * 2, none⟩ = some (.int .i64 l[j].f) ∧ w.cell? ⟨b, o + j * 2 + 1, none⟩ = some (.int .i64 l[j].u)
theorem MksAt.below {w w' : World} {A : Option Addr} {l : List Wd} (h : MksAt w A l) (hb : Below w.heap.size w w') : MksAt w' A l := fun hl => by
  obtain ⟨b, o, hA, hlt, hc⟩ := h hl
  refine ⟨b, o, hA, Nat.lt_of_lt_of_le hlt hb.size, fun j hj => ?_⟩
  obtain ⟨h0, h1⟩ := hc j hj
  exact ⟨(hb.cell (p := ⟨b, o + j * 2, none⟩) hlt).trans h0, (hb.cell (p := ⟨b, o + j * 2 + 1, none⟩) hlt).trans h1⟩
theorem OwnK.mks {w : World} {base n : Nat} {A : Option Addr} {c m : Nat} {l : List Wd} (h : OwnK 2 55 w base (.slice A m c) n (flatMk l)) : m = n ∧ l.length = n ∧ n ≤ c ∧ MksAt w A l := by
  obtain ⟨hl, A', c', hv, h1, h2, h3⟩ := h
  injection hv with e1 e2 e3
  subst e1 e2 e3
  rw [flatMk_len] at hl
  have hn : l.length = m := by omega
  refine ⟨rfl, hn, h1, fun hp => ?_⟩
  rcases h3 with ⟨_, h0, _⟩ | ⟨g, cur, hA, hg, hb, h4, h5⟩
  · omega
  · refine ⟨g, 0, hA, (Array.getElem?_eq_some_iff.1 hb).1, fun j hj => ?_⟩
    have hk : ∀ i, i < 2 → w.cell? ⟨g, 0 + j * 2 + i, none⟩ = (mkCells l[j])[i]? := fun i hi => by
      rw [← flatMk_get l j i hj hi, Nat.zero_add, cell_of_row w g _ cur _ (0, 0) hb, ← h5, List.getElem?_take_of_lt (by omega)]
      simp
    exact ⟨hk 0 (by decide), hk 1 (by decide)⟩
theorem plus_swapQ {B B' : World} {O : Array Obj} {n n' g : Nat} (hs : B.heap.size = B'.heap.size) (hg : B.heap.size ≤ g) : (plus B O n).heap[g]? = (plus B' O n').heap[g]? := by
  unfold plus
  simp only [Array.getElem?_append]
  rw [if_neg (by omega), if_neg (by omega), hs]
theorem ownK_swap {K : Nat} {e : TypeId} {B B' : World} {O : Array Obj} {n n' base m : Nat} {v : Value} {xs : List Value} (h : OwnK K e (plus B O n) base v m xs) (hs : B.heap.size = B'.heap.size) (hb : B.heap.size ≤ base) : OwnK K e (plus B' O n') base v m xs :=
  h.kept fun k hk => (plus_swapQ hs.symm (by have := (h.lt k hk).1; omega))
theorem own_heap {H : Type} {P : Program} {k : TypeId} {R : Value → Option (DataW H × List MemPlace)} {w w' : World} {b n : Nat} {D : DataW H} (h : w.ownsMap P k R b n D) (e : w'.heap[b]? = w.heap[b]?) : w'.ownsMap P k R b n D := by
  obtain ⟨es, clock, hb, F, hs, hD⟩ := h
  exact ⟨es, clock, e.trans hb, F, hs, hD⟩
theorem plus_nest {L : World} {o1 o2 o3 : Array Obj} {n1 n2 n3 : Nat} {a b : Obj} : plus ((plus ((plus L o1 n1).alloc a) o2 n2).alloc b) o3 n3 = plus L (o1.push a ++ (o2.push b ++ o3)) n3 := by rw [plus_alloc, plus_plus, plus_alloc, plus_plus]

set_option maxHeartbeats 400000 in
theorem clipMk_any (A : Option Addr) (n c : Nat) (w : World) (h : n ≤ c) :
    Calls Try.prog 19 #[.slice A n c] w fun e w' => e = .returned (.slice A n n) ∧ w = w' := by
  have h1 : (n : Int) ≤ (c : Int) := by omega
  go_enter Try.func19, Try.ntmps19
  go_wp2
  go_ret
  exact ⟨rfl, rfl⟩

/-- DeleteFunc at a row that the call owns, empty or not. -/
theorem deleteRow_all (fid : FuncId) (gq : Nat) (p : Wd → Bool) (ws : World) (base c : Nat) (A : Option Addr) (l : List Wd) (w : World) (hlen : l.length ≤ 2000000) (ent : ∀ args w, (callFunc fid args).run Try.prog w = .ok (.enter fid args) w)
    (hr : OwnK 3 48 w base (.slice A l.length c) l.length (flatW l)) (hws : Below ws.heap.size ws w) (hlo : ws.heap.size ≤ base)
    (hF : ∀ x ∈ l, ∀ W, Below ws.heap.size ws W → Calls Try.prog fid #[.agg #[.string x.t, .int .i64 x.f, .int .i64 x.u], .pointer (some ⟨gq, 0, none⟩)] W fun e w' => e = .returned (.bool (!p x)) ∧ Below W.heap.size W w') :
    Calls Try.prog 14 #[.slice A l.length c, .func (.func fid) #[] #[.pointer (some ⟨gq, 0, none⟩)]] w (DelOutW base A c p l w) := by
  have hr2 := hr
  obtain ⟨hl, A', c', hv, h1, h2, h3⟩ := hr2
  injection hv with e1 e2 e3
  subst e1 e3
  rcases h3 with ⟨rfl, h0, rfl⟩ | ⟨g, cur, rfl, hg, hb, h4, h5⟩
  · have hnil : l = [] := List.length_eq_zero_iff.1 h0
    subst hnil
    refine (deleteNo_any fid gq 0 w).mono ?_
    rintro e w' ⟨rfl, hbl⟩
    exact ⟨rfl, OwnK.empty, ⟨hbl.os, hbl.tape, hbl.output, hbl.size, fun b hb _ => hbl.block b hb⟩⟩
  · exact deleteWd_any fid gq p ws base g c l w hlen ent hr hws (Nat.le_trans hlo hg) hF

/-- A part of a string, and a number, are handed back. -/
def SnpOut (s : Snp) (E : Int) (w : World) (e : Ending) (w' : World) : Prop := ∃ A c, e = .returned (.tuple #[.agg #[.int .i64 s.f, .int .i64 s.u, .slice A s.ms.length c], .int .i64 E]) ∧ MksAt w' A s.ms ∧ Below w.heap.size w w'
/-- What is found in a string, for all arguments. -/
def snipAll (s : ByteArray) (cs : List Cq) (W : Int) : Snp × Int :=
  if qErr cs ≠ 0 then (Snp.zero, qErr cs) else if 2000 < s.size then (Snp.zero, 4) else if W < 1 ∨ 1000 < W then (Snp.zero, 2) else (snipP (wordsAt s 0) (fun x => wantB cs x.t) W.toNat, 0)
theorem inOrder_words (s : ByteArray) : InOrder (wordsAt s 0) := ⟨wordsAt_order s, fun x hx => (wordsAt_in s x hx).1⟩

end Go.Proofs.Ytfnooipkghfmoaa
