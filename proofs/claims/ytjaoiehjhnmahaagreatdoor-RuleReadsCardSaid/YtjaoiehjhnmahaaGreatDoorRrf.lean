/-
  WORDS FOR MEMORY: a rule that is being read off a reader of words: the reader's block alone is turned of what was there.
-/
import Derived.Test.YtjaoiehjhnmahaaGreatDoorRre
set_option linter.all false
namespace Go.Proofs.YtjaoiehjhnmahaaGreatDoor
open Go.RowKit

/-- A row of numbers at or above lo. -/
def IR (w : World) (lo : Nat) (A : Option Addr) (l : List Int) : Prop :=
  l.length ≤ 4294967296 ∧ (0 < l.length → ∃ b off, A = some ⟨b, off, none⟩ ∧ lo ≤ b ∧ b < w.heap.size ∧ ∀ j (h : j < l.length), w.cell? ⟨b, off + j, none⟩ = some (.int .i64 l[j]))
theorem IR.nil {w : World} {lo : Nat} {A : Option Addr} : IR w lo A [] := ⟨by simp, fun h => by simp at h⟩
theorem IR.keep {w w' : World} {lo : Nat} {A : Option Addr} {l : List Int} (h : IR w lo A l) (hs : w.heap.size ≤ w'.heap.size) (hb : ∀ b, lo ≤ b → b < w.heap.size → w'.heap[b]? = w.heap[b]?) : IR w' lo A l := by
  refine ⟨h.1, fun hl => ?_⟩
  obtain ⟨b, off, hA, h1, h2, h3⟩ := h.2 hl
  exact ⟨b, off, hA, h1, Nat.lt_of_lt_of_le h2 hs, fun j hj => (World.cell?_of_block (hb b h1 h2)).trans (h3 j hj)⟩
theorem IR.low {w : World} {lo lo' : Nat} {A : Option Addr} {l : List Int} (h : IR w lo A l) (hl : lo' ≤ lo) : IR w lo' A l := by
  refine ⟨h.1, fun h0 => ?_⟩
  obtain ⟨b, off, hA, h1, h2, h3⟩ := h.2 h0
  exact ⟨b, off, hA, Nat.le_trans hl h1, h2, h3⟩
theorem IR.ints {w : World} {lo : Nat} {A : Option Addr} {l : List Int} (h : IR w lo A l) : IntsAt w A l := fun hl => by
  obtain ⟨b, off, hA, _, h2, h3⟩ := h.2 hl
  exact ⟨b, off, hA, h2, h3⟩
theorem IR.of_own {w : World} {base n : Nat} {A : Option Addr} {c : Nat} {ns : List Int} (h : w.ownsRow base 3 1 (.slice A n c) n (ns.map (Value.int .i64))) (hn : ns.length ≤ 4294967296) : IR w base A ns := by
  refine ⟨hn, fun hl => ?_⟩
  obtain ⟨b, off, hA, h2, h3⟩ := intsAt_of_own h hl
  refine ⟨b, off, hA, ?_, h2, h3⟩
  exact own_block h b (by rw [hA]; rfl)
theorem Below.set_up {B : Nat} {w : World} {g i : Nat} (v : Value) (hg : B ≤ g) : Below B w (w.setCell ⟨g, i, none⟩ v) :=
  ⟨rfl, rfl, rfl, by simp [World.setCell], fun k hk => Below.heap_setCell w _ v k (by simp only; omega)⟩
theorem Rd.up {T : TypeId} {w : World} {p B B' : Nat} {L : List ByteArray} {f : Bool} (h : Rd T w p B L f) (h1 : B ≤ B') (h2 : B' ≤ w.heap.size) : Rd T w p B' L f := by
  obtain ⟨⟨b, o, c, k1, k2, k3, k4, k5, k6⟩, k7, k8, k9⟩ := h
  exact ⟨⟨b, o, c, k1, k2, by omega, k4, k5, k6⟩, by omega, h2, k9⟩

/-- A rule that is being read: the reader at p, the rule behind what was there, and one block more between them. -/
structure RS (w0 w : World) (p : Nat) (L : List ByteArray) (f : Bool) (r : Rul) : Prop where
  rd : Rd 64 w p w0.heap.size L f
  blk : ∃ A1 A2 A3 c1 c2 c3, Blk w (w0.heap.size + 1) 32 #[.int .i64 r.u, .int .i64 r.e, .int .i64 r.f, .int .i64 r.t, .int .i64 r.c, .slice A1 r.wd.length c1, .slice A2 r.da.length c2, .int .i64 r.n, .slice A3 r.sk.length c3] ∧ IR w (w0.heap.size + 2) A1 r.wd ∧ IR w (w0.heap.size + 2) A2 r.da ∧ IR w (w0.heap.size + 2) A3 r.sk
  res : ∃ q0 q1 q2 q3 q4 q5 q6 q7 q8, Blk w w0.heap.size 32 #[q0, q1, q2, q3, q4, q5, q6, q7, q8]
  trn : Trn p w0 w
theorem RS.hp {w0 w : World} {p : Nat} {L : List ByteArray} {f : Bool} {r : Rul} (h : RS w0 w p L f r) : p < w0.heap.size := h.rd.lt
theorem RS.call {w0 w w' : World} {p : Nat} {L L' : List ByteArray} {f f' : Bool} {r : Rul} (h : RS w0 w p L f r) (hr : Rd 64 w' p w0.heap.size L' f') (ht : Trn p w w') : RS w0 w' p L' f' r := by
  have hp := h.hp
  obtain ⟨A1, A2, A3, c1, c2, c3, k1, k2, k3, k4⟩ := h.blk
  obtain ⟨q0, q1, q2, q3, q4, q5, q6, q7, q8, k5⟩ := h.res
  have hk : ∀ b, w0.heap.size + 2 ≤ b → b < w.heap.size → w'.heap[b]? = w.heap[b]? := fun b h1 h2 => ht.same b h2 (by omega)
  exact ⟨hr, ⟨A1, A2, A3, c1, c2, c3, ht.blk k1 (by omega), k2.keep ht.size hk, k3.keep ht.size hk, k4.keep ht.size hk⟩, ⟨q0, q1, q2, q3, q4, q5, q6, q7, q8, ht.blk k5 (by omega)⟩, h.trn.trans ht⟩
theorem RS.flag {w0 w : World} {p : Nat} {L : List ByteArray} {f : Bool} {r : Rul} (h : RS w0 w p L f r) (f' : Bool) : RS w0 (w.setCell ⟨p, 1, none⟩ (.bool f')) p L f' r := h.call (h.rd.flag f') (Trn.set _ _)
theorem RS.plus {w0 w : World} {p : Nat} {L : List ByteArray} {f : Bool} {r : Rul} (h : RS w0 w p L f r) (os : Array Obj) (n : Nat) : RS w0 (plus w os n) p L f r := h.call (h.rd.below_ (bl_plus (Below.refl _ _))) (Trn.of_below (bl_plus (Below.refl _ _)))
/-- What is in memory. -/
theorem RS.at_ {w0 w : World} {p : Nat} {L : List ByteArray} {f : Bool} {r : Rul} (h : RS w0 w p L f r) : w.cell? ⟨p, 1, none⟩ = some (.bool f) ∧ w.frozen? ⟨p, 1, none⟩ = false ∧ p < w.heap.size ∧ w0.heap.size + 1 < w.heap.size ∧ (∀ i, w.frozen? ⟨w0.heap.size + 1, i, none⟩ = false) ∧ (∀ i, w.frozen? ⟨w0.heap.size, i, none⟩ = false) ∧
    w.cell? ⟨w0.heap.size + 1, 0, none⟩ = some (.int .i64 r.u) ∧ w.cell? ⟨w0.heap.size + 1, 1, none⟩ = some (.int .i64 r.e) ∧ w.cell? ⟨w0.heap.size + 1, 2, none⟩ = some (.int .i64 r.f) ∧ w.cell? ⟨w0.heap.size + 1, 3, none⟩ = some (.int .i64 r.t) ∧ w.cell? ⟨w0.heap.size + 1, 4, none⟩ = some (.int .i64 r.c) ∧ w.cell? ⟨w0.heap.size + 1, 7, none⟩ = some (.int .i64 r.n) := by
  obtain ⟨A1, A2, A3, c1, c2, c3, k1, k2, k3, k4⟩ := h.blk
  obtain ⟨q0, q1, q2, q3, q4, q5, q6, q7, q8, k5⟩ := h.res
  obtain ⟨⟨b, o, c, j1, j2, j3, j4, j5, j6⟩, j7, j8, j9⟩ := h.rd
  exact ⟨j1.cell 1, j1.frozen 1, j1.lt, k1.lt, k1.frozen, k5.frozen, k1.cell 0, k1.cell 1, k1.cell 2, k1.cell 3, k1.cell 4, k1.cell 7⟩

theorem RS.rows {w0 w : World} {p : Nat} {L : List ByteArray} {f : Bool} {r : Rul} (h : RS w0 w p L f r) : ∃ x5 x6 x8, w.cell? ⟨w0.heap.size + 1, 5, none⟩ = some x5 ∧ w.cell? ⟨w0.heap.size + 1, 6, none⟩ = some x6 ∧ w.cell? ⟨w0.heap.size + 1, 8, none⟩ = some x8 := by
  obtain ⟨A1, A2, A3, c1, c2, c3, k1, k2, k3, k4⟩ := h.blk
  exact ⟨_, _, _, k1.cell 5, k1.cell 6, k1.cell 8⟩

theorem RS.set_u {w0 w : World} {p : Nat} {L : List ByteArray} {f : Bool} {r : Rul} (h : RS w0 w p L f r) (k : Int) : RS w0 (w.setCell ⟨w0.heap.size + 1, 0, none⟩ (.int .i64 k)) p L f { r with u := k } := by
  have hp := h.hp
  obtain ⟨A1, A2, A3, c1, c2, c3, k1, k2, k3, k4⟩ := h.blk
  obtain ⟨q0, q1, q2, q3, q4, q5, q6, q7, q8, k5⟩ := h.res
  have hsz : w.heap.size ≤ (w.setCell ⟨w0.heap.size + 1, 0, none⟩ (.int .i64 k)).heap.size := by simp [World.setCell]
  have hk : ∀ b, w0.heap.size + 2 ≤ b → b < w.heap.size → (w.setCell ⟨w0.heap.size + 1, 0, none⟩ (.int .i64 k)).heap[b]? = w.heap[b]? := fun b h1 _ => Below.heap_setCell w _ _ b (by simp only; omega)
  have hb : Below w0.heap.size w (w.setCell ⟨w0.heap.size + 1, 0, none⟩ (.int .i64 k)) := Below.set_up _ (by omega)
  exact ⟨h.rd.below hb, ⟨A1, A2, A3, c1, c2, c3, k1.set_ 0 _, k2.keep hsz hk, k3.keep hsz hk, k4.keep hsz hk⟩, ⟨q0, q1, q2, q3, q4, q5, q6, q7, q8, k5.far (by simp only; omega) _⟩, h.trn.low hb⟩

theorem RS.set_e {w0 w : World} {p : Nat} {L : List ByteArray} {f : Bool} {r : Rul} (h : RS w0 w p L f r) (k : Int) : RS w0 (w.setCell ⟨w0.heap.size + 1, 1, none⟩ (.int .i64 k)) p L f { r with e := k } := by
  have hp := h.hp
  obtain ⟨A1, A2, A3, c1, c2, c3, k1, k2, k3, k4⟩ := h.blk
  obtain ⟨q0, q1, q2, q3, q4, q5, q6, q7, q8, k5⟩ := h.res
  have hsz : w.heap.size ≤ (w.setCell ⟨w0.heap.size + 1, 1, none⟩ (.int .i64 k)).heap.size := by simp [World.setCell]
  have hk : ∀ b, w0.heap.size + 2 ≤ b → b < w.heap.size → (w.setCell ⟨w0.heap.size + 1, 1, none⟩ (.int .i64 k)).heap[b]? = w.heap[b]? := fun b h1 _ => Below.heap_setCell w _ _ b (by simp only; omega)
  have hb : Below w0.heap.size w (w.setCell ⟨w0.heap.size + 1, 1, none⟩ (.int .i64 k)) := Below.set_up _ (by omega)
  exact ⟨h.rd.below hb, ⟨A1, A2, A3, c1, c2, c3, k1.set_ 1 _, k2.keep hsz hk, k3.keep hsz hk, k4.keep hsz hk⟩, ⟨q0, q1, q2, q3, q4, q5, q6, q7, q8, k5.far (by simp only; omega) _⟩, h.trn.low hb⟩

theorem RS.set_f {w0 w : World} {p : Nat} {L : List ByteArray} {f : Bool} {r : Rul} (h : RS w0 w p L f r) (k : Int) : RS w0 (w.setCell ⟨w0.heap.size + 1, 2, none⟩ (.int .i64 k)) p L f { r with f := k } := by
  have hp := h.hp
  obtain ⟨A1, A2, A3, c1, c2, c3, k1, k2, k3, k4⟩ := h.blk
  obtain ⟨q0, q1, q2, q3, q4, q5, q6, q7, q8, k5⟩ := h.res
  have hsz : w.heap.size ≤ (w.setCell ⟨w0.heap.size + 1, 2, none⟩ (.int .i64 k)).heap.size := by simp [World.setCell]
  have hk : ∀ b, w0.heap.size + 2 ≤ b → b < w.heap.size → (w.setCell ⟨w0.heap.size + 1, 2, none⟩ (.int .i64 k)).heap[b]? = w.heap[b]? := fun b h1 _ => Below.heap_setCell w _ _ b (by simp only; omega)
  have hb : Below w0.heap.size w (w.setCell ⟨w0.heap.size + 1, 2, none⟩ (.int .i64 k)) := Below.set_up _ (by omega)
  exact ⟨h.rd.below hb, ⟨A1, A2, A3, c1, c2, c3, k1.set_ 2 _, k2.keep hsz hk, k3.keep hsz hk, k4.keep hsz hk⟩, ⟨q0, q1, q2, q3, q4, q5, q6, q7, q8, k5.far (by simp only; omega) _⟩, h.trn.low hb⟩

theorem RS.set_t {w0 w : World} {p : Nat} {L : List ByteArray} {f : Bool} {r : Rul} (h : RS w0 w p L f r) (k : Int) : RS w0 (w.setCell ⟨w0.heap.size + 1, 3, none⟩ (.int .i64 k)) p L f { r with t := k } := by
  have hp := h.hp
  obtain ⟨A1, A2, A3, c1, c2, c3, k1, k2, k3, k4⟩ := h.blk
  obtain ⟨q0, q1, q2, q3, q4, q5, q6, q7, q8, k5⟩ := h.res
  have hsz : w.heap.size ≤ (w.setCell ⟨w0.heap.size + 1, 3, none⟩ (.int .i64 k)).heap.size := by simp [World.setCell]
  have hk : ∀ b, w0.heap.size + 2 ≤ b → b < w.heap.size → (w.setCell ⟨w0.heap.size + 1, 3, none⟩ (.int .i64 k)).heap[b]? = w.heap[b]? := fun b h1 _ => Below.heap_setCell w _ _ b (by simp only; omega)
  have hb : Below w0.heap.size w (w.setCell ⟨w0.heap.size + 1, 3, none⟩ (.int .i64 k)) := Below.set_up _ (by omega)
  exact ⟨h.rd.below hb, ⟨A1, A2, A3, c1, c2, c3, k1.set_ 3 _, k2.keep hsz hk, k3.keep hsz hk, k4.keep hsz hk⟩, ⟨q0, q1, q2, q3, q4, q5, q6, q7, q8, k5.far (by simp only; omega) _⟩, h.trn.low hb⟩

theorem RS.set_c {w0 w : World} {p : Nat} {L : List ByteArray} {f : Bool} {r : Rul} (h : RS w0 w p L f r) (k : Int) : RS w0 (w.setCell ⟨w0.heap.size + 1, 4, none⟩ (.int .i64 k)) p L f { r with c := k } := by
  have hp := h.hp
  obtain ⟨A1, A2, A3, c1, c2, c3, k1, k2, k3, k4⟩ := h.blk
  obtain ⟨q0, q1, q2, q3, q4, q5, q6, q7, q8, k5⟩ := h.res
  have hsz : w.heap.size ≤ (w.setCell ⟨w0.heap.size + 1, 4, none⟩ (.int .i64 k)).heap.size := by simp [World.setCell]
  have hk : ∀ b, w0.heap.size + 2 ≤ b → b < w.heap.size → (w.setCell ⟨w0.heap.size + 1, 4, none⟩ (.int .i64 k)).heap[b]? = w.heap[b]? := fun b h1 _ => Below.heap_setCell w _ _ b (by simp only; omega)
  have hb : Below w0.heap.size w (w.setCell ⟨w0.heap.size + 1, 4, none⟩ (.int .i64 k)) := Below.set_up _ (by omega)
  exact ⟨h.rd.below hb, ⟨A1, A2, A3, c1, c2, c3, k1.set_ 4 _, k2.keep hsz hk, k3.keep hsz hk, k4.keep hsz hk⟩, ⟨q0, q1, q2, q3, q4, q5, q6, q7, q8, k5.far (by simp only; omega) _⟩, h.trn.low hb⟩

theorem RS.set_wd {w0 w : World} {p : Nat} {L : List ByteArray} {f : Bool} {r : Rul} (h : RS w0 w p L f r) (A : Option Addr) (c : Nat) (l : List Int) (hl : IR w (w0.heap.size + 2) A l) : RS w0 (w.setCell ⟨w0.heap.size + 1, 5, none⟩ (.slice A l.length c)) p L f { r with wd := l } := by
  have hp := h.hp
  obtain ⟨A1, A2, A3, c1, c2, c3, k1, k2, k3, k4⟩ := h.blk
  obtain ⟨q0, q1, q2, q3, q4, q5, q6, q7, q8, k5⟩ := h.res
  have hsz : w.heap.size ≤ (w.setCell ⟨w0.heap.size + 1, 5, none⟩ (.slice A l.length c)).heap.size := by simp [World.setCell]
  have hk : ∀ b, w0.heap.size + 2 ≤ b → b < w.heap.size → (w.setCell ⟨w0.heap.size + 1, 5, none⟩ (.slice A l.length c)).heap[b]? = w.heap[b]? := fun b h1 _ => Below.heap_setCell w _ _ b (by simp only; omega)
  have hb : Below w0.heap.size w (w.setCell ⟨w0.heap.size + 1, 5, none⟩ (.slice A l.length c)) := Below.set_up _ (by omega)
  exact ⟨h.rd.below hb, ⟨A, A2, A3, c, c2, c3, k1.set_ 5 _, hl.keep hsz hk, k3.keep hsz hk, k4.keep hsz hk⟩, ⟨q0, q1, q2, q3, q4, q5, q6, q7, q8, k5.far (by simp only; omega) _⟩, h.trn.low hb⟩

theorem RS.set_da {w0 w : World} {p : Nat} {L : List ByteArray} {f : Bool} {r : Rul} (h : RS w0 w p L f r) (A : Option Addr) (c : Nat) (l : List Int) (hl : IR w (w0.heap.size + 2) A l) : RS w0 (w.setCell ⟨w0.heap.size + 1, 6, none⟩ (.slice A l.length c)) p L f { r with da := l } := by
  have hp := h.hp
  obtain ⟨A1, A2, A3, c1, c2, c3, k1, k2, k3, k4⟩ := h.blk
  obtain ⟨q0, q1, q2, q3, q4, q5, q6, q7, q8, k5⟩ := h.res
  have hsz : w.heap.size ≤ (w.setCell ⟨w0.heap.size + 1, 6, none⟩ (.slice A l.length c)).heap.size := by simp [World.setCell]
  have hk : ∀ b, w0.heap.size + 2 ≤ b → b < w.heap.size → (w.setCell ⟨w0.heap.size + 1, 6, none⟩ (.slice A l.length c)).heap[b]? = w.heap[b]? := fun b h1 _ => Below.heap_setCell w _ _ b (by simp only; omega)
  have hb : Below w0.heap.size w (w.setCell ⟨w0.heap.size + 1, 6, none⟩ (.slice A l.length c)) := Below.set_up _ (by omega)
  exact ⟨h.rd.below hb, ⟨A1, A, A3, c1, c, c3, k1.set_ 6 _, k2.keep hsz hk, hl.keep hsz hk, k4.keep hsz hk⟩, ⟨q0, q1, q2, q3, q4, q5, q6, q7, q8, k5.far (by simp only; omega) _⟩, h.trn.low hb⟩

theorem RS.set_n {w0 w : World} {p : Nat} {L : List ByteArray} {f : Bool} {r : Rul} (h : RS w0 w p L f r) (k : Int) : RS w0 (w.setCell ⟨w0.heap.size + 1, 7, none⟩ (.int .i64 k)) p L f { r with n := k } := by
  have hp := h.hp
  obtain ⟨A1, A2, A3, c1, c2, c3, k1, k2, k3, k4⟩ := h.blk
  obtain ⟨q0, q1, q2, q3, q4, q5, q6, q7, q8, k5⟩ := h.res
  have hsz : w.heap.size ≤ (w.setCell ⟨w0.heap.size + 1, 7, none⟩ (.int .i64 k)).heap.size := by simp [World.setCell]
  have hk : ∀ b, w0.heap.size + 2 ≤ b → b < w.heap.size → (w.setCell ⟨w0.heap.size + 1, 7, none⟩ (.int .i64 k)).heap[b]? = w.heap[b]? := fun b h1 _ => Below.heap_setCell w _ _ b (by simp only; omega)
  have hb : Below w0.heap.size w (w.setCell ⟨w0.heap.size + 1, 7, none⟩ (.int .i64 k)) := Below.set_up _ (by omega)
  exact ⟨h.rd.below hb, ⟨A1, A2, A3, c1, c2, c3, k1.set_ 7 _, k2.keep hsz hk, k3.keep hsz hk, k4.keep hsz hk⟩, ⟨q0, q1, q2, q3, q4, q5, q6, q7, q8, k5.far (by simp only; omega) _⟩, h.trn.low hb⟩

theorem RS.set_sk {w0 w : World} {p : Nat} {L : List ByteArray} {f : Bool} {r : Rul} (h : RS w0 w p L f r) (A : Option Addr) (c : Nat) (l : List Int) (hl : IR w (w0.heap.size + 2) A l) : RS w0 (w.setCell ⟨w0.heap.size + 1, 8, none⟩ (.slice A l.length c)) p L f { r with sk := l } := by
  have hp := h.hp
  obtain ⟨A1, A2, A3, c1, c2, c3, k1, k2, k3, k4⟩ := h.blk
  obtain ⟨q0, q1, q2, q3, q4, q5, q6, q7, q8, k5⟩ := h.res
  have hsz : w.heap.size ≤ (w.setCell ⟨w0.heap.size + 1, 8, none⟩ (.slice A l.length c)).heap.size := by simp [World.setCell]
  have hk : ∀ b, w0.heap.size + 2 ≤ b → b < w.heap.size → (w.setCell ⟨w0.heap.size + 1, 8, none⟩ (.slice A l.length c)).heap[b]? = w.heap[b]? := fun b h1 _ => Below.heap_setCell w _ _ b (by simp only; omega)
  have hb : Below w0.heap.size w (w.setCell ⟨w0.heap.size + 1, 8, none⟩ (.slice A l.length c)) := Below.set_up _ (by omega)
  exact ⟨h.rd.below hb, ⟨A1, A2, A, c1, c2, c, k1.set_ 8 _, k2.keep hsz hk, k3.keep hsz hk, hl.keep hsz hk⟩, ⟨q0, q1, q2, q3, q4, q5, q6, q7, q8, k5.far (by simp only; omega) _⟩, h.trn.low hb⟩

end Go.Proofs.YtjaoiehjhnmahaaGreatDoor
