/-
  WORDS FOR MEMORY: a rule that is being read in the reference; the loops that append to its rows.
-/
import Derived.Test.YtjaoiehjhnmahaaGreatDoorRrf
import Derived.Test.YtjaoiehjhnmahaaGreatDoorRrt
import Derived.Test.YtjaoiehjhnmahaaGreatDoorOwnB
set_option linter.all false
namespace Go.Proofs.YtjaoiehjhnmahaaGreatDoor
open Go.RowKit

/-- A world in which two old blocks alone are turned. -/
structure Two (p g : Nat) (w w' : World) : Prop where
  os : w'.os = w.os
  tape : w'.tape = w.tape
  output : w'.output = w.output
  size : w.heap.size ≤ w'.heap.size
  same : ∀ b, b < w.heap.size → b ≠ p → b ≠ g → w'.heap[b]? = w.heap[b]?
theorem Two.refl (p g : Nat) (w : World) : Two p g w w := ⟨rfl, rfl, rfl, Nat.le_refl _, fun _ _ _ _ => rfl⟩
theorem Two.trn {p g : Nat} {a b c : World} (h1 : Two p g a b) (h2 : Trn p b c) : Two p g a c :=
  ⟨h2.os.trans h1.os, h2.tape.trans h1.tape, h2.output.trans h1.output, Nat.le_trans h1.size h2.size, fun x hx hn hm => (h2.same x (Nat.lt_of_lt_of_le hx h1.size) hn).trans (h1.same x hx hn hm)⟩
theorem Two.low {p g : Nat} {w W w1 : World} (h : Two p g w W) (hb : Below w.heap.size W w1) : Two p g w w1 :=
  ⟨hb.os.trans h.os, hb.tape.trans h.tape, hb.output.trans h.output, Nat.le_trans h.size hb.size, fun b hlt hn hm => (hb.block b hlt).trans (h.same b hlt hn hm)⟩
theorem Two.setg {p g i : Nat} {w W : World} (h : Two p g w W) (v : Value) : Two p g w (W.setCell ⟨g, i, none⟩ v) :=
  ⟨h.os, h.tape, h.output, by simpa [World.setCell] using h.size, fun b hlt hn hm => (Below.heap_setCell W _ v b hm).trans (h.same b hlt hn hm)⟩

/-- A rule that is being read: the reader at p, the rule behind what was there. -/
structure RR (w0 w : World) (p : Nat) (L : List ByteArray) (f : Bool) (r : Rul) : Prop where
  rd : Rd 69 w p w0.heap.size L f
  blk : ∃ A1 A2 A3 c1 c2 c3, Blk w w0.heap.size 32 #[.int .i64 r.u, .int .i64 r.e, .int .i64 r.f, .int .i64 r.t, .int .i64 r.c, .slice A1 r.wd.length c1, .slice A2 r.da.length c2, .int .i64 r.n, .slice A3 r.sk.length c3] ∧ IR w (w0.heap.size + 1) A1 r.wd ∧ IR w (w0.heap.size + 1) A2 r.da ∧ IR w (w0.heap.size + 1) A3 r.sk ∧ (r.wd = [] → A1 = none ∧ c1 = 0) ∧ (r.da = [] → A2 = none ∧ c2 = 0) ∧ (r.sk = [] → A3 = none ∧ c3 = 0)
  trn : Trn p w0 w
theorem RR.hp {w0 w : World} {p : Nat} {L : List ByteArray} {f : Bool} {r : Rul} (h : RR w0 w p L f r) : p < w0.heap.size := h.rd.lt
theorem RR.call {w0 w : World} {p : Nat} {L : List ByteArray} {f : Bool} {r : Rul} {w' : World} {L' : List ByteArray} {f' : Bool} (h : RR w0 w p L f r) (hr : Rd 69 w' p w0.heap.size L' f') (ht : Trn p w w') : RR w0 w' p L' f' r := by
  have hp := h.hp
  obtain ⟨A1, A2, A3, c1, c2, c3, k1, k2, k3, k4, k5⟩ := h.blk
  have hk : ∀ b, w0.heap.size + 1 ≤ b → b < w.heap.size → w'.heap[b]? = w.heap[b]? := fun b h1 h2 => ht.same b h2 (by omega)
  exact ⟨hr, ⟨A1, A2, A3, c1, c2, c3, ht.blk k1 (by omega), k2.keep ht.size hk, k3.keep ht.size hk, k4.keep ht.size hk, k5⟩, h.trn.trans ht⟩
theorem RR.flag {w0 w : World} {p : Nat} {L : List ByteArray} {f : Bool} {r : Rul} (h : RR w0 w p L f r) (f' : Bool) : RR w0 (w.setCell ⟨p, 1, none⟩ (.bool f')) p L f' r := h.call (h.rd.flag f') (Trn.set _ _)
theorem RR.plus {w0 w : World} {p : Nat} {L : List ByteArray} {f : Bool} {r : Rul} (h : RR w0 w p L f r) (os : Array Obj) (n : Nat) : RR w0 (plus w os n) p L f r := h.call (h.rd.below_ (bl_plus (Below.refl _ _))) (Trn.of_below (bl_plus (Below.refl _ _)))
theorem RR.at_ {w0 w : World} {p : Nat} {L : List ByteArray} {f : Bool} {r : Rul} (h : RR w0 w p L f r) : w.cell? ⟨p, 1, none⟩ = some (.bool f) ∧ w.frozen? ⟨p, 1, none⟩ = false ∧ p < w.heap.size ∧ w0.heap.size < w.heap.size ∧ (∀ i, w.frozen? ⟨w0.heap.size, i, none⟩ = false) ∧ (∀ i, w.frozen? ⟨p, i, none⟩ = false) ∧
    w.cell? ⟨w0.heap.size, 0, none⟩ = some (.int .i64 r.u) ∧ w.cell? ⟨w0.heap.size, 1, none⟩ = some (.int .i64 r.e) ∧ w.cell? ⟨w0.heap.size, 2, none⟩ = some (.int .i64 r.f) ∧ w.cell? ⟨w0.heap.size, 3, none⟩ = some (.int .i64 r.t) ∧ w.cell? ⟨w0.heap.size, 4, none⟩ = some (.int .i64 r.c) ∧ w.cell? ⟨w0.heap.size, 7, none⟩ = some (.int .i64 r.n) := by
  obtain ⟨A1, A2, A3, c1, c2, c3, k1, k2, k3, k4, k5⟩ := h.blk
  obtain ⟨⟨b, o, c, j1, j2, j3, j4, j5, j6⟩, j7, j8, j9⟩ := h.rd
  exact ⟨j1.cell 1, j1.frozen 1, j1.lt, k1.lt, k1.frozen, j1.frozen, k1.cell 0, k1.cell 1, k1.cell 2, k1.cell 3, k1.cell 4, k1.cell 7⟩
theorem RR.rows {w0 w : World} {p : Nat} {L : List ByteArray} {f : Bool} {r : Rul} (h : RR w0 w p L f r) : ∃ x5 x6 x8, w.cell? ⟨w0.heap.size, 5, none⟩ = some x5 ∧ w.cell? ⟨w0.heap.size, 6, none⟩ = some x6 ∧ w.cell? ⟨w0.heap.size, 8, none⟩ = some x8 := by
  obtain ⟨A1, A2, A3, c1, c2, c3, k1, k2, k3, k4⟩ := h.blk
  exact ⟨_, _, _, k1.cell 5, k1.cell 6, k1.cell 8⟩
theorem RR.len {w0 w : World} {p : Nat} {L : List ByteArray} {f : Bool} {r : Rul} (h : RR w0 w p L f r) : L.length ≤ 4294967296 := by
  obtain ⟨⟨_, _, c, _, _, _, k4, k5, _⟩, _, _, _⟩ := h.rd
  omega

theorem RR.set_u {w0 w : World} {p : Nat} {L : List ByteArray} {f : Bool} {r : Rul} (h : RR w0 w p L f r) (k : Int) : RR w0 (w.setCell ⟨w0.heap.size, 0, none⟩ (.int .i64 k)) p L f { r with u := k } := by
  have hp := h.hp
  obtain ⟨A1, A2, A3, c1, c2, c3, k1, k2, k3, k4, k5⟩ := h.blk
  have hsz : w.heap.size ≤ (w.setCell ⟨w0.heap.size, 0, none⟩ (.int .i64 k)).heap.size := by simp [World.setCell]
  have hk : ∀ b, w0.heap.size + 1 ≤ b → b < w.heap.size → (w.setCell ⟨w0.heap.size, 0, none⟩ (.int .i64 k)).heap[b]? = w.heap[b]? := fun b h1 _ => Below.heap_setCell w _ _ b (by simp only; omega)
  have hb : Below w0.heap.size w (w.setCell ⟨w0.heap.size, 0, none⟩ (.int .i64 k)) := Below.set_up _ (by omega)
  exact ⟨h.rd.below hb, ⟨A1, A2, A3, c1, c2, c3, k1.set_ 0 _, k2.keep hsz hk, k3.keep hsz hk, k4.keep hsz hk, k5⟩, h.trn.low hb⟩

theorem RR.set_e {w0 w : World} {p : Nat} {L : List ByteArray} {f : Bool} {r : Rul} (h : RR w0 w p L f r) (k : Int) : RR w0 (w.setCell ⟨w0.heap.size, 1, none⟩ (.int .i64 k)) p L f { r with e := k } := by
  have hp := h.hp
  obtain ⟨A1, A2, A3, c1, c2, c3, k1, k2, k3, k4, k5⟩ := h.blk
  have hsz : w.heap.size ≤ (w.setCell ⟨w0.heap.size, 1, none⟩ (.int .i64 k)).heap.size := by simp [World.setCell]
  have hk : ∀ b, w0.heap.size + 1 ≤ b → b < w.heap.size → (w.setCell ⟨w0.heap.size, 1, none⟩ (.int .i64 k)).heap[b]? = w.heap[b]? := fun b h1 _ => Below.heap_setCell w _ _ b (by simp only; omega)
  have hb : Below w0.heap.size w (w.setCell ⟨w0.heap.size, 1, none⟩ (.int .i64 k)) := Below.set_up _ (by omega)
  exact ⟨h.rd.below hb, ⟨A1, A2, A3, c1, c2, c3, k1.set_ 1 _, k2.keep hsz hk, k3.keep hsz hk, k4.keep hsz hk, k5⟩, h.trn.low hb⟩

theorem RR.set_f {w0 w : World} {p : Nat} {L : List ByteArray} {f : Bool} {r : Rul} (h : RR w0 w p L f r) (k : Int) : RR w0 (w.setCell ⟨w0.heap.size, 2, none⟩ (.int .i64 k)) p L f { r with f := k } := by
  have hp := h.hp
  obtain ⟨A1, A2, A3, c1, c2, c3, k1, k2, k3, k4, k5⟩ := h.blk
  have hsz : w.heap.size ≤ (w.setCell ⟨w0.heap.size, 2, none⟩ (.int .i64 k)).heap.size := by simp [World.setCell]
  have hk : ∀ b, w0.heap.size + 1 ≤ b → b < w.heap.size → (w.setCell ⟨w0.heap.size, 2, none⟩ (.int .i64 k)).heap[b]? = w.heap[b]? := fun b h1 _ => Below.heap_setCell w _ _ b (by simp only; omega)
  have hb : Below w0.heap.size w (w.setCell ⟨w0.heap.size, 2, none⟩ (.int .i64 k)) := Below.set_up _ (by omega)
  exact ⟨h.rd.below hb, ⟨A1, A2, A3, c1, c2, c3, k1.set_ 2 _, k2.keep hsz hk, k3.keep hsz hk, k4.keep hsz hk, k5⟩, h.trn.low hb⟩

theorem RR.set_t {w0 w : World} {p : Nat} {L : List ByteArray} {f : Bool} {r : Rul} (h : RR w0 w p L f r) (k : Int) : RR w0 (w.setCell ⟨w0.heap.size, 3, none⟩ (.int .i64 k)) p L f { r with t := k } := by
  have hp := h.hp
  obtain ⟨A1, A2, A3, c1, c2, c3, k1, k2, k3, k4, k5⟩ := h.blk
  have hsz : w.heap.size ≤ (w.setCell ⟨w0.heap.size, 3, none⟩ (.int .i64 k)).heap.size := by simp [World.setCell]
  have hk : ∀ b, w0.heap.size + 1 ≤ b → b < w.heap.size → (w.setCell ⟨w0.heap.size, 3, none⟩ (.int .i64 k)).heap[b]? = w.heap[b]? := fun b h1 _ => Below.heap_setCell w _ _ b (by simp only; omega)
  have hb : Below w0.heap.size w (w.setCell ⟨w0.heap.size, 3, none⟩ (.int .i64 k)) := Below.set_up _ (by omega)
  exact ⟨h.rd.below hb, ⟨A1, A2, A3, c1, c2, c3, k1.set_ 3 _, k2.keep hsz hk, k3.keep hsz hk, k4.keep hsz hk, k5⟩, h.trn.low hb⟩

theorem RR.set_c {w0 w : World} {p : Nat} {L : List ByteArray} {f : Bool} {r : Rul} (h : RR w0 w p L f r) (k : Int) : RR w0 (w.setCell ⟨w0.heap.size, 4, none⟩ (.int .i64 k)) p L f { r with c := k } := by
  have hp := h.hp
  obtain ⟨A1, A2, A3, c1, c2, c3, k1, k2, k3, k4, k5⟩ := h.blk
  have hsz : w.heap.size ≤ (w.setCell ⟨w0.heap.size, 4, none⟩ (.int .i64 k)).heap.size := by simp [World.setCell]
  have hk : ∀ b, w0.heap.size + 1 ≤ b → b < w.heap.size → (w.setCell ⟨w0.heap.size, 4, none⟩ (.int .i64 k)).heap[b]? = w.heap[b]? := fun b h1 _ => Below.heap_setCell w _ _ b (by simp only; omega)
  have hb : Below w0.heap.size w (w.setCell ⟨w0.heap.size, 4, none⟩ (.int .i64 k)) := Below.set_up _ (by omega)
  exact ⟨h.rd.below hb, ⟨A1, A2, A3, c1, c2, c3, k1.set_ 4 _, k2.keep hsz hk, k3.keep hsz hk, k4.keep hsz hk, k5⟩, h.trn.low hb⟩

theorem RR.set_n {w0 w : World} {p : Nat} {L : List ByteArray} {f : Bool} {r : Rul} (h : RR w0 w p L f r) (k : Int) : RR w0 (w.setCell ⟨w0.heap.size, 7, none⟩ (.int .i64 k)) p L f { r with n := k } := by
  have hp := h.hp
  obtain ⟨A1, A2, A3, c1, c2, c3, k1, k2, k3, k4, k5⟩ := h.blk
  have hsz : w.heap.size ≤ (w.setCell ⟨w0.heap.size, 7, none⟩ (.int .i64 k)).heap.size := by simp [World.setCell]
  have hk : ∀ b, w0.heap.size + 1 ≤ b → b < w.heap.size → (w.setCell ⟨w0.heap.size, 7, none⟩ (.int .i64 k)).heap[b]? = w.heap[b]? := fun b h1 _ => Below.heap_setCell w _ _ b (by simp only; omega)
  have hb : Below w0.heap.size w (w.setCell ⟨w0.heap.size, 7, none⟩ (.int .i64 k)) := Below.set_up _ (by omega)
  exact ⟨h.rd.below hb, ⟨A1, A2, A3, c1, c2, c3, k1.set_ 7 _, k2.keep hsz hk, k3.keep hsz hk, k4.keep hsz hk, k5⟩, h.trn.low hb⟩

/-- A loop that appends to a row of the rule; W: the world ahead of it. -/
structure RLwd (w0 W w : World) (p : Nat) (R : List ByteArray) (f : Bool) (r : Rul) (done : List Int) (A : Option Addr) (c : Nat) : Prop where
  rd : Rd 69 w p w0.heap.size R f
  blk : ∃ A2 A3 c2 c3, Blk w w0.heap.size 32 #[.int .i64 r.u, .int .i64 r.e, .int .i64 r.f, .int .i64 r.t, .int .i64 r.c, .slice A done.length c, .slice A2 r.da.length c2, .int .i64 r.n, .slice A3 r.sk.length c3] ∧ IR W (w0.heap.size + 1) A2 r.da ∧ IR W (w0.heap.size + 1) A3 r.sk ∧ (r.da = [] → A2 = none ∧ c2 = 0) ∧ (r.sk = [] → A3 = none ∧ c3 = 0)
  own : OwnK 1 3 w W.heap.size (.slice A (done).length c) (done).length ((done).map (Value.int .i64))
  two : Two p w0.heap.size W w
  low : w0.heap.size < W.heap.size
  trn : Trn p w0 W
  nil : done = [] → A = none ∧ c = 0
theorem RLwd.start {w0 w : World} {p : Nat} {L : List ByteArray} {f : Bool} {r : Rul} (h : RR w0 w p L f r) (hr : r.wd = []) : RLwd w0 w w p L f r [] none 0 := by
  obtain ⟨A1, A2, A3, c1, c2, c3, k1, k2, k3, k4, k5, k6, k7⟩ := h.blk
  have hc := k5
  obtain ⟨rfl, rfl⟩ := hc hr
  have hl := k1.lt
  rw [hr] at k1
  exact ⟨h.rd, ⟨A2, A3, c2, c3, k1, k3, k4, k6, k7⟩, OwnK.empty, Two.refl _ _ _, hl, h.trn, fun _ => ⟨rfl, rfl⟩⟩
theorem RLwd.hp {w0 W w : World} {p : Nat} {R : List ByteArray} {f : Bool} {r : Rul} {done : List Int} {A : Option Addr} {c : Nat} (h : RLwd w0 W w p R f r done A c) : p < w0.heap.size := h.rd.lt
theorem RLwd.fin {w0 W w : World} {p : Nat} {R : List ByteArray} {f : Bool} {r : Rul} {done : List Int} {A : Option Addr} {c : Nat} (h : RLwd w0 W w p R f r done A c) (hd : done.length ≤ 4294967296) : RR w0 w p R f { r with wd := done } := by
  have hp := h.hp
  obtain ⟨A2, A3, c2, c3, k1, k2, k3, k4, k5⟩ := h.blk
  have hlow := h.low
  have hk : ∀ b, w0.heap.size + 1 ≤ b → b < W.heap.size → w.heap[b]? = W.heap[b]? := fun b h1 h2 => h.two.same b h2 (by omega) (by omega)
  have hi : IR w (w0.heap.size + 1) A done := by
    refine ⟨hd, fun hl => ?_⟩
    obtain ⟨_, _, h3⟩ := ownK_ints h.own
    obtain ⟨b, off, hA, h4, h5⟩ := h3 hl
    have := ownK_addr h.own _ hA
    exact ⟨b, off, hA, by simp only at this; omega, h4, h5⟩
  refine ⟨h.rd, ⟨A, A2, A3, c, c2, c3, k1, hi, k2.keep h.two.size hk, k3.keep h.two.size hk, h.nil, k4, k5⟩, ?_⟩
  exact ⟨h.two.os.trans h.trn.os, h.two.tape.trans h.trn.tape, h.two.output.trans h.trn.output, Nat.le_trans h.trn.size h.two.size, fun b hb hn => (h.two.same b (Nat.lt_of_lt_of_le hb h.trn.size) hn (by omega)).trans (h.trn.same b hb hn)⟩
theorem RLwd.call {w0 W w : World} {p : Nat} {R : List ByteArray} {f : Bool} {r : Rul} {done : List Int} {A : Option Addr} {c : Nat} {w' : World} {R' : List ByteArray} {f' : Bool} (h : RLwd w0 W w p R f r done A c) (hr : Rd 69 w' p w0.heap.size R' f') (ht : Trn p w w') : RLwd w0 W w' p R' f' r done A c := by
  have hp := h.hp
  have hlow := h.low
  obtain ⟨A2, A3, c2, c3, k1, k2, k3, k4, k5⟩ := h.blk
  exact ⟨hr, ⟨A2, A3, c2, c3, ht.blk k1 (by omega), k2, k3, k4, k5⟩, h.own.kept fun k hk => ht.same k (h.own.lt k hk).2 (by have := (h.own.lt k hk).1; omega), h.two.trn ht, h.low, h.trn, h.nil⟩
theorem RLwd.app {w0 W w : World} {p : Nat} {R : List ByteArray} {f : Bool} {r : Rul} {done : List Int} {A : Option Addr} {c : Nat} {w1 : World} {k : Int} {A' : Option Addr} {c' : Nat} (h : RLwd w0 W w p R f r done A c) (hb : Below W.heap.size w w1) (hown : OwnK 1 3 w1 W.heap.size (.slice A' (done.length + 1) c') (done.length + 1) (done.map (Value.int .i64) ++ [.int .i64 k])) :
    RLwd w0 W (w1.setCell ⟨w0.heap.size, 5, none⟩ (.slice A' (done.length + 1) c')) p R f r (done ++ [k]) A' c' := by
  have hp := h.hp
  have hlow := h.low
  obtain ⟨A2, A3, c2, c3, k1, k2, k3, k4, k5⟩ := h.blk
  have hl : (done ++ [k]).length = done.length + 1 := by simp
  have hm : (done ++ [k]).map (Value.int .i64) = done.map (Value.int .i64) ++ [.int .i64 k] := by simp
  refine ⟨(h.rd.below (hb.mono (by omega))).below (Below.set_up _ (Nat.le_refl _)), ⟨A2, A3, c2, c3, ?_, k2, k3, k4, k5⟩, ?_, (h.two.low hb).setg _, h.low, h.trn, fun e => absurd e (by simp)⟩
  · rw [hl]
    exact (k1.below hb hlow).set_ 5 _
  · rw [hl, hm]
    exact ownK_set hown (by simp only; omega) _
theorem RLwd.at_ {w0 W w : World} {p : Nat} {R : List ByteArray} {f : Bool} {r : Rul} {done : List Int} {A : Option Addr} {c : Nat} (h : RLwd w0 W w p R f r done A c) : w.cell? ⟨p, 1, none⟩ = some (.bool f) ∧ w.frozen? ⟨p, 1, none⟩ = false ∧ p < w.heap.size ∧ w0.heap.size < w.heap.size ∧ (∀ i, w.frozen? ⟨w0.heap.size, i, none⟩ = false) ∧ (∀ i, w.frozen? ⟨p, i, none⟩ = false) ∧ w.cell? ⟨w0.heap.size, 5, none⟩ = some (.slice A done.length c) ∧ W.heap.size ≤ w.heap.size := by
  obtain ⟨A2, A3, c2, c3, k1, k2, k3, k4, k5⟩ := h.blk
  obtain ⟨⟨b, o, c, j1, j2, j3, j4, j5, j6⟩, j7, j8, j9⟩ := h.rd
  exact ⟨j1.cell 1, j1.frozen 1, j1.lt, k1.lt, k1.frozen, j1.frozen, k1.cell 5, h.two.size⟩

/-- A loop that appends to a row of the rule; W: the world ahead of it. -/
structure RLda (w0 W w : World) (p : Nat) (R : List ByteArray) (f : Bool) (r : Rul) (done : List Int) (A : Option Addr) (c : Nat) : Prop where
  rd : Rd 69 w p w0.heap.size R f
  blk : ∃ A1 A3 c1 c3, Blk w w0.heap.size 32 #[.int .i64 r.u, .int .i64 r.e, .int .i64 r.f, .int .i64 r.t, .int .i64 r.c, .slice A1 r.wd.length c1, .slice A done.length c, .int .i64 r.n, .slice A3 r.sk.length c3] ∧ IR W (w0.heap.size + 1) A1 r.wd ∧ IR W (w0.heap.size + 1) A3 r.sk ∧ (r.wd = [] → A1 = none ∧ c1 = 0) ∧ (r.sk = [] → A3 = none ∧ c3 = 0)
  own : OwnK 1 3 w W.heap.size (.slice A (done).length c) (done).length ((done).map (Value.int .i64))
  two : Two p w0.heap.size W w
  low : w0.heap.size < W.heap.size
  trn : Trn p w0 W
  nil : done = [] → A = none ∧ c = 0
theorem RLda.start {w0 w : World} {p : Nat} {L : List ByteArray} {f : Bool} {r : Rul} (h : RR w0 w p L f r) (hr : r.da = []) : RLda w0 w w p L f r [] none 0 := by
  obtain ⟨A1, A2, A3, c1, c2, c3, k1, k2, k3, k4, k5, k6, k7⟩ := h.blk
  have hc := k6
  obtain ⟨rfl, rfl⟩ := hc hr
  have hl := k1.lt
  rw [hr] at k1
  exact ⟨h.rd, ⟨A1, A3, c1, c3, k1, k2, k4, k5, k7⟩, OwnK.empty, Two.refl _ _ _, hl, h.trn, fun _ => ⟨rfl, rfl⟩⟩
theorem RLda.hp {w0 W w : World} {p : Nat} {R : List ByteArray} {f : Bool} {r : Rul} {done : List Int} {A : Option Addr} {c : Nat} (h : RLda w0 W w p R f r done A c) : p < w0.heap.size := h.rd.lt
theorem RLda.fin {w0 W w : World} {p : Nat} {R : List ByteArray} {f : Bool} {r : Rul} {done : List Int} {A : Option Addr} {c : Nat} (h : RLda w0 W w p R f r done A c) (hd : done.length ≤ 4294967296) : RR w0 w p R f { r with da := done } := by
  have hp := h.hp
  obtain ⟨A1, A3, c1, c3, k1, k2, k3, k4, k5⟩ := h.blk
  have hlow := h.low
  have hk : ∀ b, w0.heap.size + 1 ≤ b → b < W.heap.size → w.heap[b]? = W.heap[b]? := fun b h1 h2 => h.two.same b h2 (by omega) (by omega)
  have hi : IR w (w0.heap.size + 1) A done := by
    refine ⟨hd, fun hl => ?_⟩
    obtain ⟨_, _, h3⟩ := ownK_ints h.own
    obtain ⟨b, off, hA, h4, h5⟩ := h3 hl
    have := ownK_addr h.own _ hA
    exact ⟨b, off, hA, by simp only at this; omega, h4, h5⟩
  refine ⟨h.rd, ⟨A1, A, A3, c1, c, c3, k1, k2.keep h.two.size hk, hi, k3.keep h.two.size hk, k4, h.nil, k5⟩, ?_⟩
  exact ⟨h.two.os.trans h.trn.os, h.two.tape.trans h.trn.tape, h.two.output.trans h.trn.output, Nat.le_trans h.trn.size h.two.size, fun b hb hn => (h.two.same b (Nat.lt_of_lt_of_le hb h.trn.size) hn (by omega)).trans (h.trn.same b hb hn)⟩
theorem RLda.call {w0 W w : World} {p : Nat} {R : List ByteArray} {f : Bool} {r : Rul} {done : List Int} {A : Option Addr} {c : Nat} {w' : World} {R' : List ByteArray} {f' : Bool} (h : RLda w0 W w p R f r done A c) (hr : Rd 69 w' p w0.heap.size R' f') (ht : Trn p w w') : RLda w0 W w' p R' f' r done A c := by
  have hp := h.hp
  have hlow := h.low
  obtain ⟨A1, A3, c1, c3, k1, k2, k3, k4, k5⟩ := h.blk
  exact ⟨hr, ⟨A1, A3, c1, c3, ht.blk k1 (by omega), k2, k3, k4, k5⟩, h.own.kept fun k hk => ht.same k (h.own.lt k hk).2 (by have := (h.own.lt k hk).1; omega), h.two.trn ht, h.low, h.trn, h.nil⟩
theorem RLda.app {w0 W w : World} {p : Nat} {R : List ByteArray} {f : Bool} {r : Rul} {done : List Int} {A : Option Addr} {c : Nat} {w1 : World} {k : Int} {A' : Option Addr} {c' : Nat} (h : RLda w0 W w p R f r done A c) (hb : Below W.heap.size w w1) (hown : OwnK 1 3 w1 W.heap.size (.slice A' (done.length + 1) c') (done.length + 1) (done.map (Value.int .i64) ++ [.int .i64 k])) :
    RLda w0 W (w1.setCell ⟨w0.heap.size, 6, none⟩ (.slice A' (done.length + 1) c')) p R f r (done ++ [k]) A' c' := by
  have hp := h.hp
  have hlow := h.low
  obtain ⟨A1, A3, c1, c3, k1, k2, k3, k4, k5⟩ := h.blk
  have hl : (done ++ [k]).length = done.length + 1 := by simp
  have hm : (done ++ [k]).map (Value.int .i64) = done.map (Value.int .i64) ++ [.int .i64 k] := by simp
  refine ⟨(h.rd.below (hb.mono (by omega))).below (Below.set_up _ (Nat.le_refl _)), ⟨A1, A3, c1, c3, ?_, k2, k3, k4, k5⟩, ?_, (h.two.low hb).setg _, h.low, h.trn, fun e => absurd e (by simp)⟩
  · rw [hl]
    exact (k1.below hb hlow).set_ 6 _
  · rw [hl, hm]
    exact ownK_set hown (by simp only; omega) _
theorem RLda.at_ {w0 W w : World} {p : Nat} {R : List ByteArray} {f : Bool} {r : Rul} {done : List Int} {A : Option Addr} {c : Nat} (h : RLda w0 W w p R f r done A c) : w.cell? ⟨p, 1, none⟩ = some (.bool f) ∧ w.frozen? ⟨p, 1, none⟩ = false ∧ p < w.heap.size ∧ w0.heap.size < w.heap.size ∧ (∀ i, w.frozen? ⟨w0.heap.size, i, none⟩ = false) ∧ (∀ i, w.frozen? ⟨p, i, none⟩ = false) ∧ w.cell? ⟨w0.heap.size, 6, none⟩ = some (.slice A done.length c) ∧ W.heap.size ≤ w.heap.size := by
  obtain ⟨A1, A3, c1, c3, k1, k2, k3, k4, k5⟩ := h.blk
  obtain ⟨⟨b, o, c, j1, j2, j3, j4, j5, j6⟩, j7, j8, j9⟩ := h.rd
  exact ⟨j1.cell 1, j1.frozen 1, j1.lt, k1.lt, k1.frozen, j1.frozen, k1.cell 6, h.two.size⟩

/-- A loop that appends to a row of the rule; W: the world ahead of it. -/
structure RLsk (w0 W w : World) (p : Nat) (R : List ByteArray) (f : Bool) (r : Rul) (done : List Int) (A : Option Addr) (c : Nat) : Prop where
  rd : Rd 69 w p w0.heap.size R f
  blk : ∃ A1 A2 c1 c2, Blk w w0.heap.size 32 #[.int .i64 r.u, .int .i64 r.e, .int .i64 r.f, .int .i64 r.t, .int .i64 r.c, .slice A1 r.wd.length c1, .slice A2 r.da.length c2, .int .i64 r.n, .slice A done.length c] ∧ IR W (w0.heap.size + 1) A1 r.wd ∧ IR W (w0.heap.size + 1) A2 r.da ∧ (r.wd = [] → A1 = none ∧ c1 = 0) ∧ (r.da = [] → A2 = none ∧ c2 = 0)
  own : OwnK 1 3 w W.heap.size (.slice A (done).length c) (done).length ((done).map (Value.int .i64))
  two : Two p w0.heap.size W w
  low : w0.heap.size < W.heap.size
  trn : Trn p w0 W
  nil : done = [] → A = none ∧ c = 0
theorem RLsk.start {w0 w : World} {p : Nat} {L : List ByteArray} {f : Bool} {r : Rul} (h : RR w0 w p L f r) (hr : r.sk = []) : RLsk w0 w w p L f r [] none 0 := by
  obtain ⟨A1, A2, A3, c1, c2, c3, k1, k2, k3, k4, k5, k6, k7⟩ := h.blk
  have hc := k7
  obtain ⟨rfl, rfl⟩ := hc hr
  have hl := k1.lt
  rw [hr] at k1
  exact ⟨h.rd, ⟨A1, A2, c1, c2, k1, k2, k3, k5, k6⟩, OwnK.empty, Two.refl _ _ _, hl, h.trn, fun _ => ⟨rfl, rfl⟩⟩
theorem RLsk.hp {w0 W w : World} {p : Nat} {R : List ByteArray} {f : Bool} {r : Rul} {done : List Int} {A : Option Addr} {c : Nat} (h : RLsk w0 W w p R f r done A c) : p < w0.heap.size := h.rd.lt
theorem RLsk.fin {w0 W w : World} {p : Nat} {R : List ByteArray} {f : Bool} {r : Rul} {done : List Int} {A : Option Addr} {c : Nat} (h : RLsk w0 W w p R f r done A c) (hd : done.length ≤ 4294967296) : RR w0 w p R f { r with sk := done } := by
  have hp := h.hp
  obtain ⟨A1, A2, c1, c2, k1, k2, k3, k4, k5⟩ := h.blk
  have hlow := h.low
  have hk : ∀ b, w0.heap.size + 1 ≤ b → b < W.heap.size → w.heap[b]? = W.heap[b]? := fun b h1 h2 => h.two.same b h2 (by omega) (by omega)
  have hi : IR w (w0.heap.size + 1) A done := by
    refine ⟨hd, fun hl => ?_⟩
    obtain ⟨_, _, h3⟩ := ownK_ints h.own
    obtain ⟨b, off, hA, h4, h5⟩ := h3 hl
    have := ownK_addr h.own _ hA
    exact ⟨b, off, hA, by simp only at this; omega, h4, h5⟩
  refine ⟨h.rd, ⟨A1, A2, A, c1, c2, c, k1, k2.keep h.two.size hk, k3.keep h.two.size hk, hi, k4, k5, h.nil⟩, ?_⟩
  exact ⟨h.two.os.trans h.trn.os, h.two.tape.trans h.trn.tape, h.two.output.trans h.trn.output, Nat.le_trans h.trn.size h.two.size, fun b hb hn => (h.two.same b (Nat.lt_of_lt_of_le hb h.trn.size) hn (by omega)).trans (h.trn.same b hb hn)⟩
theorem RLsk.call {w0 W w : World} {p : Nat} {R : List ByteArray} {f : Bool} {r : Rul} {done : List Int} {A : Option Addr} {c : Nat} {w' : World} {R' : List ByteArray} {f' : Bool} (h : RLsk w0 W w p R f r done A c) (hr : Rd 69 w' p w0.heap.size R' f') (ht : Trn p w w') : RLsk w0 W w' p R' f' r done A c := by
  have hp := h.hp
  have hlow := h.low
  obtain ⟨A1, A2, c1, c2, k1, k2, k3, k4, k5⟩ := h.blk
  exact ⟨hr, ⟨A1, A2, c1, c2, ht.blk k1 (by omega), k2, k3, k4, k5⟩, h.own.kept fun k hk => ht.same k (h.own.lt k hk).2 (by have := (h.own.lt k hk).1; omega), h.two.trn ht, h.low, h.trn, h.nil⟩
theorem RLsk.app {w0 W w : World} {p : Nat} {R : List ByteArray} {f : Bool} {r : Rul} {done : List Int} {A : Option Addr} {c : Nat} {w1 : World} {k : Int} {A' : Option Addr} {c' : Nat} (h : RLsk w0 W w p R f r done A c) (hb : Below W.heap.size w w1) (hown : OwnK 1 3 w1 W.heap.size (.slice A' (done.length + 1) c') (done.length + 1) (done.map (Value.int .i64) ++ [.int .i64 k])) :
    RLsk w0 W (w1.setCell ⟨w0.heap.size, 8, none⟩ (.slice A' (done.length + 1) c')) p R f r (done ++ [k]) A' c' := by
  have hp := h.hp
  have hlow := h.low
  obtain ⟨A1, A2, c1, c2, k1, k2, k3, k4, k5⟩ := h.blk
  have hl : (done ++ [k]).length = done.length + 1 := by simp
  have hm : (done ++ [k]).map (Value.int .i64) = done.map (Value.int .i64) ++ [.int .i64 k] := by simp
  refine ⟨(h.rd.below (hb.mono (by omega))).below (Below.set_up _ (Nat.le_refl _)), ⟨A1, A2, c1, c2, ?_, k2, k3, k4, k5⟩, ?_, (h.two.low hb).setg _, h.low, h.trn, fun e => absurd e (by simp)⟩
  · rw [hl]
    exact (k1.below hb hlow).set_ 8 _
  · rw [hl, hm]
    exact ownK_set hown (by simp only; omega) _
theorem RLsk.at_ {w0 W w : World} {p : Nat} {R : List ByteArray} {f : Bool} {r : Rul} {done : List Int} {A : Option Addr} {c : Nat} (h : RLsk w0 W w p R f r done A c) : w.cell? ⟨p, 1, none⟩ = some (.bool f) ∧ w.frozen? ⟨p, 1, none⟩ = false ∧ p < w.heap.size ∧ w0.heap.size < w.heap.size ∧ (∀ i, w.frozen? ⟨w0.heap.size, i, none⟩ = false) ∧ (∀ i, w.frozen? ⟨p, i, none⟩ = false) ∧ w.cell? ⟨w0.heap.size, 8, none⟩ = some (.slice A done.length c) ∧ W.heap.size ≤ w.heap.size := by
  obtain ⟨A1, A2, c1, c2, k1, k2, k3, k4, k5⟩ := h.blk
  obtain ⟨⟨b, o, c, j1, j2, j3, j4, j5, j6⟩, j7, j8, j9⟩ := h.rd
  exact ⟨j1.cell 1, j1.frozen 1, j1.lt, k1.lt, k1.frozen, j1.frozen, k1.cell 8, h.two.size⟩

end Go.Proofs.YtjaoiehjhnmahaaGreatDoor
