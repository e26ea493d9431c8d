/-
  WORDS FOR MEMORY: a reader of values: its string, where it is, and its two flags; what a reading hands out.
-/
import Derived.Test.YtdncmjlakmkfiaaGreatDoorTrn
import Derived.Test.YtdncmjlakmkfiaaGreatDoorVrt
import Derived.Test.YtdncmjlakmkfiaaGreatDoorCpv
set_option linter.all false
namespace Go.Proofs.YtdncmjlakmkfiaaGreatDoor
open Go.RowKit

/-- A reader of values at p. -/
structure VR (T : TypeId) (w : World) (p : Nat) (s : ByteArray) (k : Nat) (bad far : Bool) : Prop where
  blk : Blk w p T #[.string s, .int .i64 k, .bool bad, .bool far]
  le : k ≤ s.size
  sz : s.size ≤ 400000
section
variable {T : TypeId} {w w' : World} {p : Nat} {s : ByteArray} {k : Nat} {bad far : Bool}

theorem VR.below {B : Nat} (h : VR T w p s k bad far) (hb : Below B w w') (hp : p < B) : VR T w' p s k bad far := ⟨h.blk.below hb hp, h.le, h.sz⟩

theorem VR.below_ (h : VR T w p s k bad far) (hb : Below w.heap.size w w') : VR T w' p s k bad far := h.below hb h.blk.lt

theorem VR.at_ (h : VR T w p s k bad far) (k' : Nat) (hk : k' ≤ s.size) : VR T (w.setCell ⟨p, 1, none⟩ (.int .i64 k')) p s k' bad far := ⟨h.blk.set_ 1 _, hk, h.sz⟩

theorem VR.bad_ (h : VR T w p s k bad far) (b : Bool) : VR T (w.setCell ⟨p, 2, none⟩ (.bool b)) p s k b far := ⟨h.blk.set_ 2 _, h.le, h.sz⟩

theorem VR.far_ (h : VR T w p s k bad far) (b : Bool) : VR T (w.setCell ⟨p, 3, none⟩ (.bool b)) p s k bad b := ⟨h.blk.set_ 3 _, h.le, h.sz⟩

theorem VR.plus (h : VR T w p s k bad far) (os : Array Obj) (n : Nat) : VR T (plus w os n) p s k bad far := h.below_ (bl_plus (Below.refl _ _))

theorem VR.alloc (h : VR T w p s k bad far) (o : Obj) : VR T (w.alloc o) p s k bad far := h.below_ (bl_alloc (Below.refl _ _) _)

theorem VR.drew (h : VR T w p s k bad far) : VR T w.drew p s k bad far := ⟨h.blk.drew, h.le, h.sz⟩

theorem VR.drewN (h : VR T w p s k bad far) (n : Nat) : VR T (w.drewN n) p s k bad far := ⟨h.blk.drewN n, h.le, h.sz⟩

/-- Its cells. -/
theorem VR.cells (h : VR T w p s k bad far) : w.cell? ⟨p, 0, none⟩ = some (.string s) ∧ w.cell? ⟨p, 1, none⟩ = some (.int .i64 k) ∧ w.cell? ⟨p, 2, none⟩ = some (.bool bad) ∧ w.cell? ⟨p, 3, none⟩ = some (.bool far) ∧
    w.frozen? ⟨p, 1, none⟩ = false ∧ w.frozen? ⟨p, 2, none⟩ = false ∧ w.frozen? ⟨p, 3, none⟩ = false ∧ p < w.heap.size :=
  ⟨h.blk.cell 0, h.blk.cell 1, h.blk.cell 2, h.blk.cell 3, h.blk.frozen 1, h.blk.frozen 2, h.blk.frozen 3, h.blk.lt⟩
end

theorem size_list (s : ByteArray) : s.data.toList.length = s.size := (Lib.size_eq s).symm

/-- What is left to be read. -/
def rst (s : ByteArray) (k : Nat) : List UInt8 := s.data.toList.drop k

theorem rst_len (s : ByteArray) (k : Nat) : (rst s k).length = s.size - k := by unfold rst; rw [List.length_drop, size_list]

theorem rst_drop (s : ByteArray) (k j : Nat) : (rst s k).drop j = rst s (k + j) := by unfold rst; rw [List.drop_drop]

theorem rst_ext (s : ByteArray) (k : Nat) : (s.extract k s.size).data.toList = rst s k := by
  rw [Lib.extract_data]
  unfold rst
  exact List.take_of_length_le (by rw [List.length_drop, size_list]; exact Nat.le_refl _)

theorem rst_part (s : ByteArray) (k j : Nat) (_ : k + j ≤ s.size) : (s.extract k (k + j)).data.toList = (rst s k).take j := by
  rw [Lib.extract_data]
  unfold rst
  rw [show k + j - k = j by omega]

theorem rst_hp {s : ByteArray} {k : Nat} {q : List UInt8} (h : Lib.hasPrefix (rst s k) q = true) : k + q.length ≤ s.size ∨ q = [] := by
  obtain ⟨r, hr⟩ := hp_iff.1 h
  have := congrArg List.length hr
  rw [rst_len, List.length_append] at this
  rcases Nat.eq_zero_or_pos q.length with h0 | h0
  · exact .inr (List.length_eq_zero_iff.1 h0)
  · exact .inl (by omega)

theorem rst_nil {s : ByteArray} {k : Nat} (h : rst s k = []) (hk : k ≤ s.size) : k = s.size := by
  have := congrArg List.length h
  rw [rst_len] at this
  simp only [List.length_nil] at this
  omega

/-- A value without items, as an argument or a result. -/
def V.flat (v : V) : Value := .agg #[.int .i64 v.k, .int .i64 v.i, .int .i64 v.t, .string v.s, .slice none 0 0]

theorem V.flat_arg {v : V} (h : v.l = []) : v.flat = v.arg none 0 := by unfold V.flat V.arg; rw [h]; rfl

/-- What a reading comes to: bad, or the value and how it goes on. -/
def GotIs (O : Got) (s : ByteArray) (far : Bool) (x : V) (k' : Nat) (b' f' : Bool) : Prop := (O = none ∧ b' = true) ∨ ∃ r f2, O = some (x, r, f2) ∧ b' = false ∧ f' = (far || f2) ∧ rst s k' = r

/-- What the reading of a value without items hands out. -/
def LeafOut (T : TypeId) (p : Nat) (s : ByteArray) (k : Nat) (far : Bool) (O : Got) (w : World) (e : Ending) (w' : World) : Prop :=
  ∃ x : V, x.l = [] ∧ e = .returned x.flat ∧ Trn p w w' ∧ ∃ (k' : Nat) (b' f' : Bool), VR T w' p s k' b' f' ∧ k ≤ k' ∧ GotIs O s far x k' b' f'

/-- What the reading of any value hands out. -/
def ValOut (T : TypeId) (p : Nat) (s : ByteArray) (k : Nat) (far : Bool) (O : Got) (w : World) (e : Ending) (w' : World) : Prop :=
  ∃ (x : V) (A : Option Addr) (c : Nat), e = .returned (x.arg A c) ∧ LIn w' (fun b => w.heap.size ≤ b ∧ b < w'.heap.size) A x.l ∧ x.l.length ≤ 400000 ∧ (∀ y ∈ x.l, y.l = []) ∧ Trn p w w' ∧ ∃ (k' : Nat) (b' f' : Bool), VR T w' p s k' b' f' ∧ k ≤ k' ∧ GotIs O s far x k' b' f'

theorem LIn.nil {w : World} {P : Nat → Prop} {A : Option Addr} : LIn w P A [] := ⟨by simp [maxLen], fun h => absurd h (by simp)⟩

theorem LeafOut.val {T : TypeId} {p : Nat} {s : ByteArray} {k : Nat} {far : Bool} {O : Got} {w : World} {e : Ending} {w' : World} (h : LeafOut T p s k far O w e w') : ValOut T p s k far O w e w' := by
  obtain ⟨x, hx, he, h⟩ := h
  refine ⟨x, none, 0, ?_, ?_, ?_, ?_, h⟩
  · rw [he, V.flat_arg hx]
  · rw [hx]; exact LIn.nil
  · rw [hx]; simp
  · rw [hx]; intro y hy; cases hy

theorem Trn.low_ {p B : Nat} {a w w' : World} (h : Trn p a w) (hb : Below B w w') (hB : a.heap.size ≤ B) : Trn p a w' :=
  ⟨hb.os.trans h.os, hb.tape.trans h.tape, hb.output.trans h.output, Nat.le_trans h.size hb.size, fun b h1 h2 => (hb.block b (by omega)).trans (h.same b h1 h2)⟩

abbrev zVal : Array Value := #[.int .i64 0, .int .i64 0, .int .i64 0, .string ⟨#[]⟩, .slice none 0 0]

/-- The world of a function over a reader, that makes its value at g. -/
structure St (w : World) (g : Nat) (W : World) (p : Nat) (s : ByteArray) (k : Nat) (bad far : Bool) : Prop where
  vr : VR 118 W p s k bad far
  trn : Trn p w W
  blk : Blk W g 24 zVal
  ne : g ≠ p
  lo : w.heap.size ≤ g
section
variable {w W W' : World} {g p : Nat} {s : ByteArray} {k : Nat} {bad far : Bool}

theorem St.start (h : VR 118 w p s k bad far) : St w w.heap.size (w.alloc (.cells zVal 24)) p s k bad far :=
  ⟨h.alloc _, (Trn.refl p w).alloc _, Blk.new w _ _, (Nat.ne_of_lt h.blk.lt).symm, Nat.le_refl _⟩

theorem St.step {k' : Nat} {b' f' : Bool} (h : St w g W p s k bad far) (ht : Trn p W W') (hv : VR 118 W' p s k' b' f') : St w g W' p s k' b' f' :=
  ⟨hv, h.trn.trans ht, ht.blk h.blk h.ne, h.ne, h.lo⟩

theorem St.below (h : St w g W p s k bad far) (hb : Below W.heap.size W W') : St w g W' p s k bad far := h.step (Trn.of_below hb) (h.vr.below_ hb)

theorem St.plus (h : St w g W p s k bad far) (os : Array Obj) (n : Nat) : St w g (plus W os n) p s k bad far := h.below (bl_plus (Below.refl _ _))

theorem St.drewN (h : St w g W p s k bad far) (n : Nat) : St w g (W.drewN n) p s k bad far := h.below (bl_drewN (Below.refl _ _) _)

theorem St.drew (h : St w g W p s k bad far) : St w g W.drew p s k bad far := h.below (bl_drew (Below.refl _ _))

theorem St.alloc (h : St w g W p s k bad far) (o : Obj) : St w g (W.alloc o) p s k bad far := h.below (bl_alloc (Below.refl _ _) _)

theorem St.at_ (h : St w g W p s k bad far) (k' : Nat) (hk : k' ≤ s.size) : St w g (W.setCell ⟨p, 1, none⟩ (.int .i64 k')) p s k' bad far := h.step (Trn.set _ _) (h.vr.at_ k' hk)

theorem St.bad_ (h : St w g W p s k bad far) (b : Bool) : St w g (W.setCell ⟨p, 2, none⟩ (.bool b)) p s k b far := h.step (Trn.set _ _) (h.vr.bad_ b)

theorem St.far_ (h : St w g W p s k bad far) (b : Bool) : St w g (W.setCell ⟨p, 3, none⟩ (.bool b)) p s k bad b := h.step (Trn.set _ _) (h.vr.far_ b)

theorem St.cells (h : St w g W p s k bad far) : (W.cell? ⟨p, 0, none⟩ = some (.string s) ∧ W.cell? ⟨p, 1, none⟩ = some (.int .i64 k) ∧ W.cell? ⟨p, 2, none⟩ = some (.bool bad) ∧ W.cell? ⟨p, 3, none⟩ = some (.bool far) ∧
    W.frozen? ⟨p, 1, none⟩ = false ∧ W.frozen? ⟨p, 2, none⟩ = false ∧ W.frozen? ⟨p, 3, none⟩ = false ∧ p < W.heap.size) ∧
    (W.cell? ⟨g, 0, none⟩ = some (.int .i64 0) ∧ W.cell? ⟨g, 1, none⟩ = some (.int .i64 0) ∧ W.cell? ⟨g, 2, none⟩ = some (.int .i64 0) ∧ W.cell? ⟨g, 3, none⟩ = some (.string ⟨#[]⟩) ∧ W.cell? ⟨g, 4, none⟩ = some (.slice none 0 0) ∧
    W.frozen? ⟨g, 0, none⟩ = false ∧ W.frozen? ⟨g, 1, none⟩ = false ∧ W.frozen? ⟨g, 2, none⟩ = false ∧ W.frozen? ⟨g, 3, none⟩ = false ∧ W.frozen? ⟨g, 4, none⟩ = false ∧ g < W.heap.size) ∧ ¬ g = p ∧ ¬ p = g :=
  ⟨h.vr.cells, ⟨h.blk.cell 0, h.blk.cell 1, h.blk.cell 2, h.blk.cell 3, h.blk.cell 4, h.blk.frozen 0, h.blk.frozen 1, h.blk.frozen 2, h.blk.frozen 3, h.blk.frozen 4, h.blk.lt⟩, h.ne, fun e => h.ne e.symm⟩

theorem five_set {T : TypeId} {q0 q1 q2 q3 q4 v0 v1 v2 v3 v4 : Value} (h : Blk W g T #[q0, q1, q2, q3, q4]) : Blk (((((W.setCell ⟨g, 0, none⟩ v0).setCell ⟨g, 1, none⟩ v1).setCell ⟨g, 2, none⟩ v2).setCell ⟨g, 3, none⟩ v3).setCell ⟨g, 4, none⟩ v4) g T #[v0, v1, v2, v3, v4] := by
  have h1 : Blk (W.setCell ⟨g, 0, none⟩ v0) g T #[v0, q1, q2, q3, q4] := h.set_ 0 v0
  have h2 : Blk ((W.setCell ⟨g, 0, none⟩ v0).setCell ⟨g, 1, none⟩ v1) g T #[v0, v1, q2, q3, q4] := h1.set_ 1 v1
  have h3 : Blk (((W.setCell ⟨g, 0, none⟩ v0).setCell ⟨g, 1, none⟩ v1).setCell ⟨g, 2, none⟩ v2) g T #[v0, v1, v2, q3, q4] := h2.set_ 2 v2
  have h4 : Blk ((((W.setCell ⟨g, 0, none⟩ v0).setCell ⟨g, 1, none⟩ v1).setCell ⟨g, 2, none⟩ v2).setCell ⟨g, 3, none⟩ v3) g T #[v0, v1, v2, v3, q4] := h3.set_ 3 v3
  exact h4.set_ 4 v4

/-- The value is laid, and handed out. -/
theorem St.end (h : St w g W p s k bad far) (v0 v1 v2 v3 v4 : Value) : Blk (((((W.setCell ⟨g, 0, none⟩ v0).setCell ⟨g, 1, none⟩ v1).setCell ⟨g, 2, none⟩ v2).setCell ⟨g, 3, none⟩ v3).setCell ⟨g, 4, none⟩ v4) g 24 #[v0, v1, v2, v3, v4] ∧
    Below g W (((((W.setCell ⟨g, 0, none⟩ v0).setCell ⟨g, 1, none⟩ v1).setCell ⟨g, 2, none⟩ v2).setCell ⟨g, 3, none⟩ v3).setCell ⟨g, 4, none⟩ v4) ∧
    VR 118 (((((W.setCell ⟨g, 0, none⟩ v0).setCell ⟨g, 1, none⟩ v1).setCell ⟨g, 2, none⟩ v2).setCell ⟨g, 3, none⟩ v3).setCell ⟨g, 4, none⟩ v4) p s k bad far ∧
    Trn p w (((((W.setCell ⟨g, 0, none⟩ v0).setCell ⟨g, 1, none⟩ v1).setCell ⟨g, 2, none⟩ v2).setCell ⟨g, 3, none⟩ v3).setCell ⟨g, 4, none⟩ v4) := by
  have hb : Below g W (((((W.setCell ⟨g, 0, none⟩ v0).setCell ⟨g, 1, none⟩ v1).setCell ⟨g, 2, none⟩ v2).setCell ⟨g, 3, none⟩ v3).setCell ⟨g, 4, none⟩ v4) :=
    (((((Below.refl g W).setCell (p := ⟨g, 0, none⟩) (Nat.le_refl g) v0).setCell (p := ⟨g, 1, none⟩) (Nat.le_refl g) v1).setCell (p := ⟨g, 2, none⟩) (Nat.le_refl g) v2).setCell (p := ⟨g, 3, none⟩) (Nat.le_refl g) v3).setCell (p := ⟨g, 4, none⟩) (Nat.le_refl g) v4
  refine ⟨five_set h.blk, hb, ⟨?_, h.vr.le, h.vr.sz⟩, h.trn.low_ hb h.lo⟩
  have f : ∀ {W : World} {i : Nat} {v : Value} {cs : Array Value}, Blk W p 118 cs → Blk (W.setCell ⟨g, i, none⟩ v) p 118 cs := fun hh => hh.far (fun e => h.ne e.symm) _
  exact f (f (f (f (f h.vr.blk))))
end

end Go.Proofs.YtdncmjlakmkfiaaGreatDoor
