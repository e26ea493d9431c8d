/-
  PLAIN: lists of properties; where they lie in memory; the first of many errors.
-/
import Derived.Test.YtdncmjlakmkfiaaGreatDoorPvg
import Derived.Test.YtdncmjlakmkfiaaGreatDoorOwnB
set_option linter.all false
namespace Go.Proofs.YtdncmjlakmkfiaaGreatDoor
open Go.RowKit Go.Lib

theorem plus_drewN {w : World} {os : Array Obj} {n k : Nat} : (plus w os n).drewN k = plus w os (n + k) := rfl

/-- The first number that is not 0. -/
def firstErr (f : Nat → Int) : Nat → Int
  | 0 => 0
  | n + 1 => if firstErr f n ≠ 0 then firstErr f n else f n

theorem firstErr_none {f : Nat → Int} : ∀ {n : Nat}, (∀ j, j < n → f j = 0) → firstErr f n = 0
  | 0, _ => rfl
  | n + 1, h => by
    have ih := firstErr_none (f := f) (n := n) (fun j hj => h j (by omega))
    rw [firstErr, if_neg (by rw [ih]; decide), h n (by omega)]

theorem firstErr_first {f : Nat → Int} {k : Nat} (h : ∀ j, j < k → f j = 0) (hk : f k ≠ 0) : ∀ {n : Nat}, k < n → firstErr f n = f k
  | 0, hn => by omega
  | n + 1, hn => by
    by_cases hkn : k < n
    · have ih := firstErr_first h hk hkn
      rw [firstErr, if_pos (by rw [ih]; exact hk), ih]
    · obtain rfl : k = n := by omega
      rw [firstErr, if_neg (by rw [firstErr_none h]; decide)]

/-- A property: a name and a value. -/
structure PR where
  n : ByteArray
  v : V

def PRAt (w : World) (p : PR) (b o : Nat) : Prop := w.cell? ⟨b, o, none⟩ = some (.string p.n) ∧ p.n.size ≤ maxLen ∧ VAt w p.v b (o + 1)

def PsAt (w : World) (A : Option Addr) (l : List PR) : Prop :=
  l.length ≤ maxLen ∧ (0 < l.length → ∃ b' o', A = some ⟨b', o', none⟩ ∧ b' < w.heap.size ∧ ∀ j (h : j < l.length), PRAt w l[j] b' (o' + j * 6))

theorem PRAt.below {w w' : World} {p : PR} {b o : Nat} (hb : Below w.heap.size w w') (hlt : b < w.heap.size) (h : PRAt w p b o) : PRAt w' p b o :=
  ⟨(hb.cell (p := ⟨b, o, none⟩) hlt).trans h.1, h.2.1, VAt.below hb _ _ _ hlt h.2.2⟩

theorem PRAt.cells {w : World} {p : PR} {b o : Nat} (h : PRAt w p b o) : w.cell? ⟨b, o, none⟩ = some (.string p.n) ∧ p.n.size ≤ maxLen ∧ w.cell? ⟨b, o + 1, none⟩ = some (.int .i64 p.v.k) ∧ w.cell? ⟨b, o + 2, none⟩ = some (.int .i64 p.v.i) ∧ w.cell? ⟨b, o + 3, none⟩ = some (.int .i64 p.v.t) ∧
    w.cell? ⟨b, o + 4, none⟩ = some (.string p.v.s) ∧ ∃ A c, w.cell? ⟨b, o + 5, none⟩ = some (.slice A p.v.l.length c) ∧ LAt w A p.v.l :=
  ⟨h.1, h.2.1, VAt_iff.1 h.2.2⟩

theorem PsAt.below {w w' : World} {A : Option Addr} {l : List PR} (h : PsAt w A l) (hb : Below w.heap.size w w') : PsAt w' A l :=
  ⟨h.1, fun hl => by
    obtain ⟨b', o', hA, hb', hj⟩ := h.2 hl
    exact ⟨b', o', hA, Nat.lt_of_lt_of_le hb' hb.size, fun j h => (hj j h).below hb hb'⟩⟩

/-- Is a name not behind the other one? -/
def nameLe (a b : ByteArray) : Bool := Op.bytesLess a.toList b.toList || a.toList == b.toList

def propErrAt (l : List PR) (i : Nat) : Int := match l[i]? with
  | none => 0
  | some p => if nameErr p.n ≠ 0 then 3 else if 0 < i ∧ (match l[i - 1]? with | none => false | some q => nameLe p.n q.n) = true then 5 else if p.v.k = 0 then 10 else p.v.err

def propsErr (l : List PR) : Int := if 20 < l.length then 4 else firstErr (propErrAt l) l.length

theorem nameErr_cases (s : ByteArray) : (nameErr s = 3 ∧ isName s.data.toList = false) ∨ (nameErr s = 0 ∧ isName s.data.toList = true) := by
  unfold nameErr
  cases h : isName s.data.toList with
  | true => exact .inr ⟨if_pos rfl, rfl⟩
  | false => exact .inl ⟨if_neg Bool.false_ne_true, rfl⟩

theorem propErr_zero0 {l : List PR} (h : 0 < l.length) : (nameErr l[0].n = 3 ∧ propErrAt l 0 = 3) ∨ (nameErr l[0].n = 0 ∧ ((l[0].v.k = 0 ∧ propErrAt l 0 = 10) ∨ (l[0].v.k ≠ 0 ∧ propErrAt l 0 = l[0].v.err))) := by
  unfold propErrAt
  rw [List.getElem?_eq_getElem h]
  simp only [Nat.lt_irrefl, false_and, if_false]
  rcases nameErr_cases l[0].n with ⟨e, -⟩ | ⟨e, -⟩
  · exact .inl ⟨e, if_pos (by omega)⟩
  · refine .inr ⟨e, ?_⟩
    rw [if_neg (by omega)]
    by_cases hk : l[0].v.k = 0
    · exact .inl ⟨hk, if_pos hk⟩
    · exact .inr ⟨hk, if_neg hk⟩

/-- The error of the first property. -/
theorem propErr_zero {l : List PR} {q : Nat} (h : q < l.length) (h0 : q = 0) : (nameErr l[q].n = 3 ∧ propErrAt l q = 3) ∨ (nameErr l[q].n = 0 ∧ ((l[q].v.k = 0 ∧ propErrAt l q = 10) ∨ (l[q].v.k ≠ 0 ∧ propErrAt l q = l[q].v.err))) := by
  subst h0
  exact propErr_zero0 h

/-- The error of a property behind another one. -/
theorem propErr_more {l : List PR} {i : Nat} (h : i + 1 < l.length) : (nameErr l[i + 1].n = 3 ∧ propErrAt l (i + 1) = 3) ∨ (nameErr l[i + 1].n = 0 ∧ ((nameLe l[i + 1].n l[i].n = true ∧ propErrAt l (i + 1) = 5) ∨
    (nameLe l[i + 1].n l[i].n = false ∧ ((l[i + 1].v.k = 0 ∧ propErrAt l (i + 1) = 10) ∨ (l[i + 1].v.k ≠ 0 ∧ propErrAt l (i + 1) = l[i + 1].v.err))))) := by
  unfold propErrAt
  rw [List.getElem?_eq_getElem h]
  simp only [Nat.add_sub_cancel]
  rw [List.getElem?_eq_getElem (show i < l.length by omega)]
  simp only []
  rcases nameErr_cases l[i + 1].n with ⟨e, -⟩ | ⟨e, -⟩
  · exact .inl ⟨e, if_pos (by omega)⟩
  · refine .inr ⟨e, ?_⟩
    rw [if_neg (by omega)]
    by_cases hle : nameLe l[i + 1].n l[i].n = true
    · exact .inl ⟨hle, if_pos ⟨by omega, hle⟩⟩
    · refine .inr ⟨by simpa using hle, ?_⟩
      rw [if_neg (fun h => hle h.2)]
      by_cases hk : l[i + 1].v.k = 0
      · exact .inl ⟨hk, if_pos hk⟩
      · exact .inr ⟨hk, if_neg hk⟩

theorem propErr_none {l : List PR} (h : ∀ j, j < l.length → propErrAt l j = 0) (hl : l.length ≤ 20) : propsErr l = 0 := by
  unfold propsErr
  rw [if_neg (by omega), firstErr_none h]

theorem propErr_first {l : List PR} {k : Nat} (hl : l.length ≤ 20) (hk : k < l.length) (h : ∀ j, j < k → propErrAt l j = 0) (hne : propErrAt l k ≠ 0) : propsErr l = propErrAt l k := by
  unfold propsErr
  rw [if_neg (by omega), firstErr_first h hne hk]

theorem propErr_large {l : List PR} (h : 20 < l.length) : propsErr l = 4 := if_pos h

end Go.Proofs.YtdncmjlakmkfiaaGreatDoor
/-
  PLAIN AND WALK: a value's copy in new memory.
-/
namespace Go.Proofs.YtdncmjlakmkfiaaGreatDoor
open Go.RowKit Go.Lib

/-- The cells of a value lie at an address; all that it reaches lies in blocks of a kind. -/
def VIn (w : World) (P : Nat → Prop) : V → Nat → Nat → Prop
  | .mk k i t s l, b, o => w.cell? ⟨b, o, none⟩ = some (.int .i64 k) ∧ w.cell? ⟨b, o + 1, none⟩ = some (.int .i64 i) ∧ w.cell? ⟨b, o + 2, none⟩ = some (.int .i64 t) ∧ w.cell? ⟨b, o + 3, none⟩ = some (.string s) ∧
    ∃ A c, w.cell? ⟨b, o + 4, none⟩ = some (.slice A l.length c) ∧ l.length ≤ maxLen ∧ (0 < l.length → ∃ b' o', A = some ⟨b', o', none⟩ ∧ P b' ∧ ∀ j (h : j < l.length), VIn w P l[j] b' (o' + j * 5))
termination_by v => SizeOf.sizeOf v
decreasing_by
  have := List.sizeOf_lt_of_mem (List.getElem_mem h)
  simp only [V.mk.sizeOf_spec]
  omega

def LIn (w : World) (P : Nat → Prop) (A : Option Addr) (l : List V) : Prop :=
  l.length ≤ maxLen ∧ (0 < l.length → ∃ b' o', A = some ⟨b', o', none⟩ ∧ P b' ∧ ∀ j (h : j < l.length), VIn w P l[j] b' (o' + j * 5))

theorem VIn_iff {w : World} {P : Nat → Prop} {v : V} {b o : Nat} : VIn w P v b o ↔ w.cell? ⟨b, o, none⟩ = some (.int .i64 v.k) ∧ w.cell? ⟨b, o + 1, none⟩ = some (.int .i64 v.i) ∧ w.cell? ⟨b, o + 2, none⟩ = some (.int .i64 v.t) ∧ w.cell? ⟨b, o + 3, none⟩ = some (.string v.s) ∧
    ∃ A c, w.cell? ⟨b, o + 4, none⟩ = some (.slice A v.l.length c) ∧ LIn w P A v.l := by
  obtain ⟨k, i, t, s, l⟩ := v
  rw [VIn]
  exact Iff.rfl

theorem VIn.frame {w w' : World} {P : Nat → Prop} (hP : ∀ b, P b → w'.heap[b]? = w.heap[b]?) : ∀ (v : V) (b o : Nat), w'.heap[b]? = w.heap[b]? → VIn w P v b o → VIn w' P v b o
  | .mk k i t s l, b, o, hb, h => by
    have hk : ∀ i, w'.cell? ⟨b, i, none⟩ = w.cell? ⟨b, i, none⟩ := fun i => World.cell?_of_block (w := w) hb
    rw [VIn] at h ⊢
    obtain ⟨h0, h1, h2, h3, A, c, h4, h5, h6⟩ := h
    refine ⟨(hk _).trans h0, (hk _).trans h1, (hk _).trans h2, (hk _).trans h3, A, c, (hk _).trans h4, h5, fun hl => ?_⟩
    obtain ⟨b', o', hA, hb', hj⟩ := h6 hl
    exact ⟨b', o', hA, hb', fun j h => VIn.frame hP l[j] b' _ (hP b' hb') (hj j h)⟩
termination_by v => SizeOf.sizeOf v
decreasing_by
  have := List.sizeOf_lt_of_mem (List.getElem_mem h)
  simp only [V.mk.sizeOf_spec]
  omega

theorem VIn.mono {w : World} {P Q : Nat → Prop} (hPQ : ∀ b, P b → Q b) : ∀ (v : V) (b o : Nat), VIn w P v b o → VIn w Q v b o
  | .mk k i t s l, b, o, h => by
    rw [VIn] at h ⊢
    obtain ⟨h0, h1, h2, h3, A, c, h4, h5, h6⟩ := h
    refine ⟨h0, h1, h2, h3, A, c, h4, h5, fun hl => ?_⟩
    obtain ⟨b', o', hA, hb', hj⟩ := h6 hl
    exact ⟨b', o', hA, hPQ b' hb', fun j h => VIn.mono hPQ l[j] b' _ (hj j h)⟩
termination_by v => SizeOf.sizeOf v
decreasing_by
  have := List.sizeOf_lt_of_mem (List.getElem_mem h)
  simp only [V.mk.sizeOf_spec]
  omega

theorem VIn.at_ {w : World} {P : Nat → Prop} (hP : ∀ b, P b → b < w.heap.size) : ∀ (v : V) (b o : Nat), VIn w P v b o → VAt w v b o
  | .mk k i t s l, b, o, h => by
    rw [VIn] at h
    rw [VAt]
    obtain ⟨h0, h1, h2, h3, A, c, h4, h5, h6⟩ := h
    refine ⟨h0, h1, h2, h3, A, c, h4, h5, fun hl => ?_⟩
    obtain ⟨b', o', hA, hb', hj⟩ := h6 hl
    exact ⟨b', o', hA, hP b' hb', fun j h => VIn.at_ hP l[j] b' _ (hj j h)⟩
termination_by v => SizeOf.sizeOf v
decreasing_by
  have := List.sizeOf_lt_of_mem (List.getElem_mem h)
  simp only [V.mk.sizeOf_spec]
  omega

theorem LIn.frame {w w' : World} {P : Nat → Prop} {A : Option Addr} {l : List V} (h : LIn w P A l) (hP : ∀ b, P b → w'.heap[b]? = w.heap[b]?) : LIn w' P A l :=
  ⟨h.1, fun hl => by
    obtain ⟨b', o', hA, hb', hj⟩ := h.2 hl
    exact ⟨b', o', hA, hb', fun j h => VIn.frame hP l[j] b' _ (hP b' hb') (hj j h)⟩⟩

theorem LIn.mono {w : World} {P Q : Nat → Prop} {A : Option Addr} {l : List V} (h : LIn w P A l) (hPQ : ∀ b, P b → Q b) : LIn w Q A l :=
  ⟨h.1, fun hl => by
    obtain ⟨b', o', hA, hb', hj⟩ := h.2 hl
    exact ⟨b', o', hA, hPQ b' hb', fun j h => VIn.mono hPQ l[j] b' _ (hj j h)⟩⟩

theorem LIn.at_ {w : World} {P : Nat → Prop} {A : Option Addr} {l : List V} (h : LIn w P A l) (hP : ∀ b, P b → b < w.heap.size) : LAt w A l :=
  ⟨h.1, fun hl => by
    obtain ⟨b', o', hA, hb', hj⟩ := h.2 hl
    exact ⟨b', o', hA, hP b' hb', fun j h => VIn.at_ hP l[j] b' _ (hj j h)⟩⟩

/-- A value with the place of its items. -/
structure CVal where
  x : V
  A : Option Addr
  c : Nat

def CVal.cells (q : CVal) : List Value := [.int .i64 q.x.k, .int .i64 q.x.i, .int .i64 q.x.t, .string q.x.s, .slice q.A q.x.l.length q.c]

def flatCV (qs : List CVal) : List Value := qs.flatMap CVal.cells

theorem flatCV_append (a b : List CVal) : flatCV (a ++ b) = flatCV a ++ flatCV b := List.flatMap_append

theorem flatCV_len : ∀ qs : List CVal, (flatCV qs).length = qs.length * 5
  | [] => rfl
  | q :: qs => by
    have ih := flatCV_len qs
    show (q.cells ++ flatCV qs).length = _
    rw [List.length_append, ih]
    simp only [CVal.cells, List.length_cons, List.length_nil]
    omega

theorem flatCV_get : ∀ (qs : List CVal) (j i : Nat) (h : j < qs.length), i < 5 → (flatCV qs)[j * 5 + i]? = qs[j].cells[i]?
  | q :: qs, 0, i, _, hi => by
    show (q.cells ++ flatCV qs)[0 * 5 + i]? = _
    rw [List.getElem?_append_left (by simp only [CVal.cells, List.length_cons, List.length_nil]; omega)]
    simp only [Nat.zero_mul, Nat.zero_add, List.getElem_cons_zero]
  | q :: qs, j + 1, i, h, hi => by
    have ih := flatCV_get qs j i (by simpa using h) hi
    show (q.cells ++ flatCV qs)[(j + 1) * 5 + i]? = _
    rw [List.getElem?_append_right (by simp only [CVal.cells, List.length_cons, List.length_nil]; omega)]
    rw [show (j + 1) * 5 + i - q.cells.length = j * 5 + i by simp only [CVal.cells, List.length_cons, List.length_nil]; omega]
    exact ih

/-- A row of values that the call owns, whose items lie elsewhere, is a list of values. -/
theorem OwnK.lin {w : World} {base n m c : Nat} {A : Option Addr} {qs : List CVal} {P : Nat → Prop} (h : OwnK 5 24 w base (.slice A m c) n (flatCV qs)) (hP : ∀ b, base ≤ b → b < w.heap.size → P b) (hq : ∀ q ∈ qs, LIn w P q.A q.x.l) :
    m = n ∧ qs.length = n ∧ m ≤ c ∧ c ≤ maxLen ∧ (A = none → c = 0) ∧ (∀ a, A = some a → ∃ g, a = ⟨g, 0, none⟩) ∧ LIn w P A (qs.map (·.x)) := by
  obtain ⟨hl, A', c', hv, h1, h2, h3⟩ := h
  injection hv with e1 e2 e3
  subst e1 e2 e3
  rw [flatCV_len] at hl
  have hn : qs.length = m := by omega
  refine ⟨rfl, hn, h1, h2, ?_, ?_, by rw [List.length_map]; omega, fun hp => ?_⟩
  · rintro rfl
    rcases h3 with ⟨_, _, h⟩ | ⟨g, _, h, _⟩
    · exact h
    · cases h
  · rintro a rfl
    rcases h3 with ⟨h, _⟩ | ⟨g, _, h, _⟩
    · cases h
    · exact ⟨g, Option.some.inj h⟩
  · rw [List.length_map] at hp
    rcases h3 with ⟨_, h0, _⟩ | ⟨g, cur, hA, hg, hb, h4, h5⟩
    · omega
    · have hlt := (Array.getElem?_eq_some_iff.1 hb).1
      refine ⟨g, 0, hA, hP g hg hlt, fun j hj => ?_⟩
      rw [List.length_map] at hj
      have hc : ∀ i, i < 5 → w.cell? ⟨g, 0 + j * 5 + i, none⟩ = qs[j].cells[i]? := fun i hi => by
        rw [← flatCV_get qs j i hj hi, Nat.zero_add, cell_of_row w g _ cur _ (0, 0) hb, ← h5, List.getElem?_take_of_lt (by omega)]; simp
      rw [List.getElem_map]
      exact VIn_iff.2 ⟨hc 0 (by omega), hc 1 (by omega), hc 2 (by omega), hc 3 (by omega), qs[j].A, qs[j].c, hc 4 (by omega), hq _ (List.getElem_mem hj)⟩

/-- Are all lists of a value as short as memory wants them? -/
def V.fits : V → Prop
  | .mk _ _ _ _ l => l.length * 64 ≤ 140737488351232 ∧ ∀ j (h : j < l.length), (l[j]).fits
termination_by v => SizeOf.sizeOf v
decreasing_by
  have := List.sizeOf_lt_of_mem (List.getElem_mem h)
  simp only [V.mk.sizeOf_spec]
  omega

theorem V.fits_iff {v : V} : v.fits ↔ v.l.length * 64 ≤ 140737488351232 ∧ ∀ j (h : j < v.l.length), (v.l[j]).fits := by
  obtain ⟨k, i, t, s, l⟩ := v
  rw [V.fits]
  exact Iff.rfl

theorem new5_at {w : World} {t : TypeId} {a b c d e : Value} {g : Nat} (hg : g = w.heap.size) : ∀ j u, ([a, b, c, d, e] : List Value)[j]? = some u → (w.alloc (.cells #[a, b, c, d, e] t)).cell? ((⟨g, 0, none⟩ : Addr).add j) = some u := by
  subst hg
  intro j u hj
  have hadd : (⟨w.heap.size, 0, none⟩ : Addr).add j = ⟨w.heap.size, j, none⟩ := by unfold Addr.add; split <;> simp_all
  rw [hadd, (Blk.new w t #[a, b, c, d, e]).cell j]
  simpa using hj
theorem OwnK.alloc {K : Nat} {e : TypeId} {w : World} {base : Nat} {v : Value} {n : Nat} {xs : List Value} (h : OwnK K e w base v n xs) (o : Obj) : OwnK K e (w.alloc o) base v n xs := h.kept fun k hk => Below.heap_alloc w o k (h.lt k hk).2
theorem OwnK.plus {K : Nat} {e : TypeId} {w : World} {base : Nat} {v : Value} {n : Nat} {xs : List Value} (h : OwnK K e w base v n xs) (os : Array Obj) (q : Nat) : OwnK K e (plus w os q) base v n xs := h.kept fun k hk => plus_heap (h.lt k hk).2
theorem OwnK.drew {K : Nat} {e : TypeId} {w : World} {base : Nat} {v : Value} {n : Nat} {xs : List Value} (h : OwnK K e w base v n xs) : OwnK K e w.drew base v n xs := h.kept fun _ _ => rfl
theorem OwnK.form {K : Nat} {e : TypeId} {w : World} {base : Nat} {v : Value} {n : Nat} {xs : List Value} (h : OwnK K e w base v n xs) : ∃ A c, v = .slice A n c ∧ n ≤ c := by
  obtain ⟨_, A, c, rfl, h1, _⟩ := h
  exact ⟨A, c, rfl, h1⟩

theorem info_val : (Tryz.prog.info? 24).map (fun i => (i.zero, i.size, i.bytes)) = some (some (.agg #[.int .i64 0, .int .i64 0, .int .i64 0, .string ByteArray.empty, .slice none 0 0]), 5, 64) := by kernel_rfl

set_option maxHeartbeats 800000 in
theorem clipV_any (A : Option Addr) (n c : Nat) (w : World) (hn : n ≤ c) (hc : c ≤ maxLen) (h0 : A = none → c = 0) (hf : ∀ a, A = some a → ∃ g, a = ⟨g, 0, none⟩) :
    Calls Tryz.prog 57 #[.slice A n c] w fun e w' => e = .returned (.slice A n n) ∧ w' = w := by
  unfold maxLen at hc
  cases A with
  | none =>
    obtain rfl := h0 rfl
    obtain rfl : n = 0 := by omega
    go_enter Tryz.func57, Tryz.ntmps57
    go_wp2
    go_ret
    exact ⟨rfl, rfl⟩
  | some a =>
    obtain ⟨g, rfl⟩ := hf a rfl
    clear h0 hf
    go_enter Tryz.func57, Tryz.ntmps57
    go_wp2
    go_ret
    exact ⟨rfl, rfl⟩

theorem plus_swap {B B' : World} {O : Array Obj} {n n' g : Nat} (hs : B.heap.size = B'.heap.size) (hg : B.heap.size ≤ g) : (plus B O n).heap[g]? = (plus B' O n').heap[g]? := by
  unfold plus
  simp only [Array.getElem?_append]
  rw [if_neg (by omega), if_neg (by omega), hs]

/-- What CopyValue hands back: an equal value, in new memory. -/
def CopyOut (v : V) (w : World) (e : Ending) (w' : World) : Prop :=
  ∃ A, e = .returned (v.arg A v.l.length) ∧ (A = none → v.l.length = 0) ∧ LIn w' (fun b => w.heap.size ≤ b ∧ b < w'.heap.size) A v.l ∧ Below w.heap.size w w'

def CopyUpTo (n : Nat) : Prop := ∀ (v : V), SizeOf.sizeOf v < n → v.fits → ∀ (A : Option Addr) (c : Nat) (w : World), LAt w A v.l → Calls Tryz.prog 16 #[v.arg A c] w (CopyOut v w)

/-- The copies so far, behind an append. -/
theorem lin_grown {W w1 : World} {base : Nat} {v v' : Value} {qs : List CVal} (hgr : W.grownBy w1 v.ownBlock) (hf : v'.ownBlock = v.ownBlock ∨ ∃ g, v'.ownBlock = some g ∧ W.heap.size ≤ g)
    (h : ∀ q ∈ qs, LIn W (fun b => base ≤ b ∧ b < W.heap.size ∧ v.ownBlock ≠ some b) q.A q.x.l) : ∀ q ∈ qs, LIn w1 (fun b => base ≤ b ∧ b < w1.heap.size ∧ v'.ownBlock ≠ some b) q.A q.x.l := by
  intro q hq
  refine ((h q hq).frame (w' := w1) (fun b hb => hgr.block b hb.2.1 (fun e => hb.2.2 e.symm))).mono (fun b hb => ⟨hb.1, Nat.lt_of_lt_of_le hb.2.1 hgr.size, fun e => ?_⟩)
  rcases hf with hf | ⟨g, hf, hg⟩
  · exact hb.2.2 (hf.symm.trans e)
  · rw [hf] at e
    obtain rfl := Option.some.inj e
    have := hb.2.1
    omega

theorem lin_below {W w1 : World} {base : Nat} {v : Value} {qs : List CVal} (hb : Below W.heap.size W w1)
    (h : ∀ q ∈ qs, LIn W (fun b => base ≤ b ∧ b < W.heap.size ∧ v.ownBlock ≠ some b) q.A q.x.l) : ∀ q ∈ qs, LIn w1 (fun b => base ≤ b ∧ b < w1.heap.size ∧ v.ownBlock ≠ some b) q.A q.x.l := fun q hq =>
  ((h q hq).frame (w' := w1) (fun b hb2 => hb.block b hb2.2.1)).mono (fun b hb2 => ⟨hb2.1, Nat.lt_of_lt_of_le hb2.2.1 hb.size, hb2.2.2⟩)

set_option maxHeartbeats 12800000 in
set_option maxRecDepth 100000 in
theorem copyValue_step (N : Nat) (hN : CopyUpTo N) : CopyUpTo (N + 1) := by
  intro v hv hfit A c w hA
  obtain ⟨k, i, t, s, l⟩ := v
  obtain ⟨hf64, hfj⟩ := V.fits_iff.1 hfit
  have hA : LAt w A l := hA
  have hf64 : l.length * 64 ≤ 140737488351232 := hf64
  have hm := hA.1
  have HC := hide (fun (k' : Nat) (hk : k' < l.length) (A2 : Option Addr) (c2 : Nat) (W : World) (h : LAt W A2 l[k'].l) => hN l[k'] (by
    have h1 := List.sizeOf_lt_of_mem (List.getElem_mem hk)
    simp only [V.mk.sizeOf_spec] at hv
    omega) (hfj k' hk) A2 c2 W h)
  have HA := hide hA
  obtain ⟨iP, hiP, hzP0, hzP1, hzP2⟩ := info_parts info_val
  have HIP := hide (And.intro hiP (And.intro hzP0 (And.intro hzP1 hzP2)))
  clear hiP hzP0 hzP1 hzP2 hA hN hfit hv hfj
  unfold maxLen at hm
  have HG := hide (show ∀ (e : Ending) (w' : World), (∃ A', e = .returned (.agg #[.int .i64 k, .int .i64 i, .int .i64 t, .string s, .slice A' l.length l.length]) ∧ (A' = none → l.length = 0) ∧ LIn w' (fun b => w.heap.size ≤ b ∧ b < w'.heap.size) A' l ∧ Below w.heap.size w w') → CopyOut (.mk k i t s l) w e w' from fun e w' h => h)
  generalize CopyOut (.mk k i t s l) w = G at *
  simp only [V.arg, V.k, V.i, V.t, V.s, V.l] at HA ⊢
  go_enter Tryz.func16, Tryz.ntmps16
  go_wp2
  go_loopw [3, 9] (fun v i' wr => ∃ (q : Nat) (A' : Option Addr) (c' : Nat) (os : Array Obj) (n : Nat) (qs : List CVal), q ≤ l.length ∧ i' = .int .i64 q ∧ v = .slice A' q c' ∧ Hid (qs.map (·.x) = l.take q) ∧
    Hid (OwnK 5 24 wr (w.heap.size + 1 + 1) (.slice A' q c') q (flatCV qs)) ∧ Hid (∀ p ∈ qs, LIn wr (fun b => w.heap.size + 1 + 1 ≤ b ∧ b < wr.heap.size ∧ (Value.slice A' q c').ownBlock ≠ some b) p.A p.x.l) ∧
    wr = plus ((w.alloc (.cells #[.int .i64 k, .int .i64 i, .int .i64 t, .string s, .slice A l.length c] 24)).alloc (.cells #[.int .i64 0, .int .i64 0, .int .i64 0, .string ⟨#[]⟩, .slice none 0 0] 24)) os n) (fun _ i _ => l.length - (intOf i).toNat)
  case atStart => exact ⟨0, none, 0, #[], _, [], Nat.zero_le _, rfl, rfl, hide rfl, hide OwnK.empty, hide (fun p hp => by cases hp), plus_nil.symm⟩
  case round =>
    obtain ⟨q, A', c', os, n, qs, hq, rfl, rfl, HQ, HS, HLI, rfl⟩ := hrel
    by_cases hlt : q < l.length
    · obtain ⟨b, o, rfl, hb, hvv⟩ := HA.out.2 (by omega)
      obtain ⟨c0, c1, c2, c3, A2, e2, c4, hL2⟩ := VAt_iff.1 (hvv q hlt)
      have HCC := hide (fun W (hbw : Below w.heap.size w W) => HC.out q hlt A2 e2 W (hL2.below hbw))
      have HTK := hide (show l.take (q + 1) = l.take q ++ [l[q]] from List.take_succ_eq_append_getElem hlt)
      have HLT := hide hlt
      have HBIG := hide (show (q + 1) * iP.bytes ≤ 140737488355328 ∧ q + 1 ≤ 140737488355328 by rw [HIP.out.2.2.2]; omega)
      clear hvv hL2
      generalize l[q] = x at *
      unfold CopyOut at HCC
      obtain ⟨xk, xi, xt, xs, xl⟩ := x
      simp only [V.arg, V.k, V.i, V.t, V.s, V.l] at HCC c0 c1 c2 c3 c4
      go_wp2_with (first
        | (go_at_call 16; refine (HCC.out _ ?hbw).mono ?_; (case hbw => repeat (first | exact Below.refl _ _ | refine bl_plus ?_ | refine bl_alloc ?_ _ | refine bl_drew ?_ | refine bl_drewN ?_ _)); rintro e w' ⟨A3, rfl, hA3, hl3, hbl⟩; have HL3 := hide hl3; have HLI2 := hide (lin_below (Below.trans (bl_alloc (Below.refl _ _) _) (Below.mono hbl (le_alloc (Nat.le_refl _) _))) HLI.out); obtain ⟨os1, n1, rfl⟩ := below_plus hbl; clear hbl hl3 hA3)
        | (at_builtin; refine wpList_append_b rfl (.tmp 13) (.tmp 16) rfl rfl Tryz.underlying22 HIP.out.1 HIP.out.2.1 HIP.out.2.2.1 (by decide) rfl (by have := HIP.out.2.2.2; omega) (w.heap.size + 1 + 1) q (.slice A' q c') (flatCV qs) [.int .i64 xk, .int .i64 xi, .int .i64 xt, .string xs, .slice A3 xl.length xl.length] _ rfl (by repeat (first | with_reducible exact HS.out | with_reducible refine OwnK.alloc ?_ _ | with_reducible refine OwnK.plus ?_ _ _ | with_reducible refine OwnK.drew ?_)) rfl (by intro u hu; simp only [List.mem_cons, List.not_mem_nil, or_false] at hu; rcases hu with rfl | rfl | rfl | rfl | rfl <;> rfl) rfl (new5_at (by simp only [World.size_alloc, plus_size, World.drew])) HBIG.out (by simp only [World.size_alloc, plus_size, World.drew]; omega) ?_; intro v' w1 hown1 hgr1 hfr1; have HGR := hide hgr1; have HFR := hide hfr1; obtain ⟨A1, c1, rfl, _⟩ := hown1.form; have HN := hide hown1; clear hown1 hgr1 hfr1))
      obtain ⟨os9, n9, hw1⟩ := grown_plus (L := ((w.alloc (.cells #[.int .i64 k, .int .i64 i, .int .i64 t, .string s, .slice (some ⟨b, o, none⟩) l.length c] 24)).alloc (.cells #[.int .i64 0, .int .i64 0, .int .i64 0, .string ⟨#[]⟩, .slice none 0 0] 24))) (by repeat (first | exact Below.refl _ _ | refine bl_plus ?_ | refine bl_alloc ?_ _ | refine bl_drew ?_ | refine bl_drewN ?_ _)) HGR.out (fun g hg => by
        have := (HS.out.lt g hg).1
        simp only [World.size_alloc]
        exact this)
      have hgr := lin_grown (base := w.heap.size + 1 + 1) (qs := qs ++ [⟨.mk xk xi xt xs xl, A3, xl.length⟩]) HGR.out HFR.out (by
        intro p hp
        rcases List.mem_append.1 hp with hp | hp
        · exact lin_below (bl_alloc (Below.refl _ _) _) HLI2.out p hp
        · simp only [List.mem_singleton] at hp
          subst hp
          refine (HL3.out.frame (fun b hb => Below.heap_alloc _ _ b hb.2)).mono (fun b hb => ⟨?_, ?_, fun e => ?_⟩)
          · have := hb.1
            simp only [World.size_alloc, plus_size] at this
            omega
          · have := hb.2
            rw [World.size_alloc]
            omega
          · have h1 := (HS.out.lt b e).2
            have h2 := hb.1
            rw [World.size_alloc] at h2
            omega)
      go_roundw
      case rel => exact ⟨q + 1, A1, c1, os9, n9, qs ++ [⟨.mk xk xi xt xs xl, A3, xl.length⟩], hlt, by go_num, rfl, hide (by rw [List.map_append, HQ.out, HTK.out]; rfl), hide (by rw [flatCV_append]; exact HN.out), hide hgr, hw1⟩
      case measure => simp [intOf]; omega
    · have hkl : q = l.length := by omega
      subst hkl
      obtain ⟨-, hql, hmc, hcm, hnil, hoff, hlin⟩ := HS.out.lin (P := fun b => w.heap.size + 1 + 1 ≤ b ∧ b < (plus ((w.alloc (.cells #[.int .i64 k, .int .i64 i, .int .i64 t, .string s, .slice A l.length c] 24)).alloc (.cells #[.int .i64 0, .int .i64 0, .int .i64 0, .string ⟨#[]⟩, .slice none 0 0] 24)) os n).heap.size) (fun b h1 h2 => ⟨h1, h2⟩) (fun p hp => (HLI.out p hp).mono (fun b hb => ⟨hb.1, hb.2.1⟩))
      rw [HQ.out, List.take_length] at hlin
      have HLIN := hide hlin
      have HNIL := hide (fun (e : A' = none) => (by have := hnil e; omega : l.length = 0))
      have HCL := hide (fun W => clipV_any A' l.length c' W hmc hcm hnil hoff)
      clear hql hmc hcm hnil hoff hlin HS HLI HQ HC HA
      go_wp2_with (go_at_call 57; refine (HCL.out _).mono ?_; rintro e w' ⟨rfl, rfl⟩)
      (try simp only [Exit.inBlock, Exit.then])
      refine bodyPost_ret (v := .agg #[.int .i64 k, .int .i64 i, .int .i64 t, .string s, .slice A' l.length l.length]) (by simp [results, Tryz.results16, go_sem]) rfl ?_
      refine HG.out _ _ ⟨A', rfl, HNIL.out, ?_, (by repeat (first | exact Below.refl _ _ | refine bl_plus ?_ | refine bl_alloc ?_ _ | refine bl_drew ?_ | refine bl_drewN ?_ _))⟩
      refine (HLIN.out.frame (fun b hb => plus_swap (by simp only [World.size_alloc]) (by have := hb.1; simp only [World.size_alloc]; omega))).mono (fun b hb => ⟨by omega, ?_⟩)
      have h2 := hb.2
      simp only [plus_size, World.size_alloc] at h2 ⊢
      exact h2

theorem copyValue_upTo : ∀ N, CopyUpTo N
  | 0 => fun v hv => absurd hv (by omega)
  | N + 1 => copyValue_step N (copyValue_upTo N)

theorem copyValue_any (v : V) (hf : v.fits) (A : Option Addr) (c : Nat) (w : World) (hA : LAt w A v.l) : Calls Tryz.prog 16 #[v.arg A c] w (CopyOut v w) :=
  copyValue_upTo (SizeOf.sizeOf v + 1) v (by omega) hf A c w hA

end Go.Proofs.YtdncmjlakmkfiaaGreatDoor
