/-
  WORDS FOR MEMORY: a list of parts, a list of clauses.
-/
import Derived.Test.YtfklaahakibljaaQryP
namespace Go.Proofs.Ytfklaahakibljaa
open Go.RowKit Go.Shelf

structure PV where
  p : Pt
  A : Option Addr
  c : Nat
def PV.cells (x : PV) : List Value := [.int .i64 x.p.k, .slice x.A x.p.ws.length x.c]
def flatP (l : List PV) : List Value := l.flatMap PV.cells
theorem flatP_snoc (l : List PV) (x : PV) : flatP (l ++ [x]) = flatP l ++ x.cells := by simp [flatP]
theorem flatP_len (l : List PV) : (flatP l).length = l.length * 2 := by
  induction l with
  | nil => rfl
  | cons x l ih => simp only [flatP, List.flatMap_cons, List.length_append, PV.cells, List.length_cons, List.length_nil] at ih ⊢; omega
theorem flatP_get : ∀ (l : List PV) (j i : Nat) (h : j < l.length), i < 2 → (flatP l)[j * 2 + i]? = l[j].cells[i]?
  | [], j, i, h, _ => by simp at h
  | x :: l, 0, i, h, hi => by
    simp only [flatP, List.flatMap_cons, Nat.zero_mul, Nat.zero_add, List.getElem_cons_zero]
    rw [List.getElem?_append_left (by simp [PV.cells]; omega)]
  | x :: l, j + 1, i, h, hi => by
    have := flatP_get l j i (by simpa using h) hi
    simp only [flatP, List.flatMap_cons, List.getElem_cons_succ] at this ⊢
    rw [List.getElem?_append_right (by simp [PV.cells]; omega)]
    simp only [PV.cells, List.length_cons, List.length_nil] at this ⊢
    rw [show (j + 1) * 2 + i - (0 + 1 + 1) = j * 2 + i by omega]
    exact this
/-- What the parts hold lies there. -/
def WsIn (W : World) (l : List PV) : Prop := ∀ x ∈ l, StrsIn W x.A x.p.ws
theorem WsIn.nil {W : World} : WsIn W [] := fun _ h => absurd h (by simp)
theorem WsIn.keep {W W' : World} {l : List PV} (h : WsIn W l) (hk : KeepT 9 W W') : WsIn W' l := fun x hx => (h x hx).keep hk
theorem WsIn.snoc {W : World} {l : List PV} {x : PV} (h : WsIn W l) (hx : StrsIn W x.A x.p.ws) : WsIn W (l ++ [x]) := fun y hy => by
  rcases List.mem_append.1 hy with hy | hy
  · exact h y hy
  · simp only [List.mem_cons, List.not_mem_nil, or_false] at hy
    subst hy
    exact hx

/-- A slice of parts reads as a list. -/
def PsIn (W : World) (A : Option Addr) (ps : List Pt) : Prop :=
  ∃ l : List PV, l.map PV.p = ps ∧ WsIn W l ∧ (0 < l.length → ∃ b cur, A = some ⟨b, 0, none⟩ ∧ W.heap[b]? = some (.cells cur 102 (0, 0)) ∧ ∀ i, i < l.length * 2 → cur[i]? = (flatP l)[i]?)
theorem PsIn.keep {W W' : World} {A : Option Addr} {ps : List Pt} (h : PsIn W A ps) (hk : KeepT 9 W W') (hp : KeepT 102 W W') : PsIn W' A ps := by
  obtain ⟨l, h1, h2, h3⟩ := h
  refine ⟨l, h1, h2.keep hk, fun hl => ?_⟩
  obtain ⟨b, cur, hA, hb, hc⟩ := h3 hl
  exact ⟨b, cur, hA, hp b cur hb, hc⟩
theorem psIn_own {w : World} {base n m c : Nat} {A : Option Addr} {l : List PV} (h : OwnK 2 102 w base (.slice A m c) n (flatP l)) (hw : WsIn w l) : m = n ∧ l.length = n ∧ n ≤ c ∧ PsIn w A (l.map PV.p) := by
  obtain ⟨hl, A', c', hv, h1, h2, h3⟩ := h
  injection hv with e1 e2 e3
  subst e1 e2 e3
  rw [flatP_len] at hl
  have hn : l.length = m := by omega
  refine ⟨rfl, hn, h1, l, rfl, hw, fun hp => ?_⟩
  rcases h3 with ⟨_, h0, _⟩ | ⟨g, cur, hA, hg, hb, h4, h5⟩
  · omega
  · refine ⟨g, cur, hA, hb, fun i hi => ?_⟩
    rw [← h5, List.getElem?_take_of_lt (by omega)]
    simp

structure CV where
  c : Cl
  A : Option Addr
  cap : Nat
def CV.cells (x : CV) : List Value := [.bool x.c.neg, .slice x.A x.c.ps.length x.cap]
def flatC (l : List CV) : List Value := l.flatMap CV.cells
theorem flatC_snoc (l : List CV) (x : CV) : flatC (l ++ [x]) = flatC l ++ x.cells := by simp [flatC]
theorem flatC_len (l : List CV) : (flatC l).length = l.length * 2 := by
  induction l with
  | nil => rfl
  | cons x l ih => simp only [flatC, List.flatMap_cons, List.length_append, CV.cells, List.length_cons, List.length_nil] at ih ⊢; omega
theorem flatC_get : ∀ (l : List CV) (j i : Nat) (h : j < l.length), i < 2 → (flatC l)[j * 2 + i]? = l[j].cells[i]?
  | [], j, i, h, _ => by simp at h
  | x :: l, 0, i, h, hi => by
    simp only [flatC, List.flatMap_cons, Nat.zero_mul, Nat.zero_add, List.getElem_cons_zero]
    rw [List.getElem?_append_left (by simp [CV.cells]; omega)]
  | x :: l, j + 1, i, h, hi => by
    have := flatC_get l j i (by simpa using h) hi
    simp only [flatC, List.flatMap_cons, List.getElem_cons_succ] at this ⊢
    rw [List.getElem?_append_right (by simp [CV.cells]; omega)]
    simp only [CV.cells, List.length_cons, List.length_nil] at this ⊢
    rw [show (j + 1) * 2 + i - (0 + 1 + 1) = j * 2 + i by omega]
    exact this
def PsAll (W : World) (l : List CV) : Prop := ∀ x ∈ l, PsIn W x.A x.c.ps
theorem PsAll.nil {W : World} : PsAll W [] := fun _ h => absurd h (by simp)
theorem PsAll.keep {W W' : World} {l : List CV} (h : PsAll W l) (hk : KeepT 9 W W') (hp : KeepT 102 W W') : PsAll W' l := fun x hx => (h x hx).keep hk hp
theorem PsAll.snoc {W : World} {l : List CV} {x : CV} (h : PsAll W l) (hx : PsIn W x.A x.c.ps) : PsAll W (l ++ [x]) := fun y hy => by
  rcases List.mem_append.1 hy with hy | hy
  · exact h y hy
  · simp only [List.mem_cons, List.not_mem_nil, or_false] at hy
    subst hy
    exact hx
/-- A slice of clauses reads as a list. -/
def CsIn (W : World) (A : Option Addr) (cs : List Cl) : Prop :=
  ∃ l : List CV, l.map CV.c = cs ∧ PsAll W l ∧ (0 < l.length → ∃ b cur, A = some ⟨b, 0, none⟩ ∧ W.heap[b]? = some (.cells cur 97 (0, 0)) ∧ ∀ i, i < l.length * 2 → cur[i]? = (flatC l)[i]?)
theorem CsIn.nil {W : World} {A : Option Addr} : CsIn W A [] := ⟨[], rfl, PsAll.nil, fun h => absurd h (by simp)⟩
theorem CsIn.keep {W W' : World} {A : Option Addr} {cs : List Cl} (h : CsIn W A cs) (hk : KeepT 9 W W') (hp : KeepT 102 W W') (hc : KeepT 97 W W') : CsIn W' A cs := by
  obtain ⟨l, h1, h2, h3⟩ := h
  refine ⟨l, h1, h2.keep hk hp, fun hl => ?_⟩
  obtain ⟨b, cur, hA, hb, hc2⟩ := h3 hl
  exact ⟨b, cur, hA, hc b cur hb, hc2⟩
theorem keepT_below {t : TypeId} {W W' : World} (h : Below W.heap.size W W') : KeepT t W W' := fun _ cur hb => Blk.below (cs := cur) hb h (Blk.lt (cs := cur) hb)
theorem CsIn.below {W W' : World} {A : Option Addr} {cs : List Cl} (h : CsIn W A cs) (hb : Below W.heap.size W W') : CsIn W' A cs := h.keep (keepT_below hb) (keepT_below hb) (keepT_below hb)
theorem csIn_own {w : World} {base n m c : Nat} {A : Option Addr} {l : List CV} (h : OwnK 2 97 w base (.slice A m c) n (flatC l)) (hw : PsAll w l) : m = n ∧ l.length = n ∧ n ≤ c ∧ CsIn w A (l.map CV.c) := by
  obtain ⟨hl, A', c', hv, h1, h2, h3⟩ := h
  injection hv with e1 e2 e3
  subst e1 e2 e3
  rw [flatC_len] at hl
  have hn : l.length = m := by omega
  refine ⟨rfl, hn, h1, l, rfl, hw, fun hp => ?_⟩
  rcases h3 with ⟨_, h0, _⟩ | ⟨g, cur, hA, hg, hb, h4, h5⟩
  · omega
  · refine ⟨g, cur, hA, hb, fun i hi => ?_⟩
    rw [← h5, List.getElem?_take_of_lt (by omega)]
    simp
/-- What a row's growth leaves of the blocks of another type. -/
theorem keepT_grown {t e : TypeId} {K base n : Nat} {W w1 : World} {v : Value} {xs : List Value} (ho : OwnK K e W base v n xs) (hg : W.grownBy w1 v.ownBlock) (hne : t ≠ e) : KeepT t W w1 := fun b cur hb => by
  refine (hg.block b (Blk.lt (cs := cur) hb) (fun e' => ?_)).trans hb
  obtain ⟨_, A, c, rfl, _, _, h3⟩ := ho
  rcases h3 with ⟨rfl, _⟩ | ⟨g, cur', rfl, _, hb2, _⟩
  · cases e'
  · have e2 : b = g := by simpa [Value.ownBlock] using e'
    subst e2
    exact absurd rfl (Blk.ne_ (show Blk W b t cur from hb) hb2 hne)
theorem KeepT.drewN {t : TypeId} {a w : World} (h : KeepT t a w) (n : Nat) : KeepT t a (w.drewN n) := h
theorem KeepT.set {t t' : TypeId} {a w : World} {g i : Nat} {cs : Array Value} {v : Value} (h : KeepT t a w) (hB : Blk w g t' cs) (hne : t ≠ t') : KeepT t a (w.setCell ⟨g, i, none⟩ v) := fun b cur hb =>
  Blk.far (h b cur hb) (Blk.ne_ (h b cur hb) hB hne) v

end Go.Proofs.Ytfklaahakibljaa
