/-
  PLAIN: the part of a string with words that are found: the program's and the reference's way are one.
-/
import Derived.Test.YtfnooipkghfmoaaSna
import Derived.Maps.OwnSet
set_option linter.all false
namespace Go.Proofs.Ytfnooipkghfmoaa
open Go.RowKit Go.Lib

/-- How many different strings there are: the entries of a map that they are stored into. -/
def keyB (x : ByteArray) : Lit := .string x.data.toList
def mapB (l : List ByteArray) : DataW Unit := Go.Maps.setOf (.lit (.bool true)) (l.map keyB)
def distN (l : List ByteArray) : Nat := Go.Maps.size (mapB l)
theorem mapB_snoc (l : List ByteArray) (x : ByteArray) : mapB (l ++ [x]) = (mapB l).put (keyB x) (.lit (.bool true)) := by
  unfold mapB
  rw [List.map_append]
  exact Go.Maps.setOf_snoc _ _ _
theorem addKey_len (acc : List Lit) (x : Lit) : acc.length ≤ (Go.Maps.addKey acc x).length ∧ 0 < (Go.Maps.addKey acc x).length := by
  unfold Go.Maps.addKey
  split
  · rename_i h
    obtain ⟨y, hy, _⟩ := List.any_eq_true.1 h
    exact ⟨Nat.le_refl _, List.length_pos_of_mem hy⟩
  · simp
theorem foldKey_len : ∀ (l : List Lit) (acc : List Lit), acc.length ≤ (l.foldl Go.Maps.addKey acc).length
  | [], _ => Nat.le_refl _
  | x :: l, acc => Nat.le_trans (addKey_len acc x).1 (foldKey_len l _)
theorem keyB_lit (l : List ByteArray) : ∀ x ∈ l.map keyB, WideAt.IsKeyLit x := fun x hx => by
  obtain ⟨y, _, rfl⟩ := List.mem_map.1 hx
  exact trivial
theorem distN_pos {l : List ByteArray} (h : l ≠ []) : 0 < distN l := by
  unfold distN mapB
  rw [Go.Maps.size_setOf _ _ (keyB_lit l)]
  match l, h with
  | x :: l, _ => exact Nat.lt_of_lt_of_le (addKey_len [] (keyB x)).2 (foldKey_len _ _)
theorem distN_le (l : List ByteArray) : distN l ≤ l.length := by
  unfold distN mapB
  rw [Go.Maps.size_setOf _ _ (keyB_lit l)]
  have h : ∀ (l : List Lit) (acc : List Lit), (l.foldl Go.Maps.addKey acc).length ≤ acc.length + l.length := by
    intro l
    induction l with
    | nil => intro acc; simp
    | cons x l ih =>
      intro acc
      have h1 := ih (Go.Maps.addKey acc x)
      have h2 : (Go.Maps.addKey acc x).length ≤ acc.length + 1 := by
        unfold Go.Maps.addKey
        split <;> simp
      rw [List.foldl_cons, List.length_cons]
      omega
  have := h (l.map keyB) []
  simpa using this

/-- A part of a string, and the words that are marked in it. -/
structure Snp where
  f : Nat
  u : Nat
  ms : List Wd
def Snp.zero : Snp := ⟨0, 0, []⟩

/-! ### The program's way -/
def winTo (l : List Wd) (x0 : Wd) (W : Nat) : Nat := l.foldl (fun t x => if x0.f ≤ x.f ∧ x.u ≤ x0.f + W then max t x.u else t) x0.u
def marksOf (found : List Wd) (x0 : Wd) (tt : Nat) : List Wd := found.filter (fun x => decide (x0.f ≤ x.f ∧ x.u ≤ tt))
def stepP (ws found : List Wd) (W : Nat) (st : Snp × Nat) (x : Wd) : Snp × Nat :=
  if st.2 < distN ((marksOf found x (winTo ws x W)).map Wd.t) then (⟨x.f, winTo ws x W, marksOf found x (winTo ws x W)⟩, distN ((marksOf found x (winTo ws x W)).map Wd.t)) else st
def snipP (ws : List Wd) (P : Wd → Bool) (W : Nat) : Snp := match ws with
  | [] => Snp.zero
  | x :: _ => if ws.filter P = [] then ⟨x.f, winTo ws x W, []⟩ else ((ws.filter P).foldl (stepP ws (ws.filter P) W) (Snp.zero, 0)).1

/-! ### The reference's way -/
def winR (P : Wd → Bool) (B : Nat) : List Wd → Nat × List Wd → Nat × List Wd
  | [], st => st
  | y :: r, st => winR P B r (if y.u ≤ B then max st.1 y.u else st.1, if y.u ≤ (if y.u ≤ B then max st.1 y.u else st.1) ∧ P y = true then st.2 ++ [y] else st.2)
def windowR (P : Wd → Bool) (W : Nat) : List Wd → Nat × List Wd
  | [] => (0, [])
  | x :: r => winR P (x.f + W) (x :: r) (x.u, [])
def stepR (P : Wd → Bool) (W : Nat) (st : Snp × Int) (L : List Wd) : Snp × Int := match L with
  | [] => st
  | x :: r => if P x = true then (if st.2 < distN ((windowR P W (x :: r)).2.map Wd.t) then (⟨x.f, (windowR P W (x :: r)).1, (windowR P W (x :: r)).2⟩, (distN ((windowR P W (x :: r)).2.map Wd.t) : Int)) else st) else st
def refGo (P : Wd → Bool) (W : Nat) : List Wd → Snp × Int → Snp × Int
  | [], st => st
  | x :: r, st => refGo P W r (stepR P W st (x :: r))
def snipR (ws : List Wd) (P : Wd → Bool) (W : Nat) : Snp := match ws with
  | [] => (refGo P W [] (Snp.zero, -1)).1
  | x :: r => if (refGo P W (x :: r) (Snp.zero, -1)).2 < 0 then ⟨x.f, (windowR P W (x :: r)).1, []⟩ else (refGo P W (x :: r) (Snp.zero, -1)).1

/-! ### They are one -/
def InOrder (ws : List Wd) : Prop := ws.Pairwise (fun a b => a.u ≤ b.f) ∧ ∀ x ∈ ws, x.f < x.u
def toB (B : Nat) (r : List Wd) (t : Nat) : Nat := r.foldl (fun t y => if y.u ≤ B then max t y.u else t) t
theorem toB_ge (B : Nat) : ∀ (r : List Wd) (t : Nat), t ≤ toB B r t ∧ ∀ y ∈ r, y.u ≤ B → y.u ≤ toB B r t
  | [], t => ⟨Nat.le_refl _, fun y hy => by cases hy⟩
  | x :: r, t => by
    have ih := toB_ge B r (if x.u ≤ B then max t x.u else t)
    refine ⟨Nat.le_trans ?_ ih.1, fun y hy hb => ?_⟩
    · split <;> omega
    · rcases List.mem_cons.1 hy with rfl | hy
      · refine Nat.le_trans ?_ ih.1
        rw [if_pos hb]
        omega
      · exact ih.2 y hy hb
theorem toB_le (B M : Nat) (hB : B ≤ M) : ∀ (r : List Wd) (t : Nat), t ≤ M → toB B r t ≤ M
  | [], t, h => h
  | x :: r, t, h => toB_le B M hB r _ (by show (if x.u ≤ B then max t x.u else t) ≤ M; split <;> omega)
theorem winR_spec (P : Wd → Bool) (B u0 : Nat) : ∀ (r : List Wd) (tt : Nat) (acc : List Wd), (∀ y ∈ r, u0 < y.u) → tt ≤ max u0 B → winR P B r (tt, acc) = (toB B r tt, acc ++ r.filter (fun y => decide (y.u ≤ B) && P y))
  | [], tt, acc, _, _ => by simp [winR, toB]
  | y :: r, tt, acc, h, ht => by
    have hy := h y List.mem_cons_self
    have hr := fun z hz => h z (List.mem_cons_of_mem _ hz)
    rw [winR]
    by_cases hb : y.u ≤ B
    · simp only [if_pos hb]
      have h1 : y.u ≤ max tt y.u := by omega
      have e1 : toB B (y :: r) tt = toB B r (max tt y.u) := by
        show toB B r (if y.u ≤ B then max tt y.u else tt) = _
        rw [if_pos hb]
      cases hp : P y with
      | true =>
        rw [if_pos ⟨h1, rfl⟩, winR_spec P B u0 r _ _ hr (by omega), e1]
        simp [hb, hp]
      | false =>
        rw [if_neg (fun h => by cases h.2), winR_spec P B u0 r _ _ hr (by omega), e1]
        simp [hp]
    · simp only [if_neg hb]
      have e1 : toB B (y :: r) tt = toB B r tt := by
        show toB B r (if y.u ≤ B then max tt y.u else tt) = _
        rw [if_neg hb]
      rw [if_neg (fun h => by have := h.1; omega), winR_spec P B u0 r _ _ hr ht, e1]
      simp [hb]
theorem suffix_order {pre r : List Wd} {x : Wd} (h : InOrder (pre ++ x :: r)) : (∀ y ∈ pre, y.f < x.f) ∧ (∀ y ∈ r, x.u ≤ y.f ∧ x.u < y.u) := by
  obtain ⟨h1, h2⟩ := h
  obtain ⟨_, h3, h4⟩ := List.pairwise_append.1 h1
  refine ⟨fun y hy => ?_, fun y hy => ?_⟩
  · have := h4 y hy x List.mem_cons_self
    have := h2 y (List.mem_append_left _ hy)
    omega
  · have := (List.pairwise_cons.1 h3).1 y hy
    have := h2 y (List.mem_append_right _ (List.mem_cons_of_mem _ hy))
    omega
theorem windowR_spec (P : Wd → Bool) (W : Nat) {pre r : List Wd} {x : Wd} (h : InOrder (pre ++ x :: r)) :
    windowR P W (x :: r) = (toB (x.f + W) r x.u, (if P x = true then [x] else []) ++ r.filter (fun y => decide (y.u ≤ x.f + W) && P y)) := by
  have hr := (suffix_order h).2
  have hw : windowR P W (x :: r) = winR P (x.f + W) r (if x.u ≤ x.f + W then max x.u x.u else x.u, if x.u ≤ (if x.u ≤ x.f + W then max x.u x.u else x.u) ∧ P x = true then [] ++ [x] else []) := rfl
  rw [hw]
  have e : (if x.u ≤ x.f + W then max x.u x.u else x.u) = x.u := by split <;> omega
  simp only [e]
  rw [winR_spec P (x.f + W) x.u r _ _ (fun y hy => (hr y hy).2) (by omega)]
  cases hp : P x <;> simp
theorem winTo_skip (x0 : Wd) (W : Nat) : ∀ (pre : List Wd) (t : Nat), (∀ y ∈ pre, y.f < x0.f) → pre.foldl (fun t x => if x0.f ≤ x.f ∧ x.u ≤ x0.f + W then max t x.u else t) t = t
  | [], t, _ => rfl
  | y :: pre, t, h => by
    rw [List.foldl_cons, if_neg (fun hh => by have := h y List.mem_cons_self; omega)]
    exact winTo_skip x0 W pre t (fun z hz => h z (List.mem_cons_of_mem _ hz))
theorem winTo_rest (x0 : Wd) (W : Nat) : ∀ (r : List Wd) (t : Nat), (∀ y ∈ r, x0.f ≤ y.f) → r.foldl (fun t x => if x0.f ≤ x.f ∧ x.u ≤ x0.f + W then max t x.u else t) t = toB (x0.f + W) r t
  | [], t, _ => rfl
  | y :: r, t, h => by
    have hy := h y List.mem_cons_self
    rw [List.foldl_cons]
    have e : (if x0.f ≤ y.f ∧ y.u ≤ x0.f + W then max t y.u else t) = (if y.u ≤ x0.f + W then max t y.u else t) := by
      by_cases hb : y.u ≤ x0.f + W
      · rw [if_pos ⟨hy, hb⟩, if_pos hb]
      · rw [if_neg (fun hh => hb hh.2), if_neg hb]
    rw [e]
    exact winTo_rest x0 W r _ (fun z hz => h z (List.mem_cons_of_mem _ hz))
theorem winTo_spec (W : Nat) {pre r : List Wd} {x : Wd} (h : InOrder (pre ++ x :: r)) : winTo (pre ++ x :: r) x W = toB (x.f + W) r x.u := by
  obtain ⟨hp, hr⟩ := suffix_order h
  have hx := h.2 x (List.mem_append_right _ List.mem_cons_self)
  unfold winTo
  rw [List.foldl_append, winTo_skip x W pre _ hp, List.foldl_cons]
  have e : (if x.f ≤ x.f ∧ x.u ≤ x.f + W then max x.u x.u else x.u) = x.u := by split <;> omega
  rw [e]
  exact winTo_rest x W r _ (fun y hy => by have := (hr y hy).1; omega)
theorem marksOf_spec (P : Wd → Bool) (W : Nat) {pre r : List Wd} {x : Wd} (h : InOrder (pre ++ x :: r)) :
    marksOf ((pre ++ x :: r).filter P) x (toB (x.f + W) r x.u) = (if P x = true then [x] else []) ++ r.filter (fun y => decide (y.u ≤ x.f + W) && P y) := by
  obtain ⟨hp, hr⟩ := suffix_order h
  have hx := h.2 x (List.mem_append_right _ List.mem_cons_self)
  obtain ⟨g1, g2⟩ := toB_ge (x.f + W) r x.u
  have g3 := toB_le (x.f + W) (max x.u (x.f + W)) (by omega) r x.u (by omega)
  unfold marksOf
  rw [List.filter_filter, List.filter_append, List.filter_cons]
  have e1 : pre.filter (fun y => decide (x.f ≤ y.f ∧ y.u ≤ toB (x.f + W) r x.u) && P y) = [] := by
    rw [List.filter_eq_nil_iff]
    intro y hy
    have := hp y hy
    rw [decide_eq_false (by omega)]
    simp
  have e2 : r.filter (fun y => decide (x.f ≤ y.f ∧ y.u ≤ toB (x.f + W) r x.u) && P y) = r.filter (fun y => decide (y.u ≤ x.f + W) && P y) := by
    refine List.filter_congr (fun y hy => ?_)
    have h1 := hr y hy
    have h2 := g2 y hy
    have e : decide (x.f ≤ y.f ∧ y.u ≤ toB (x.f + W) r x.u) = decide (y.u ≤ x.f + W) := by
      by_cases hb : y.u ≤ x.f + W
      · rw [decide_eq_true hb, decide_eq_true ⟨by omega, h2 hb⟩]
      · rw [decide_eq_false hb, decide_eq_false (by omega)]
    rw [e]
  rw [e1, e2, decide_eq_true (by omega), Bool.true_and, List.nil_append]
  cases hpx : P x <;> simp
theorem window_same (P : Wd → Bool) (W : Nat) {pre r : List Wd} {x : Wd} (h : InOrder (pre ++ x :: r)) :
    windowR P W (x :: r) = (winTo (pre ++ x :: r) x W, marksOf ((pre ++ x :: r).filter P) x (winTo (pre ++ x :: r) x W)) := by
  rw [windowR_spec P W h, winTo_spec W h, marksOf_spec P W h]

def Tied (a : Snp × Nat) (b : Snp × Int) : Prop := a.1 = b.1 ∧ (a.2 : Int) = b.2 ∧ 0 < a.2
theorem go_same (P : Wd → Bool) (W : Nat) {ws : List Wd} (h : InOrder ws) : ∀ (L pre : List Wd), ws = pre ++ L → ∀ (a : Snp × Nat) (b : Snp × Int), (Tied a b ∨ (a = (Snp.zero, 0) ∧ b = (Snp.zero, -1))) →
    (Tied ((L.filter P).foldl (stepP ws (ws.filter P) W) a) (refGo P W L b) ∨ (L.filter P = [] ∧ refGo P W L b = b))
  | [], pre, _, a, b, hab => .inr ⟨rfl, rfl⟩
  | x :: r, pre, hw, a, b, hab => by
    have hwr : ws = (pre ++ [x]) ++ r := by rw [hw]; simp
    have hwin := window_same P W (pre := pre) (r := r) (x := x) (hw ▸ h)
    rw [← hw] at hwin
    rw [refGo]
    cases hp : P x with
    | false =>
      have e : stepR P W b (x :: r) = b := by simp [stepR, hp]
      rw [e, List.filter_cons_of_neg (by rw [hp]; decide)]
      exact go_same P W h r (pre ++ [x]) hwr a b hab
    | true =>
      rw [List.filter_cons_of_pos hp, List.foldl_cons]
      have hmem : marksOf (ws.filter P) x (winTo ws x W) ≠ [] := by
        have hx := (window_same P W (pre := pre) (r := r) (x := x) (hw ▸ h)).symm
        rw [← hw] at hx
        have h2 := windowR_spec P W (pre := pre) (r := r) (x := x) (hw ▸ h)
        rw [← hx, hp] at h2
        intro hn
        rw [hn] at h2
        simp at h2
      have hpos : 0 < distN ((marksOf (ws.filter P) x (winTo ws x W)).map Wd.t) := distN_pos (by simpa using hmem)
      have hstep : Tied (stepP ws (ws.filter P) W a x) (stepR P W b (x :: r)) := by
        unfold stepP stepR
        simp only
        rw [hwin, if_pos hp]
        rcases hab with ⟨h1, h2, h3⟩ | ⟨rfl, rfl⟩
        · by_cases hlt : a.2 < distN ((marksOf (ws.filter P) x (winTo ws x W)).map Wd.t)
          · rw [if_pos hlt, if_pos (by simp only; omega)]
            exact ⟨rfl, rfl, hpos⟩
          · rw [if_neg hlt, if_neg (by simp only; omega)]
            exact ⟨h1, h2, h3⟩
        · rw [if_pos hpos, if_pos (by simp only; omega)]
          exact ⟨rfl, rfl, hpos⟩
      rcases go_same P W h r (pre ++ [x]) hwr _ _ (.inl hstep) with h5 | ⟨h5, h6⟩
      · exact .inl h5
      · rw [h5, h6]
        exact .inl hstep
/-- Both ways find the same part. -/
theorem snip_same (P : Wd → Bool) (W : Nat) {ws : List Wd} (h : InOrder ws) : snipP ws P W = snipR ws P W := by
  match ws, h with
  | [], _ => rfl
  | x :: r, h =>
    have hg := go_same P W h (x :: r) [] rfl (Snp.zero, 0) (Snp.zero, -1) (.inr ⟨rfl, rfl⟩)
    have hwin := window_same P W (pre := []) (r := r) (x := x) h
    simp only [List.nil_append] at hwin
    unfold snipP snipR
    rcases hg with ⟨h1, h2, h3⟩ | ⟨h1, h2⟩
    · have hne : (x :: r).filter P ≠ [] := fun hn => by
        rw [hn] at h3
        simp at h3
      simp only
      rw [if_neg hne, if_neg (by omega), h1]
    · simp only
      rw [if_pos h1, h2, if_pos (by decide), hwin]
end Go.Proofs.Ytfnooipkghfmoaa
