/-
  PLAIN: what slices.SortStableFunc does to a row, as a function of the row and of the order: blocks of twenty by insertion, then merging by exchanges. Nothing of the program.
-/
import Derived.Sort.WalkA
import Derived.Sort.Lot0
set_option linter.all false
namespace Go.Proofs.Ytfpcfpjnafnjiaa
open Go.Sort
variable {α : Type} [Inhabited α] (lt : α → α → Bool)

/-- swapRange, from the i-th pair on. -/
def swRange (a b n i : Nat) (d : Array α) : Array α := if i < n then swRange a b n (i + 1) (swp d (a + i) (b + i)) else d
termination_by n - i
theorem swRange_go {a b n i : Nat} {d : Array α} (h : i < n) : swRange a b n i d = swRange a b n (i + 1) (swp d (a + i) (b + i)) := by rw [swRange, if_pos h]
theorem swRange_stop {a b n i : Nat} {d : Array α} (h : ¬ i < n) : swRange a b n i d = d := by rw [swRange, if_neg h]

/-- rotate's loop. -/
def rotGo (m i j : Nat) (d : Array α) : Array α :=
  if _h : i = j ∨ i = 0 ∨ j = 0 then swRange (m - i) m i 0 d
  else if j < i then rotGo m (i - j) j (swRange (m - i) m j 0 d)
  else rotGo m i (j - i) (swRange (m - i) (m + j - i) i 0 d)
termination_by i + j
theorem rotGo_stop {m i : Nat} {d : Array α} : rotGo m i i d = swRange (m - i) m i 0 d := by rw [rotGo, dif_pos (Or.inl rfl)]
theorem rotGo_more {m i j : Nat} {d : Array α} (h : j < i) (hj : 0 < j) : rotGo m i j d = rotGo m (i - j) j (swRange (m - i) m j 0 d) := by rw [rotGo, dif_neg (by omega), if_pos h]
theorem rotGo_less {m i j : Nat} {d : Array α} (h : i < j) (hi : 0 < i) : rotGo m i j d = rotGo m i (j - i) (swRange (m - i) (m + j - i) i 0 d) := by rw [rotGo, dif_neg (by omega), if_neg (by omega)]

/-- The search by halves: the first place in [i, j) at which the test fails. -/
def half (f : Nat → Bool) (i j : Nat) : Nat := if i < j then (if f ((i + j) / 2) then half f ((i + j) / 2 + 1) j else half f i ((i + j) / 2)) else i
termination_by j - i
theorem half_yes {f : Nat → Bool} {i j : Nat} (h : i < j) (hf : f ((i + j) / 2) = true) : half f i j = half f ((i + j) / 2 + 1) j := by rw [half, if_pos h, if_pos hf]
theorem half_no {f : Nat → Bool} {i j : Nat} (h : i < j) (hf : f ((i + j) / 2) = false) : half f i j = half f i ((i + j) / 2) := by rw [half, if_pos h, if_neg (by simp [hf])]
theorem half_stop {f : Nat → Bool} {i j : Nat} (h : ¬ i < j) : half f i j = i := by rw [half, if_neg h]
theorem half_le (f : Nat → Bool) : ∀ (n i j : Nat), j - i ≤ n → i ≤ j → i ≤ half f i j ∧ half f i j ≤ j := by
  intro n
  induction n with
  | zero => intro i j h hi; rw [half_stop (by omega)]; omega
  | succ n ih =>
    intro i j h hi
    by_cases hlt : i < j
    · cases hf : f ((i + j) / 2) with
      | true => rw [half_yes hlt hf]; have := ih ((i + j) / 2 + 1) j (by omega) (by omega); omega
      | false => rw [half_no hlt hf]; have := ih i ((i + j) / 2) (by omega) (by omega); omega
    · rw [half_stop hlt]; omega
theorem half_ge {f : Nat → Bool} {i j : Nat} (h : i ≤ j) : i ≤ half f i j := (half_le f _ i j (Nat.le_refl _) h).1
theorem half_up {f : Nat → Bool} {i j : Nat} (h : i ≤ j) : half f i j ≤ j := (half_le f _ i j (Nat.le_refl _) h).2

/-- One element led upwards. -/
def upGo (k e : Nat) (d : Array α) : Array α := if k < e then upGo (k + 1) e (swp d k (k + 1)) else d
termination_by e - k
theorem upGo_go {k e : Nat} {d : Array α} (h : k < e) : upGo k e d = upGo (k + 1) e (swp d k (k + 1)) := by rw [upGo, if_pos h]
theorem upGo_stop {k e : Nat} {d : Array α} (h : ¬ k < e) : upGo k e d = d := by rw [upGo, if_neg h]
/-- One element led downwards. -/
def downGo (i k : Nat) (d : Array α) : Array α := if i < k then downGo i (k - 1) (swp d k (k - 1)) else d
termination_by k
theorem downGo_go {i k : Nat} {d : Array α} (h : i < k) : downGo i k d = downGo i (k - 1) (swp d k (k - 1)) := by rw [downGo, if_pos h]
theorem downGo_stop {i k : Nat} {d : Array α} (h : ¬ i < k) : downGo i k d = d := by rw [downGo, if_neg h]

/-- Where symMerge's search begins and ends. -/
def symLo (a m b : Nat) : Nat := if (a + b) / 2 < m then (a + b) / 2 + m - b else a
def symHi (a m b : Nat) : Nat := if (a + b) / 2 < m then (a + b) / 2 else m
/-- The place that symMerge's search finds. -/
def symAt (a m b : Nat) (d : Array α) : Nat := half (fun c => !lt d[(a + b) / 2 + m - 1 - c]! d[c]!) (symLo a m b) (symHi a m b)
def symRot (m s e : Nat) (d : Array α) : Array α := if s < m ∧ m < e then rotGo m (m - s) (e - m) d else d

/-- symMerge (the first number bounds its depth). -/
def symM : Nat → Nat → Nat → Nat → Array α → Array α
  | 0, _, _, _, d => d
  | f + 1, a, m, b, d =>
    if m - a = 1 then upGo a (half (fun h => lt d[h]! d[a]!) m b - 1) d
    else if b - m = 1 then downGo (half (fun h => !lt d[m]! d[h]!) a m) m d
    else
      let s := symAt lt a m b d
      let e := (a + b) / 2 + m - s
      let d1 := symRot m s e d
      let d2 := if a < s ∧ s < (a + b) / 2 then symM f a s ((a + b) / 2) d1 else d1
      if (a + b) / 2 < e ∧ e < b then symM f ((a + b) / 2) e b d2 else d2

theorem symM_one {f a m b : Nat} {d : Array α} (h : m - a = 1) : symM lt (f + 1) a m b d = upGo a (half (fun h => lt d[h]! d[a]!) m b - 1) d := by rw [symM, if_pos h]
theorem symM_last {f a m b : Nat} {d : Array α} (h : ¬ m - a = 1) (h2 : b - m = 1) : symM lt (f + 1) a m b d = downGo (half (fun h => !lt d[m]! d[h]!) a m) m d := by rw [symM, if_neg h, if_pos h2]
def symL (f a s b : Nat) (d : Array α) : Array α := if a < s ∧ s < (a + b) / 2 then symM lt f a s ((a + b) / 2) d else d
def symR (f s m a b : Nat) (d : Array α) : Array α := if (a + b) / 2 < (a + b) / 2 + m - s ∧ (a + b) / 2 + m - s < b then symM lt f ((a + b) / 2) ((a + b) / 2 + m - s) b d else d
theorem symM_more {f a m b s : Nat} {d : Array α} (h : ¬ m - a = 1) (h2 : ¬ b - m = 1) (hs : symAt lt a m b d = s) :
    symM lt (f + 1) a m b d = symR lt f s m a b (symL lt f a s b (symRot m s ((a + b) / 2 + m - s) d)) := by
  subst hs
  rw [symM, if_neg h, if_neg h2]; rfl

/-- Twenty by twenty. -/
def blkGo (n a : Nat) (d : Array α) : Array α := if a + 20 ≤ n then blkGo n (a + 20) (insertionSort lt d a (a + 20)) else insertionSort lt d a n
termination_by n - a
theorem blkGo_go {n a : Nat} {d : Array α} (h : a + 20 ≤ n) : blkGo lt n a d = blkGo lt n (a + 20) (insertionSort lt d a (a + 20)) := by rw [blkGo, if_pos h]
theorem blkGo_stop {n a : Nat} {d : Array α} (h : ¬ a + 20 ≤ n) : blkGo lt n a d = insertionSort lt d a n := by rw [blkGo, if_neg h]

/-- One go of merging, with blocks of k. -/
def mrgGo (n k a : Nat) (d : Array α) : Array α :=
  if _h : 0 < k ∧ a + 2 * k ≤ n then mrgGo n k (a + 2 * k) (symM lt (2 * k) a (a + k) (a + 2 * k) d)
  else if a + k < n then symM lt (n - a) a (a + k) n d else d
termination_by n - a
theorem mrgGo_go {n k a : Nat} {d : Array α} (hk : 0 < k) (h : a + 2 * k ≤ n) : mrgGo lt n k a d = mrgGo lt n k (a + 2 * k) (symM lt (2 * k) a (a + k) (a + 2 * k) d) := by rw [mrgGo, dif_pos ⟨hk, h⟩]
theorem mrgGo_last {n k a : Nat} {d : Array α} (h : ¬ a + 2 * k ≤ n) (h2 : a + k < n) : mrgGo lt n k a d = symM lt (n - a) a (a + k) n d := by rw [mrgGo, dif_neg (fun e => h e.2), if_pos h2]
theorem mrgGo_stop {n k a : Nat} {d : Array α} (h : ¬ a + 2 * k ≤ n) (h2 : ¬ a + k < n) : mrgGo lt n k a d = d := by rw [mrgGo, dif_neg (fun e => h e.2), if_neg h2]

/-- All goes of merging. -/
def dblGo (n k : Nat) (d : Array α) : Array α := if _h : 0 < k ∧ k < n then dblGo n (k * 2) (mrgGo lt n k 0 d) else d
termination_by n - k
theorem dblGo_go {n k : Nat} {d : Array α} (hk : 0 < k) (h : k < n) : dblGo lt n k d = dblGo lt n (k * 2) (mrgGo lt n k 0 d) := by rw [dblGo, dif_pos ⟨hk, h⟩]
theorem dblGo_stop {n k : Nat} {d : Array α} (h : ¬ k < n) : dblGo lt n k d = d := by rw [dblGo, dif_neg (fun e => h e.2)]

/-- What slices.SortStableFunc makes of a row. -/
def stableF (d : Array α) : Array α := dblGo lt d.size 20 (blkGo lt d.size 0 d)

/-! ### Behind any of these the row has its length, and holds what it held. -/
/-- One row comes of another by exchanges of places within it. -/
inductive Swaps : Array α → Array α → Prop
  | refl (d : Array α) : Swaps d d
  | step (d e : Array α) (i j : Nat) (hi : i < e.size) (hj : j < e.size) (h : Swaps d e) : Swaps d (swp e i j)
theorem Swaps.trans {d e f : Array α} (h : Swaps d e) (g : Swaps e f) : Swaps d f := by
  induction g with
  | refl => exact h
  | step e' i j hi hj _ ih => exact .step _ _ i j hi hj ih
theorem Swaps.size {d e : Array α} (h : Swaps d e) : e.size = d.size := by
  induction h with
  | refl => rfl
  | step e i j hi hj _ ih => rw [size_swp]; exact ih
theorem Swaps.one {d : Array α} {i j : Nat} (hi : i < d.size) (hj : j < d.size) : Swaps d (swp d i j) := .step _ _ i j hi hj (.refl d)
theorem all_swp {p : α → Prop} {d : Array α} {i j : Nat} (hi : i < d.size) (hj : j < d.size) (h : ∀ k, k < d.size → p d[k]!) : ∀ k, k < (swp d i j).size → p (swp d i j)[k]! := by
  intro k hk
  rw [size_swp] at hk
  unfold swp
  rw [getElem!_pos _ k (by simpa using hk), Array.getElem_setIfInBounds (by simpa using hk)]
  split
  · exact h i hi
  · rw [Array.getElem_setIfInBounds hk]
    split
    · exact h j hj
    · have := h k hk; rwa [getElem!_pos d k hk] at this
theorem Swaps.all {p : α → Prop} {d e : Array α} (g : Swaps d e) (h : ∀ k, k < d.size → p d[k]!) : ∀ k, k < e.size → p e[k]! := by
  induction g with
  | refl => exact h
  | step e i j hi hj _ ih => exact all_swp hi hj ih

theorem swRange_swaps : ∀ (q a b n i : Nat) (d : Array α), n - i ≤ q → a + n ≤ d.size → b + n ≤ d.size → Swaps d (swRange a b n i d) := by
  intro q
  induction q with
  | zero => intro a b n i d h _ _; rw [swRange_stop (by omega)]; exact .refl d
  | succ q ih =>
    intro a b n i d h ha hb
    by_cases hlt : i < n
    · rw [swRange_go hlt]
      exact (Swaps.one (by omega) (by omega)).trans (ih a b n (i + 1) _ (by omega) (by rw [size_swp]; exact ha) (by rw [size_swp]; exact hb))
    · rw [swRange_stop hlt]; exact .refl d
theorem rotGo_swaps : ∀ (q m i j : Nat) (d : Array α), i + j ≤ q → i ≤ m → m + j ≤ d.size → 0 < i → 0 < j → Swaps d (rotGo m i j d) := by
  intro q
  induction q with
  | zero => intro m i j d h _ _ _ _; omega
  | succ q ih =>
    intro m i j d h him hmj hi hj
    by_cases he : i = j
    · subst he; rw [rotGo_stop]; exact swRange_swaps _ _ _ _ _ d (Nat.le_refl _) (by omega) (by omega)
    · by_cases hlt : j < i
      · rw [rotGo_more hlt hj]
        have s := swRange_swaps _ (m - i) m j 0 d (Nat.le_refl _) (by omega) (by omega)
        exact s.trans (ih m (i - j) j _ (by omega) (by omega) (by rw [s.size]; omega) (by omega) hj)
      · rw [rotGo_less (by omega) hi]
        have s := swRange_swaps _ (m - i) (m + j - i) i 0 d (Nat.le_refl _) (by omega) (by omega)
        exact s.trans (ih m i (j - i) _ (by omega) (by omega) (by rw [s.size]; omega) hi (by omega))
theorem upGo_swaps : ∀ (q k e : Nat) (d : Array α), e - k ≤ q → e < d.size ∨ e ≤ k → Swaps d (upGo k e d) := by
  intro q
  induction q with
  | zero => intro k e d h _; rw [upGo_stop (by omega)]; exact .refl d
  | succ q ih =>
    intro k e d h he
    by_cases hlt : k < e
    · rw [upGo_go hlt]
      exact (Swaps.one (by omega) (by omega)).trans (ih (k + 1) e _ (by omega) (by rw [size_swp]; omega))
    · rw [upGo_stop hlt]; exact .refl d
theorem downGo_swaps : ∀ (k i : Nat) (d : Array α), k < d.size → Swaps d (downGo i k d) := by
  intro k
  induction k with
  | zero => intro i d _; rw [downGo_stop (by omega)]; exact .refl d
  | succ k ih =>
    intro i d h
    by_cases hlt : i < k + 1
    · rw [downGo_go hlt]
      exact (Swaps.one (by omega) (by omega)).trans (ih i _ (by rw [size_swp]; omega))
    · rw [downGo_stop hlt]; exact .refl d

/-- The bounds of symMerge's search. -/
theorem sym_bounds {a m b : Nat} (h1 : a < m) (h2 : m < b) : a ≤ symLo a m b ∧ symLo a m b ≤ symHi a m b ∧ symHi a m b ≤ m ∧ symHi a m b ≤ (a + b) / 2 ∧ (a + b) / 2 + m - symLo a m b ≤ b := by
  unfold symLo symHi
  split <;> omega
theorem symAt_bounds {a m b : Nat} (d : Array α) (h1 : a < m) (h2 : m < b) : a ≤ symAt lt a m b d ∧ symAt lt a m b d ≤ m ∧ symAt lt a m b d ≤ (a + b) / 2 ∧ (a + b) / 2 + m - symAt lt a m b d ≤ b := by
  have h := sym_bounds h1 h2
  have hg := half_ge (f := fun c => !lt d[(a + b) / 2 + m - 1 - c]! d[c]!) h.2.1
  have hu := half_up (f := fun c => !lt d[(a + b) / 2 + m - 1 - c]! d[c]!) h.2.1
  unfold symAt
  omega
theorem symRot_swaps {m s e : Nat} (d : Array α) (hs : e ≤ d.size) : Swaps d (symRot m s e d) := by
  unfold symRot
  split
  · exact rotGo_swaps _ m (m - s) (e - m) d (Nat.le_refl _) (by omega) (by omega) (by omega) (by omega)
  · exact .refl d
theorem symM_swaps : ∀ (f a m b : Nat) (d : Array α), a < m → m < b → b ≤ d.size → Swaps d (symM lt f a m b d) := by
  intro f
  induction f with
  | zero => intro a m b d _ _ _; exact .refl d
  | succ f ih =>
    intro a m b d h1 h2 h3
    by_cases e1 : m - a = 1
    · rw [symM_one lt e1]
      have hu := half_up (f := fun h => lt d[h]! d[a]!) (Nat.le_of_lt h2)
      have hg := half_ge (f := fun h => lt d[h]! d[a]!) (Nat.le_of_lt h2)
      exact upGo_swaps _ _ _ d (Nat.le_refl _) (by omega)
    · by_cases e2 : b - m = 1
      · rw [symM_last lt e1 e2]; exact downGo_swaps _ _ d (by omega)
      · have hb := symAt_bounds lt d h1 h2
        rw [symM_more lt e1 e2 rfl]
        generalize symAt lt a m b d = s at hb ⊢
        have s1 := symRot_swaps (m := m) (s := s) (e := (a + b) / 2 + m - s) d (by omega)
        generalize symRot m s ((a + b) / 2 + m - s) d = d1 at s1 ⊢
        have s2 : Swaps d1 (symL lt f a s b d1) := by
          unfold symL
          split
          · exact ih a s _ d1 (by omega) (by omega) (by rw [s1.size]; omega)
          · exact .refl _
        generalize symL lt f a s b d1 = d2 at s2 ⊢
        refine s1.trans (s2.trans ?_)
        unfold symR
        split
        · exact ih _ _ b d2 (by omega) (by omega) (by rw [s2.size, s1.size]; exact h3)
        · exact .refl _

theorem insInner_swaps : ∀ (j a : Nat) (d : Array α), j < d.size ∨ j ≤ a → Swaps d (insInner lt a j d) := by
  intro j
  induction j with
  | zero => intro a d _; rw [insInner]; exact .refl d
  | succ j ih =>
    intro a d h
    rw [insInner]
    split
    · rename_i hc
      simp only [gt_iff_lt, Bool.and_eq_true, decide_eq_true_eq] at hc
      exact (Swaps.one (by omega) (by omega)).trans (ih a _ (by rw [size_swp]; omega))
    · exact .refl d
theorem insOuter_swaps : ∀ (q a b i : Nat) (d : Array α), b - i ≤ q → b ≤ d.size → Swaps d (insOuter lt a b i d) := by
  intro q
  induction q with
  | zero => intro a b i d h _; rw [insOuter_stop _ _ _ _ _ (by omega)]; exact .refl d
  | succ q ih =>
    intro a b i d h hb
    by_cases hlt : i < b
    · rw [insOuter_go _ _ _ _ _ hlt]
      have s := insInner_swaps lt i a d (by omega)
      exact s.trans (ih a b (i + 1) _ (by omega) (by rw [s.size]; exact hb))
    · rw [insOuter_stop _ _ _ _ _ hlt]; exact .refl d
theorem insertionSort_swaps (a b : Nat) (d : Array α) (hb : b ≤ d.size) : Swaps d (insertionSort lt d a b) := insOuter_swaps lt _ a b (a + 1) d (Nat.le_refl _) hb

theorem blkGo_swaps : ∀ (q n a : Nat) (d : Array α), n - a ≤ q → n ≤ d.size → Swaps d (blkGo lt n a d) := by
  intro q
  induction q with
  | zero => intro n a d h hn; rw [blkGo_stop _ (by omega)]; exact insertionSort_swaps lt _ _ d hn
  | succ q ih =>
    intro n a d h hn
    by_cases hlt : a + 20 ≤ n
    · rw [blkGo_go _ hlt]
      have s := insertionSort_swaps lt a (a + 20) d (by omega)
      exact s.trans (ih n (a + 20) _ (by omega) (by rw [s.size]; exact hn))
    · rw [blkGo_stop _ hlt]; exact insertionSort_swaps lt _ _ d hn
theorem mrgGo_swaps : ∀ (q n k a : Nat) (d : Array α), n - a ≤ q → n ≤ d.size → 0 < k → Swaps d (mrgGo lt n k a d) := by
  intro q
  induction q with
  | zero => intro n k a d h hn hk; rw [mrgGo_stop _ (by omega) (by omega)]; exact .refl d
  | succ q ih =>
    intro n k a d h hn hk
    by_cases hlt : a + 2 * k ≤ n
    · rw [mrgGo_go _ hk hlt]
      have s := symM_swaps lt (2 * k) a (a + k) (a + 2 * k) d (by omega) (by omega) (by omega)
      exact s.trans (ih n k (a + 2 * k) _ (by omega) (by rw [s.size]; exact hn) hk)
    · by_cases h2 : a + k < n
      · rw [mrgGo_last _ hlt h2]; exact symM_swaps lt _ _ _ _ d (by omega) (by omega) hn
      · rw [mrgGo_stop _ hlt h2]; exact .refl d
theorem dblGo_swaps : ∀ (q n k : Nat) (d : Array α), n - k ≤ q → n ≤ d.size → 0 < k → Swaps d (dblGo lt n k d) := by
  intro q
  induction q with
  | zero => intro n k d h hn hk; rw [dblGo_stop _ (by omega)]; exact .refl d
  | succ q ih =>
    intro n k d h hn hk
    by_cases hlt : k < n
    · rw [dblGo_go _ hk hlt]
      have s := mrgGo_swaps lt _ n k 0 d (Nat.le_refl _) hn hk
      exact s.trans (ih n (k * 2) _ (by omega) (by rw [s.size]; exact hn) (by omega))
    · rw [dblGo_stop _ hlt]; exact .refl d
theorem stableF_swaps (d : Array α) : Swaps d (stableF lt d) := by
  unfold stableF
  have s := blkGo_swaps lt _ d.size 0 d (Nat.le_refl _) (Nat.le_refl _)
  exact s.trans (dblGo_swaps lt _ _ 20 _ (Nat.le_refl _) (by rw [s.size]; exact Nat.le_refl _) (by omega))
theorem stableF_size (d : Array α) : (stableF lt d).size = d.size := (stableF_swaps lt d).size
theorem stableF_all {p : α → Prop} {d : Array α} (h : ∀ k, k < d.size → p d[k]!) : ∀ k, k < (stableF lt d).size → p (stableF lt d)[k]! := (stableF_swaps lt d).all h

end Go.Proofs.Ytfpcfpjnafnjiaa
