/-
  PLAIN: what slices.SortStableFunc does to a row, as a function of the row and of the order: blocks of twenty by insertion, then merging by exchanges. Nothing of the program.
-/
import Derived.Sort.WalkA
import Derived.Sort.Lot0
import Derived.Shelf.SlSortCmp.Insertion
import Derived.Test.YtokghdcfbbogdaaInts
import Derived.Shelf.SlSortCmp.Insertion1
namespace Go.Proofs.Ytokghdcfbbogdaa
open Go.Sort
variable {α : Type} [Inhabited α] (lt : α → α → Bool)

/-- swapRange, from the i-th pair on. -/
def swRange (a b n i : Nat) (d : Array α) : Array α := if i < n then swRange a b n (i + 1) (swp d (a + i) (b + i)) else d
termination_by n - i
theorem swRange_go {a b n i : Nat} {d : Array α} (h : i < n) : swRange a b n i d = swRange a b n (i + 1) (swp d (a + i) (b + i)) := by rw [swRange, if_pos h]
theorem swRange_stop {a b n i : Nat} {d : Array α} (h : ¬ i < n) : swRange a b n i d = d := by rw [swRange, if_neg h]

/-- rotate's loop. -/
def rotGo (m i j : Nat) (d : Array α) : Array α :=
  if _h : i = j ∨ i = 0 ∨ j = 0 then swRange (m - i) m i 0 d
  else if j < i then rotGo m (i - j) j (swRange (m - i) m j 0 d)
  else rotGo m i (j - i) (swRange (m - i) (m + j - i) i 0 d)
termination_by i + j
theorem rotGo_stop {m i : Nat} {d : Array α} : rotGo m i i d = swRange (m - i) m i 0 d := by rw [rotGo, dif_pos (Or.inl rfl)]
theorem rotGo_more {m i j : Nat} {d : Array α} (h : j < i) (hj : 0 < j) : rotGo m i j d = rotGo m (i - j) j (swRange (m - i) m j 0 d) := by rw [rotGo, dif_neg (by omega), if_pos h]
theorem rotGo_less {m i j : Nat} {d : Array α} (h : i < j) (hi : 0 < i) : rotGo m i j d = rotGo m i (j - i) (swRange (m - i) (m + j - i) i 0 d) := by rw [rotGo, dif_neg (by omega), if_neg (by omega)]

/-- The search by halves: the first place in [i, j) at which the test fails. -/
def half (f : Nat → Bool) (i j : Nat) : Nat := if i < j then (if f ((i + j) / 2) then half f ((i + j) / 2 + 1) j else half f i ((i + j) / 2)) else i
termination_by j - i
theorem half_yes {f : Nat → Bool} {i j : Nat} (h : i < j) (hf : f ((i + j) / 2) = true) : half f i j = half f ((i + j) / 2 + 1) j := by rw [half, if_pos h, if_pos hf]
theorem half_no {f : Nat → Bool} {i j : Nat} (h : i < j) (hf : f ((i + j) / 2) = false) : half f i j = half f i ((i + j) / 2) := by rw [half, if_pos h, if_neg (by simp [hf])]
theorem half_stop {f : Nat → Bool} {i j : Nat} (h : ¬ i < j) : half f i j = i := by rw [half, if_neg h]
theorem half_le (f : Nat → Bool) : ∀ (n i j : Nat), j - i ≤ n → i ≤ j → i ≤ half f i j ∧ half f i j ≤ j := by
  intro n
  induction n with
  | zero => intro i j h hi; rw [half_stop (by omega)]; omega
  | succ n ih =>
    intro i j h hi
    by_cases hlt : i < j
    · cases hf : f ((i + j) / 2) with
      | true => rw [half_yes hlt hf]; have := ih ((i + j) / 2 + 1) j (by omega) (by omega); omega
      | false => rw [half_no hlt hf]; have := ih i ((i + j) / 2) (by omega) (by omega); omega
    · rw [half_stop hlt]; omega
theorem half_ge {f : Nat → Bool} {i j : Nat} (h : i ≤ j) : i ≤ half f i j := (half_le f _ i j (Nat.le_refl _) h).1
theorem half_up {f : Nat → Bool} {i j : Nat} (h : i ≤ j) : half f i j ≤ j := (half_le f _ i j (Nat.le_refl _) h).2

/-- One element led upwards. -/
def upGo (k e : Nat) (d : Array α) : Array α := if k < e then upGo (k + 1) e (swp d k (k + 1)) else d
termination_by e - k
theorem upGo_go {k e : Nat} {d : Array α} (h : k < e) : upGo k e d = upGo (k + 1) e (swp d k (k + 1)) := by rw [upGo, if_pos h]
theorem upGo_stop {k e : Nat} {d : Array α} (h : ¬ k < e) : upGo k e d = d := by rw [upGo, if_neg h]
/-- One element led downwards. -/
def downGo (i k : Nat) (d : Array α) : Array α := if i < k then downGo i (k - 1) (swp d k (k - 1)) else d
termination_by k
theorem downGo_go {i k : Nat} {d : Array α} (h : i < k) : downGo i k d = downGo i (k - 1) (swp d k (k - 1)) := by rw [downGo, if_pos h]
theorem downGo_stop {i k : Nat} {d : Array α} (h : ¬ i < k) : downGo i k d = d := by rw [downGo, if_neg h]

/-- Where symMerge's search begins and ends. -/
def symLo (a m b : Nat) : Nat := if (a + b) / 2 < m then (a + b) / 2 + m - b else a
def symHi (a m b : Nat) : Nat := if (a + b) / 2 < m then (a + b) / 2 else m
/-- The place that symMerge's search finds. -/
def symAt (a m b : Nat) (d : Array α) : Nat := half (fun c => !lt d[(a + b) / 2 + m - 1 - c]! d[c]!) (symLo a m b) (symHi a m b)
def symRot (m s e : Nat) (d : Array α) : Array α := if s < m ∧ m < e then rotGo m (m - s) (e - m) d else d

/-- symMerge (the first number bounds its depth). -/
def symM : Nat → Nat → Nat → Nat → Array α → Array α
  | 0, _, _, _, d => d
  | f + 1, a, m, b, d =>
    if m - a = 1 then upGo a (half (fun h => lt d[h]! d[a]!) m b - 1) d
    else if b - m = 1 then downGo (half (fun h => !lt d[m]! d[h]!) a m) m d
    else
      let s := symAt lt a m b d
      let e := (a + b) / 2 + m - s
      let d1 := symRot m s e d
      let d2 := if a < s ∧ s < (a + b) / 2 then symM f a s ((a + b) / 2) d1 else d1
      if (a + b) / 2 < e ∧ e < b then symM f ((a + b) / 2) e b d2 else d2

theorem symM_one {f a m b : Nat} {d : Array α} (h : m - a = 1) : symM lt (f + 1) a m b d = upGo a (half (fun h => lt d[h]! d[a]!) m b - 1) d := by rw [symM, if_pos h]
theorem symM_last {f a m b : Nat} {d : Array α} (h : ¬ m - a = 1) (h2 : b - m = 1) : symM lt (f + 1) a m b d = downGo (half (fun h => !lt d[m]! d[h]!) a m) m d := by rw [symM, if_neg h, if_pos h2]
def symL (f a s b : Nat) (d : Array α) : Array α := if a < s ∧ s < (a + b) / 2 then symM lt f a s ((a + b) / 2) d else d
def symR (f s m a b : Nat) (d : Array α) : Array α := if (a + b) / 2 < (a + b) / 2 + m - s ∧ (a + b) / 2 + m - s < b then symM lt f ((a + b) / 2) ((a + b) / 2 + m - s) b d else d
theorem symM_more {f a m b s : Nat} {d : Array α} (h : ¬ m - a = 1) (h2 : ¬ b - m = 1) (hs : symAt lt a m b d = s) :
    symM lt (f + 1) a m b d = symR lt f s m a b (symL lt f a s b (symRot m s ((a + b) / 2 + m - s) d)) := by
  subst hs
  rw [symM, if_neg h, if_neg h2]; rfl

/-- Twenty by twenty. -/
def blkGo (n a : Nat) (d : Array α) : Array α := if a + 20 ≤ n then blkGo n (a + 20) (insertionSort lt d a (a + 20)) else insertionSort lt d a n
termination_by n - a
theorem blkGo_go {n a : Nat} {d : Array α} (h : a + 20 ≤ n) : blkGo lt n a d = blkGo lt n (a + 20) (insertionSort lt d a (a + 20)) := by rw [blkGo, if_pos h]
theorem blkGo_stop {n a : Nat} {d : Array α} (h : ¬ a + 20 ≤ n) : blkGo lt n a d = insertionSort lt d a n := by rw [blkGo, if_neg h]

/-- One go of merging, with blocks of k. -/
def mrgGo (n k a : Nat) (d : Array α) : Array α :=
  if _h : 0 < k ∧ a + 2 * k ≤ n then mrgGo n k (a + 2 * k) (symM lt (2 * k) a (a + k) (a + 2 * k) d)
  else if a + k < n then symM lt (n - a) a (a + k) n d else d
termination_by n - a
theorem mrgGo_go {n k a : Nat} {d : Array α} (hk : 0 < k) (h : a + 2 * k ≤ n) : mrgGo lt n k a d = mrgGo lt n k (a + 2 * k) (symM lt (2 * k) a (a + k) (a + 2 * k) d) := by rw [mrgGo, dif_pos ⟨hk, h⟩]
theorem mrgGo_last {n k a : Nat} {d : Array α} (h : ¬ a + 2 * k ≤ n) (h2 : a + k < n) : mrgGo lt n k a d = symM lt (n - a) a (a + k) n d := by rw [mrgGo, dif_neg (fun e => h e.2), if_pos h2]
theorem mrgGo_stop {n k a : Nat} {d : Array α} (h : ¬ a + 2 * k ≤ n) (h2 : ¬ a + k < n) : mrgGo lt n k a d = d := by rw [mrgGo, dif_neg (fun e => h e.2), if_neg h2]

/-- All goes of merging. -/
def dblGo (n k : Nat) (d : Array α) : Array α := if _h : 0 < k ∧ k < n then dblGo n (k * 2) (mrgGo lt n k 0 d) else d
termination_by n - k
theorem dblGo_go {n k : Nat} {d : Array α} (hk : 0 < k) (h : k < n) : dblGo lt n k d = dblGo lt n (k * 2) (mrgGo lt n k 0 d) := by rw [dblGo, dif_pos ⟨hk, h⟩]
theorem dblGo_stop {n k : Nat} {d : Array α} (h : ¬ k < n) : dblGo lt n k d = d := by rw [dblGo, dif_neg (fun e => h e.2)]

/-- What slices.SortStableFunc makes of a row. -/
def stableF (d : Array α) : Array α := dblGo lt d.size 20 (blkGo lt d.size 0 d)

/-! ### Behind any of these the row has its length, and holds what it held. -/
/-- One row comes of another by exchanges of places within it. -/
inductive Swaps : Array α → Array α → Prop
  | refl (d : Array α) : Swaps d d
  | step (d e : Array α) (i j : Nat) (hi : i < e.size) (hj : j < e.size) (h : Swaps d e) : Swaps d (swp e i j)
theorem Swaps.trans {d e f : Array α} (h : Swaps d e) (g : Swaps e f) : Swaps d f := by
  induction g with
  | refl => exact h
  | step e' i j hi hj _ ih => exact .step _ _ i j hi hj ih
theorem Swaps.size {d e : Array α} (h : Swaps d e) : e.size = d.size := by
  induction h with
  | refl => rfl
  | step e i j hi hj _ ih => rw [size_swp]; exact ih
theorem Swaps.one {d : Array α} {i j : Nat} (hi : i < d.size) (hj : j < d.size) : Swaps d (swp d i j) := .step _ _ i j hi hj (.refl d)
theorem all_swp {p : α → Prop} {d : Array α} {i j : Nat} (hi : i < d.size) (hj : j < d.size) (h : ∀ k, k < d.size → p d[k]!) : ∀ k, k < (swp d i j).size → p (swp d i j)[k]! := by
  intro k hk
  rw [size_swp] at hk
  unfold swp
  rw [getElem!_pos _ k (by simpa using hk), Array.getElem_setIfInBounds (by simpa using hk)]
  split
  · exact h i hi
  · rw [Array.getElem_setIfInBounds hk]
    split
    · exact h j hj
    · have := h k hk; rwa [getElem!_pos d k hk] at this
theorem Swaps.all {p : α → Prop} {d e : Array α} (g : Swaps d e) (h : ∀ k, k < d.size → p d[k]!) : ∀ k, k < e.size → p e[k]! := by
  induction g with
  | refl => exact h
  | step e i j hi hj _ ih => exact all_swp hi hj ih

theorem swRange_swaps : ∀ (q a b n i : Nat) (d : Array α), n - i ≤ q → a + n ≤ d.size → b + n ≤ d.size → Swaps d (swRange a b n i d) := by
  intro q
  induction q with
  | zero => intro a b n i d h _ _; rw [swRange_stop (by omega)]; exact .refl d
  | succ q ih =>
    intro a b n i d h ha hb
    by_cases hlt : i < n
    · rw [swRange_go hlt]
      exact (Swaps.one (by omega) (by omega)).trans (ih a b n (i + 1) _ (by omega) (by rw [size_swp]; exact ha) (by rw [size_swp]; exact hb))
    · rw [swRange_stop hlt]; exact .refl d
theorem rotGo_swaps : ∀ (q m i j : Nat) (d : Array α), i + j ≤ q → i ≤ m → m + j ≤ d.size → 0 < i → 0 < j → Swaps d (rotGo m i j d) := by
  intro q
  induction q with
  | zero => intro m i j d h _ _ _ _; omega
  | succ q ih =>
    intro m i j d h him hmj hi hj
    by_cases he : i = j
    · subst he; rw [rotGo_stop]; exact swRange_swaps _ _ _ _ _ d (Nat.le_refl _) (by omega) (by omega)
    · by_cases hlt : j < i
      · rw [rotGo_more hlt hj]
        have s := swRange_swaps _ (m - i) m j 0 d (Nat.le_refl _) (by omega) (by omega)
        exact s.trans (ih m (i - j) j _ (by omega) (by omega) (by rw [s.size]; omega) (by omega) hj)
      · rw [rotGo_less (by omega) hi]
        have s := swRange_swaps _ (m - i) (m + j - i) i 0 d (Nat.le_refl _) (by omega) (by omega)
        exact s.trans (ih m i (j - i) _ (by omega) (by omega) (by rw [s.size]; omega) hi (by omega))
theorem upGo_swaps : ∀ (q k e : Nat) (d : Array α), e - k ≤ q → e < d.size ∨ e ≤ k → Swaps d (upGo k e d) := by
  intro q
  induction q with
  | zero => intro k e d h _; rw [upGo_stop (by omega)]; exact .refl d
  | succ q ih =>
    intro k e d h he
    by_cases hlt : k < e
    · rw [upGo_go hlt]
      exact (Swaps.one (by omega) (by omega)).trans (ih (k + 1) e _ (by omega) (by rw [size_swp]; omega))
    · rw [upGo_stop hlt]; exact .refl d
theorem downGo_swaps : ∀ (k i : Nat) (d : Array α), k < d.size → Swaps d (downGo i k d) := by
  intro k
  induction k with
  | zero => intro i d _; rw [downGo_stop (by omega)]; exact .refl d
  | succ k ih =>
    intro i d h
    by_cases hlt : i < k + 1
    · rw [downGo_go hlt]
      exact (Swaps.one (by omega) (by omega)).trans (ih i _ (by rw [size_swp]; omega))
    · rw [downGo_stop hlt]; exact .refl d

/-- The bounds of symMerge's search. -/
theorem sym_bounds {a m b : Nat} (h1 : a < m) (h2 : m < b) : a ≤ symLo a m b ∧ symLo a m b ≤ symHi a m b ∧ symHi a m b ≤ m ∧ symHi a m b ≤ (a + b) / 2 ∧ (a + b) / 2 + m - symLo a m b ≤ b := by
  unfold symLo symHi
  split <;> omega
theorem symAt_bounds {a m b : Nat} (d : Array α) (h1 : a < m) (h2 : m < b) : a ≤ symAt lt a m b d ∧ symAt lt a m b d ≤ m ∧ symAt lt a m b d ≤ (a + b) / 2 ∧ (a + b) / 2 + m - symAt lt a m b d ≤ b := by
  have h := sym_bounds h1 h2
  have hg := half_ge (f := fun c => !lt d[(a + b) / 2 + m - 1 - c]! d[c]!) h.2.1
  have hu := half_up (f := fun c => !lt d[(a + b) / 2 + m - 1 - c]! d[c]!) h.2.1
  unfold symAt
  omega
theorem symRot_swaps {m s e : Nat} (d : Array α) (hs : e ≤ d.size) : Swaps d (symRot m s e d) := by
  unfold symRot
  split
  · exact rotGo_swaps _ m (m - s) (e - m) d (Nat.le_refl _) (by omega) (by omega) (by omega) (by omega)
  · exact .refl d
theorem symM_swaps : ∀ (f a m b : Nat) (d : Array α), a < m → m < b → b ≤ d.size → Swaps d (symM lt f a m b d) := by
  intro f
  induction f with
  | zero => intro a m b d _ _ _; exact .refl d
  | succ f ih =>
    intro a m b d h1 h2 h3
    by_cases e1 : m - a = 1
    · rw [symM_one lt e1]
      have hu := half_up (f := fun h => lt d[h]! d[a]!) (Nat.le_of_lt h2)
      have hg := half_ge (f := fun h => lt d[h]! d[a]!) (Nat.le_of_lt h2)
      exact upGo_swaps _ _ _ d (Nat.le_refl _) (by omega)
    · by_cases e2 : b - m = 1
      · rw [symM_last lt e1 e2]; exact downGo_swaps _ _ d (by omega)
      · have hb := symAt_bounds lt d h1 h2
        rw [symM_more lt e1 e2 rfl]
        generalize symAt lt a m b d = s at hb ⊢
        have s1 := symRot_swaps (m := m) (s := s) (e := (a + b) / 2 + m - s) d (by omega)
        generalize symRot m s ((a + b) / 2 + m - s) d = d1 at s1 ⊢
        have s2 : Swaps d1 (symL lt f a s b d1) := by
          unfold symL
          split
          · exact ih a s _ d1 (by omega) (by omega) (by rw [s1.size]; omega)
          · exact .refl _
        generalize symL lt f a s b d1 = d2 at s2 ⊢
        refine s1.trans (s2.trans ?_)
        unfold symR
        split
        · exact ih _ _ b d2 (by omega) (by omega) (by rw [s2.size, s1.size]; exact h3)
        · exact .refl _

theorem insInner_swaps : ∀ (j a : Nat) (d : Array α), j < d.size ∨ j ≤ a → Swaps d (insInner lt a j d) := by
  intro j
  induction j with
  | zero => intro a d _; rw [insInner]; exact .refl d
  | succ j ih =>
    intro a d h
    rw [insInner]
    split
    · rename_i hc
      simp only [gt_iff_lt, Bool.and_eq_true, decide_eq_true_eq] at hc
      exact (Swaps.one (by omega) (by omega)).trans (ih a _ (by rw [size_swp]; omega))
    · exact .refl d
theorem insOuter_swaps : ∀ (q a b i : Nat) (d : Array α), b - i ≤ q → b ≤ d.size → Swaps d (insOuter lt a b i d) := by
  intro q
  induction q with
  | zero => intro a b i d h _; rw [insOuter_stop _ _ _ _ _ (by omega)]; exact .refl d
  | succ q ih =>
    intro a b i d h hb
    by_cases hlt : i < b
    · rw [insOuter_go _ _ _ _ _ hlt]
      have s := insInner_swaps lt i a d (by omega)
      exact s.trans (ih a b (i + 1) _ (by omega) (by rw [s.size]; exact hb))
    · rw [insOuter_stop _ _ _ _ _ hlt]; exact .refl d
theorem insertionSort_swaps (a b : Nat) (d : Array α) (hb : b ≤ d.size) : Swaps d (insertionSort lt d a b) := insOuter_swaps lt _ a b (a + 1) d (Nat.le_refl _) hb

theorem blkGo_swaps : ∀ (q n a : Nat) (d : Array α), n - a ≤ q → n ≤ d.size → Swaps d (blkGo lt n a d) := by
  intro q
  induction q with
  | zero => intro n a d h hn; rw [blkGo_stop _ (by omega)]; exact insertionSort_swaps lt _ _ d hn
  | succ q ih =>
    intro n a d h hn
    by_cases hlt : a + 20 ≤ n
    · rw [blkGo_go _ hlt]
      have s := insertionSort_swaps lt a (a + 20) d (by omega)
      exact s.trans (ih n (a + 20) _ (by omega) (by rw [s.size]; exact hn))
    · rw [blkGo_stop _ hlt]; exact insertionSort_swaps lt _ _ d hn
theorem mrgGo_swaps : ∀ (q n k a : Nat) (d : Array α), n - a ≤ q → n ≤ d.size → 0 < k → Swaps d (mrgGo lt n k a d) := by
  intro q
  induction q with
  | zero => intro n k a d h hn hk; rw [mrgGo_stop _ (by omega) (by omega)]; exact .refl d
  | succ q ih =>
    intro n k a d h hn hk
    by_cases hlt : a + 2 * k ≤ n
    · rw [mrgGo_go _ hk hlt]
      have s := symM_swaps lt (2 * k) a (a + k) (a + 2 * k) d (by omega) (by omega) (by omega)
      exact s.trans (ih n k (a + 2 * k) _ (by omega) (by rw [s.size]; exact hn) hk)
    · by_cases h2 : a + k < n
      · rw [mrgGo_last _ hlt h2]; exact symM_swaps lt _ _ _ _ d (by omega) (by omega) hn
      · rw [mrgGo_stop _ hlt h2]; exact .refl d
theorem dblGo_swaps : ∀ (q n k : Nat) (d : Array α), n - k ≤ q → n ≤ d.size → 0 < k → Swaps d (dblGo lt n k d) := by
  intro q
  induction q with
  | zero => intro n k d h hn hk; rw [dblGo_stop _ (by omega)]; exact .refl d
  | succ q ih =>
    intro n k d h hn hk
    by_cases hlt : k < n
    · rw [dblGo_go _ hk hlt]
      have s := mrgGo_swaps lt _ n k 0 d (Nat.le_refl _) hn hk
      exact s.trans (ih n (k * 2) _ (by omega) (by rw [s.size]; exact hn) (by omega))
    · rw [dblGo_stop _ hlt]; exact .refl d
theorem stableF_swaps (d : Array α) : Swaps d (stableF lt d) := by
  unfold stableF
  have s := blkGo_swaps lt _ d.size 0 d (Nat.le_refl _) (Nat.le_refl _)
  exact s.trans (dblGo_swaps lt _ _ 20 _ (Nat.le_refl _) (by rw [s.size]; exact Nat.le_refl _) (by omega))
theorem stableF_size (d : Array α) : (stableF lt d).size = d.size := (stableF_swaps lt d).size
theorem stableF_all {p : α → Prop} {d : Array α} (h : ∀ k, k < d.size → p d[k]!) : ∀ k, k < (stableF lt d).size → p (stableF lt d)[k]! := (stableF_swaps lt d).all h

end Go.Proofs.Ytokghdcfbbogdaa
/-
  WALKS: slices.swapRangeCmpFunc and slices.rotateCmpFunc at ints.
-/
namespace Go.Proofs.Ytokghdcfbbogdaa
open Go.RowKit Go.Shelf Go.Lib Go.Sort

/-- How what stands for a number lies in a row. -/
abbrev encV {α : Type} (zf : α → Int) (x : α) : Value := .int .i64 (zf x)
theorem one_int {α : Type} (zf : α → Int) : OneCell (encV zf) := fun _ => rfl
variable {α : Type} [Inhabited α] {zf : α → Int}

set_option maxHeartbeats 4000000 in
set_option maxRecDepth 1000000 in
theorem swapRange_s (g : Nat) (cb : Array Value) (blk off cap a b n : Nat) (d0 d : Array α) (w0 w : World)
    (R : Row1 (encV zf) w0 blk off d0) (hs : d0.size = d.size) (S : SW (encV zf) w0 blk off d w) (ha : a + n ≤ d.size) (hb : b + n ≤ d.size) (hsz : d.size < 4611686018427387904) :
    Calls Try.prog 119 #[.slice (some ⟨blk, off, none⟩) d.size cap, .int .i64 a, .int .i64 b, .int .i64 n, .func (.func g) #[] cb] w fun e w' => e = .returned (.tuple #[]) ∧ SW (encV zf) w0 blk off (swRange a b n 0 d) w' := by
  have mixed : Try.prog.follows .mixedOrders = true := by kernel_rfl
  have S0 : Aside (SW (encV zf) w0 blk off d w) := S
  clear S
  go_enter Try.func119, Try.ntmps119
  go_wp2
  go_loopg [10] n (fun g1 vi wr => ∃ (i : Nat) (dk : Array α), vi = .int .i64 i ∧ n - i ≤ g1 ∧ dk.size = d.size ∧ Aside (SW (encV zf) w0 blk off dk wr) ∧ Hid (swRange a b n i dk = swRange a b n 0 d))
  case atStart => exact ⟨0, d, rfl, by omega, rfl, S0, rfl⟩
  case round =>
    clear S0
    obtain ⟨i, dk, rfl, hg1, hsk, S1, HO⟩ := hrel
    by_cases hlt : i < n
    · have hltz : (i : Int) < (n : Int) := by omega
      go_wp2_with fail
      obtain ⟨iN1, hiN1⟩ : ∃ qq, qq = a + i := ⟨_, rfl⟩
      obtain ⟨jN1, hjN1⟩ : ∃ qq, qq = b + i := ⟨_, rfl⟩
      have ea1 : ((a : Int) + (i : Int)).toNat = iN1 := by omega
      have pa1 : (0 : Int) ≤ (a : Int) + (i : Int) := by omega
      have ba1 : (a : Int) + (i : Int) < (d.size : Int) := by omega
      have ra1 : IntKind.i64.wrap ((a : Int) + (i : Int)) = (a : Int) + (i : Int) := by rw [IntKind.wrap_i64]; omega
      have ec1 : ((b : Int) + (i : Int)).toNat = jN1 := by omega
      have pc1 : (0 : Int) ≤ (b : Int) + (i : Int) := by omega
      have bc1 : (b : Int) + (i : Int) < (d.size : Int) := by omega
      have rc1 : IntKind.i64.wrap ((b : Int) + (i : Int)) = (b : Int) + (i : Int) := by rw [IntKind.wrap_i64]; omega
      obtain ⟨x1, hx1⟩ : ∃ x, x = dk[a + i]! := ⟨_, rfl⟩
      obtain ⟨y1, hy1⟩ : ∃ x, x = dk[b + i]! := ⟨_, rfl⟩
      have S2 : Aside (SW (encV zf) w0 blk off (swp dk (a + i) (b + i)) ((wr.setCell ⟨blk, off + iN1, none⟩ ((encV zf) y1)).setCell ⟨blk, off + jN1, none⟩ ((encV zf) x1)).drew) := by rw [hiN1, hjN1, hx1, hy1]; exact S1.out.swapped R (a + i) (b + i) (by omega) (by omega)
      have c1a := S1.out.c1 R (by omega) (a + i) (by omega)
      have c1b := S1.out.c1 R (by omega) (b + i) (by omega)
      have f1a := S1.out.f1 R (by omega) (a + i) (by omega)
      have f1b := S1.out.f1 R (by omega) (b + i) (by omega)
      obtain ⟨u1, c1c⟩ := S1.out.c2 R (by omega) (a + i) (b + i) (by omega) (by omega) ((encV zf) y1)
      rw [← hjN1, ← hiN1] at c1c
      rw [← hx1, ← hiN1] at c1a
      rw [← hy1, ← hjN1] at c1b
      rw [← hiN1] at f1a
      rw [← hjN1] at f1b
      clear S1 hx1 hy1 hiN1 hjN1
      go_wp2_with fail
      go_big_region_o
      clear c1a c1b c1c f1a f1b
      generalize ((wr.setCell ⟨blk, off + iN1, none⟩ ((encV zf) y1)).setCell ⟨blk, off + jN1, none⟩ ((encV zf) x1)).drew = w2 at S2 ⊢
      clear ea1 ec1
      go_wp2
      go_roundg (n - (i + 1))
      case measure => omega
      case rel => exact ⟨i + 1, swp dk (a + i) (b + i), by go_num, Nat.le_refl _, by rw [size_swp]; exact hsk, S2, (show Hid _ from by rw [← HO.out, swRange_go hlt]; exact rfl)⟩
    · have hltz : ¬ (i : Int) < (n : Int) := by omega
      go_wp2
      go_end0
      exact ⟨rfl, by rw [← HO.out, swRange_stop hlt]; exact S1.out⟩

/-- .. however its numbers are written. -/
theorem swapRange_i (g : Nat) (cb : Array Value) (blk off cap a b n N : Nat) (za zb zn : Int) (d0 d : Array α) (w0 w : World)
    (R : Row1 (encV zf) w0 blk off d0) (hs : d0.size = N) (hN : d.size = N) (S : SW (encV zf) w0 blk off d w) (ha : a + n ≤ N) (hb : b + n ≤ N) (hsz : N < 4611686018427387904) (ea : za = (a : Int)) (eb : zb = (b : Int)) (en : zn = (n : Int)) :
    Calls Try.prog 119 #[.slice (some ⟨blk, off, none⟩) N cap, .int .i64 za, .int .i64 zb, .int .i64 zn, .func (.func g) #[] cb] w fun e w' => e = .returned (.tuple #[]) ∧ SW (encV zf) w0 blk off (swRange a b n 0 d) w' := by
  subst ea eb en hN
  exact swapRange_s g cb blk off cap a b n d0 d w0 w R hs S ha hb hsz

set_option maxHeartbeats 4000000 in
set_option maxRecDepth 1000000 in
theorem rotate_s (g : Nat) (cb : Array Value) (blk off cap a m b : Nat) (d0 d : Array α) (w0 w : World)
    (R : Row1 (encV zf) w0 blk off d0) (hs : d0.size = d.size) (S : SW (encV zf) w0 blk off d w) (ha : a < m) (hb : m < b) (hbd : b ≤ d.size) (hsz : d.size < 4611686018427387904) :
    Calls Try.prog 117 #[.slice (some ⟨blk, off, none⟩) d.size cap, .int .i64 a, .int .i64 m, .int .i64 b, .func (.func g) #[] cb] w fun e w' => e = .returned (.tuple #[]) ∧ SW (encV zf) w0 blk off (rotGo m (m - a) (b - m) d) w' := by
  have mixed : Try.prog.follows .mixedOrders = true := by kernel_rfl
  have S0 : Aside (SW (encV zf) w0 blk off d w) := S
  clear S
  go_enter Try.func117, Try.ntmps117
  go_wp2
  go_loopg [10, 11] (b - a) (fun g1 vi vj wr => ∃ (i j : Nat) (dk : Array α), vi = .int .i64 i ∧ vj = .int .i64 j ∧ 0 < i ∧ 0 < j ∧ i ≤ m - a ∧ j ≤ b - m ∧ i + j ≤ g1 ∧ dk.size = d.size ∧ Aside (SW (encV zf) w0 blk off dk wr) ∧ Hid (rotGo m i j dk = rotGo m (m - a) (b - m) d))
  case atStart => exact ⟨m - a, b - m, d, by congr 1; omega, by congr 1; omega, by omega, by omega, Nat.le_refl _, Nat.le_refl _, by omega, rfl, S0, rfl⟩
  case round =>
    clear S0
    obtain ⟨i, j, dk, rfl, rfl, hi, hj, him, hjb, hg1, hsk, S1, HO⟩ := hrel
    by_cases heq : i = j
    · have hne : ((i : Int) == (j : Int)) = true := by simp [heq]
      have hne2 : (i : Int) = (j : Int) := by omega
      go_wp2_with (go_at_call 119; refine (swapRange_i g cb blk off cap (m - i) m i d.size _ _ _ d0 dk w0 _ R hs hsk S1.out (by omega) (by omega) hsz (by omega) (by omega) (by omega)).mono ?_; rintro e w' ⟨rfl, hS⟩)
      go_end0
      exact ⟨rfl, by rw [← HO.out, ← heq, rotGo_stop]; exact hS⟩
    · have hne : ((i : Int) == (j : Int)) = false := by simp; omega
      have hne2 : ¬ (i : Int) = (j : Int) := by omega
      by_cases hlt : j < i
      · have hltz : (j : Int) < (i : Int) := by omega
        go_wp2_with (go_at_call 119; refine (swapRange_i g cb blk off cap (m - i) m j d.size _ _ _ d0 dk w0 _ R hs hsk S1.out (by omega) (by omega) hsz (by omega) (by omega) (by omega)).mono ?_; rintro e w' ⟨rfl, hS⟩; have S2 : Aside _ := hS; clear hS S1)
        go_roundg i
        case measure => omega
        case rel => exact ⟨i - j, j, _, by go_num, rfl, by omega, hj, by omega, hjb, by omega, by rw [(swRange_swaps _ _ _ _ _ dk (Nat.le_refl _) (by omega) (by omega)).size]; exact hsk, S2, (show Hid _ from by rw [← HO.out, rotGo_more hlt hj]; exact rfl)⟩
      · have hltz : ¬ (j : Int) < (i : Int) := by omega
        go_wp2_with (go_at_call 119; refine (swapRange_i g cb blk off cap (m - i) (m + j - i) i d.size _ _ _ d0 dk w0 _ R hs hsk S1.out (by omega) (by omega) hsz (by omega) (by omega) (by omega)).mono ?_; rintro e w' ⟨rfl, hS⟩; have S2 : Aside _ := hS; clear hS S1)
        go_roundg j
        case measure => omega
        case rel => exact ⟨i, j - i, _, rfl, by go_num, hi, by omega, him, by omega, by omega, by rw [(swRange_swaps _ (m - i) (m + j - i) i 0 dk (Nat.le_refl _) (by omega) (by omega)).size]; exact hsk, S2, (show Hid _ from by rw [← HO.out, rotGo_less (show i < j by omega) hi]; exact rfl)⟩

end Go.Proofs.Ytokghdcfbbogdaa
/-
  WALKS: slices.symMergeCmpFunc at ints, of one element, and one.
-/
namespace Go.Proofs.Ytokghdcfbbogdaa
open Go.RowKit Go.Shelf Go.Lib Go.Sort
variable {α : Type} [Inhabited α] {zf : α → Int}

set_option maxHeartbeats 8000000 in
set_option maxRecDepth 1000000 in
/-- One element is led to its place. -/
theorem symMerge_one (g : Nat) (cb : Array Value) (cf : α → α → Int) (blk off cap N : Nat) (d0 : Array α) (w0 : World) (eg : ∀ args w, (callFunc g args).run Try.prog w = .ok (.enter g args) w) (hcmp : CmpLays1 Try.prog g cb (encV zf) cf blk off N w0) (R : Row1 (encV zf) w0 blk off d0) (hs : d0.size = N) (hsz : N < 4611686018427387904)
    (f a m b : Nat) (d : Array α) (w : World) (hN : d.size = N) (S : SW (encV zf) w0 blk off d w) (h1 : a < m) (h2 : m < b) (h3 : b ≤ N) (e1 : m - a = 1) :
    Calls Try.prog 111 #[.slice (some ⟨blk, off, none⟩) N cap, .int .i64 a, .int .i64 m, .int .i64 b, .func (.func g) #[] cb] w fun e w' => e = .returned (.tuple #[]) ∧ SW (encV zf) w0 blk off (symM (ltOf cf) (f + 1) a m b d) w' := by
  rw [symM_one _ e1]
  have mixed : Try.prog.follows .mixedOrders = true := by kernel_rfl
  have HC : Aside _ := hcmp
  have S0 : Aside (SW (encV zf) w0 blk off d w) := S
  clear S hcmp
  have t1 : (m : Int) - (a : Int) = 1 := by omega
  go_enter Try.func111, Try.ntmps111
  go_wp2
  go_loopg [10, 11] b (fun g1 vi vj wr => ∃ (i j : Nat), vi = .int .i64 i ∧ vj = .int .i64 j ∧ m ≤ i ∧ i ≤ j ∧ j ≤ b ∧ j - i ≤ g1 ∧ Aside (SW (encV zf) w0 blk off d wr) ∧ Hid (half (fun h => ltOf cf d[h]! d[a]!) i j = half (fun h => ltOf cf d[h]! d[a]!) m b))
  case atStart => exact ⟨m, b, rfl, rfl, Nat.le_refl _, by omega, Nat.le_refl _, by omega, S0, rfl⟩
  case round =>
    clear S0
    obtain ⟨i, j, rfl, rfl, hmi, hij, hjb, hg1, S1, HO⟩ := hrel
    by_cases hlt : i < j
    · have hltz : (i : Int) < (j : Int) := by omega
      cases hlv : ltOf cf d[(i + j) / 2]! d[a]! with
      | true =>
        have HO2 : Hid (half (fun h => ltOf cf d[h]! d[a]!) ((i + j) / 2 + 1) j = half (fun h => ltOf cf d[h]! d[a]!) m b) := by show _ = _; rw [← HO.out, half_yes (i := i) (j := j) hlt hlv]
        clear HO
        obtain ⟨iN1, hiN1⟩ : ∃ qq, qq = (i + j) / 2 := ⟨_, rfl⟩
        obtain ⟨jN1, hjN1⟩ : ∃ qq, qq = a := ⟨_, rfl⟩
        have ea1 : (((i : Int) + (j : Int)) / 2).toNat = iN1 := by omega
        have pa1 : (0 : Int) ≤ ((i : Int) + (j : Int)) / 2 := by omega
        have ba1 : ((i : Int) + (j : Int)) / 2 < (N : Int) := by omega
        have ra1 : IntKind.i64.wrap (((i : Int) + (j : Int)) / 2) = ((i : Int) + (j : Int)) / 2 := by rw [IntKind.wrap_i64]; omega
        have ec1 : ((a : Int)).toNat = jN1 := by omega
        have pc1 : (0 : Int) ≤ (a : Int) := by omega
        have bc1 : (a : Int) < (N : Int) := by omega
        have rc1 : IntKind.i64.wrap ((a : Int)) = (a : Int) := by rw [IntKind.wrap_i64]; omega
        obtain ⟨x1, hx1⟩ : ∃ x, x = d[(i + j) / 2]! := ⟨_, rfl⟩
        obtain ⟨y1, hy1⟩ : ∃ x, x = d[a]! := ⟨_, rfl⟩
        have l1a := S1.out.cl R (by omega) ((i + j) / 2) (by omega)
        have l1b := S1.out.cl R (by omega) (a) (by omega)
        rw [← hx1, ← hiN1] at l1a
        rw [← hy1, ← hjN1] at l1b
        have hc1 := S1.out.cmp HC.out (by omega) x1 y1
        have hv1 : cf x1 y1 < 0 := by rw [hx1, hy1]; exact of_decide_eq_true hlv
        have hd1 : decide (cf x1 y1 < 0) = true := decide_eq_true hv1
        clear hx1 hy1 hiN1 hjN1
        go_wp2_with fail
        go_quiet_grown (first | (go_at_fn g; refine Calls.grown_of (hc1 _ _)))
        have S2 : Aside (SW (encV zf) w0 blk off d (grow (wr.drewN nq) osq)) := S1.out.grown nq osq
        clear l1a l1b hc1 S1
        generalize grow (wr.drewN nq) osq = w2 at S2 ⊢
        clear nq osq
        clear ea1 ec1
        go_wp2
        go_roundg (j - ((i + j) / 2 + 1))
        case measure => omega
        case rel => exact ⟨(i + j) / 2 + 1, j, by go_num, rfl, by omega, by omega, hjb, Nat.le_refl _, S2, HO2⟩
      | false =>
        have HO2 : Hid (half (fun h => ltOf cf d[h]! d[a]!) i ((i + j) / 2) = half (fun h => ltOf cf d[h]! d[a]!) m b) := by show _ = _; rw [← HO.out, half_no (i := i) (j := j) hlt hlv]
        clear HO
        obtain ⟨iN2, hiN2⟩ : ∃ qq, qq = (i + j) / 2 := ⟨_, rfl⟩
        obtain ⟨jN2, hjN2⟩ : ∃ qq, qq = a := ⟨_, rfl⟩
        have ea2 : (((i : Int) + (j : Int)) / 2).toNat = iN2 := by omega
        have pa2 : (0 : Int) ≤ ((i : Int) + (j : Int)) / 2 := by omega
        have ba2 : ((i : Int) + (j : Int)) / 2 < (N : Int) := by omega
        have ra2 : IntKind.i64.wrap (((i : Int) + (j : Int)) / 2) = ((i : Int) + (j : Int)) / 2 := by rw [IntKind.wrap_i64]; omega
        have ec2 : ((a : Int)).toNat = jN2 := by omega
        have pc2 : (0 : Int) ≤ (a : Int) := by omega
        have bc2 : (a : Int) < (N : Int) := by omega
        have rc2 : IntKind.i64.wrap ((a : Int)) = (a : Int) := by rw [IntKind.wrap_i64]; omega
        obtain ⟨x2, hx2⟩ : ∃ x, x = d[(i + j) / 2]! := ⟨_, rfl⟩
        obtain ⟨y2, hy2⟩ : ∃ x, x = d[a]! := ⟨_, rfl⟩
        have l2a := S1.out.cl R (by omega) ((i + j) / 2) (by omega)
        have l2b := S1.out.cl R (by omega) (a) (by omega)
        rw [← hx2, ← hiN2] at l2a
        rw [← hy2, ← hjN2] at l2b
        have hc2 := S1.out.cmp HC.out (by omega) x2 y2
        have hv2 : ¬ cf x2 y2 < 0 := by rw [hx2, hy2]; exact of_decide_eq_false hlv
        have hd2 : decide (cf x2 y2 < 0) = false := decide_eq_false hv2
        clear hx2 hy2 hiN2 hjN2
        go_wp2_with fail
        go_quiet_grown (first | (go_at_fn g; refine Calls.grown_of (hc2 _ _)))
        have S2 : Aside (SW (encV zf) w0 blk off d (grow (wr.drewN nq) osq)) := S1.out.grown nq osq
        clear l2a l2b hc2 S1
        generalize grow (wr.drewN nq) osq = w2 at S2 ⊢
        clear nq osq
        clear ea2 ec2
        go_wp2
        go_roundg ((i + j) / 2 - i)
        case measure => omega
        case rel => exact ⟨i, (i + j) / 2, rfl, by go_num, hmi, by omega, by omega, Nat.le_refl _, S2, HO2⟩
    · have hltz : ¬ (i : Int) < (j : Int) := by omega
      have HI : Hid (i = half (fun h => ltOf cf d[h]! d[a]!) m b) := by show _ = _; rw [← HO.out, half_stop hlt]
      clear HO
      go_wp2
      go_loopg [13] b (fun g2 vk wr2 => ∃ (k : Nat) (dk : Array α), vk = .int .i64 k ∧ a ≤ k ∧ b - k ≤ g2 ∧ dk.size = N ∧ Aside (SW (encV zf) w0 blk off dk wr2) ∧ Hid (upGo k (i - 1) dk = upGo a (i - 1) d))
      case atStart => exact ⟨a, d, rfl, Nat.le_refl _, by omega, hN, S1, rfl⟩
      case round =>
        clear S1
        obtain ⟨k, dk, rfl, hak, hg2, hsk, S1, HU⟩ := hrel
        by_cases hk : k < i - 1
        · have hkz : (k : Int) < (i : Int) - 1 := by omega
          go_wp2_with fail
          obtain ⟨iN3, hiN3⟩ : ∃ qq, qq = k := ⟨_, rfl⟩
          obtain ⟨jN3, hjN3⟩ : ∃ qq, qq = k + 1 := ⟨_, rfl⟩
          have ea3 : ((k : Int)).toNat = iN3 := by omega
          have pa3 : (0 : Int) ≤ (k : Int) := by omega
          have ba3 : (k : Int) < (N : Int) := by omega
          have ra3 : IntKind.i64.wrap ((k : Int)) = (k : Int) := by rw [IntKind.wrap_i64]; omega
          have ec3 : ((k : Int) + 1).toNat = jN3 := by omega
          have pc3 : (0 : Int) ≤ (k : Int) + 1 := by omega
          have bc3 : (k : Int) + 1 < (N : Int) := by omega
          have rc3 : IntKind.i64.wrap ((k : Int) + 1) = (k : Int) + 1 := by rw [IntKind.wrap_i64]; omega
          obtain ⟨x3, hx3⟩ : ∃ x, x = dk[k]! := ⟨_, rfl⟩
          obtain ⟨y3, hy3⟩ : ∃ x, x = dk[k + 1]! := ⟨_, rfl⟩
          have S2 : Aside (SW (encV zf) w0 blk off (swp dk (k) (k + 1)) ((wr.setCell ⟨blk, off + iN3, none⟩ ((encV zf) y3)).setCell ⟨blk, off + jN3, none⟩ ((encV zf) x3)).drew) := by rw [hiN3, hjN3, hx3, hy3]; exact S1.out.swapped R (k) (k + 1) (by omega) (by omega)
          have c3a := S1.out.c1 R (by omega) (k) (by omega)
          have c3b := S1.out.c1 R (by omega) (k + 1) (by omega)
          have f3a := S1.out.f1 R (by omega) (k) (by omega)
          have f3b := S1.out.f1 R (by omega) (k + 1) (by omega)
          obtain ⟨u3, c3c⟩ := S1.out.c2 R (by omega) (k) (k + 1) (by omega) (by omega) ((encV zf) y3)
          rw [← hjN3, ← hiN3] at c3c
          rw [← hx3, ← hiN3] at c3a
          rw [← hy3, ← hjN3] at c3b
          rw [← hiN3] at f3a
          rw [← hjN3] at f3b
          clear S1 hx3 hy3 hiN3 hjN3
          go_wp2_with fail
          go_big_region_o
          clear c3a c3b c3c f3a f3b
          generalize ((wr.setCell ⟨blk, off + iN3, none⟩ ((encV zf) y3)).setCell ⟨blk, off + jN3, none⟩ ((encV zf) x3)).drew = w3 at S2 ⊢
          clear ea3 ec3
          go_wp2
          go_roundg (b - (k + 1))
          case measure => omega
          case rel => exact ⟨k + 1, swp dk k (k + 1), by go_num, by omega, Nat.le_refl _, by rw [size_swp]; exact hsk, S2, (show Hid _ from by rw [← HU.out, upGo_go (k := k) hk]; exact rfl)⟩
        · have hkz : ¬ (k : Int) < (i : Int) - 1 := by omega
          go_wp2
          go_returns
          exact ⟨rfl, by rw [← HI.out, ← HU.out, upGo_stop hk]; exact S1.out⟩

end Go.Proofs.Ytokghdcfbbogdaa
/-
  WALKS: slices.symMergeCmpFunc at ints, of some elements and one.
-/
namespace Go.Proofs.Ytokghdcfbbogdaa
open Go.RowKit Go.Shelf Go.Lib Go.Sort
variable {α : Type} [Inhabited α] {zf : α → Int}

set_option maxHeartbeats 8000000 in
set_option maxRecDepth 1000000 in
/-- The last element is led to its place. -/
theorem symMerge_last (g : Nat) (cb : Array Value) (cf : α → α → Int) (blk off cap N : Nat) (d0 : Array α) (w0 : World) (eg : ∀ args w, (callFunc g args).run Try.prog w = .ok (.enter g args) w) (hcmp : CmpLays1 Try.prog g cb (encV zf) cf blk off N w0) (R : Row1 (encV zf) w0 blk off d0) (hs : d0.size = N) (hsz : N < 4611686018427387904)
    (f a m b : Nat) (d : Array α) (w : World) (hN : d.size = N) (S : SW (encV zf) w0 blk off d w) (h1 : a < m) (h2 : m < b) (h3 : b ≤ N) (e1 : ¬ m - a = 1) (e2 : b - m = 1) :
    Calls Try.prog 111 #[.slice (some ⟨blk, off, none⟩) N cap, .int .i64 a, .int .i64 m, .int .i64 b, .func (.func g) #[] cb] w fun e w' => e = .returned (.tuple #[]) ∧ SW (encV zf) w0 blk off (symM (ltOf cf) (f + 1) a m b d) w' := by
  rw [symM_last _ e1 e2]
  have mixed : Try.prog.follows .mixedOrders = true := by kernel_rfl
  have HC : Aside _ := hcmp
  have S0 : Aside (SW (encV zf) w0 blk off d w) := S
  clear S hcmp
  have t1 : ((m : Int) - (a : Int) == 1) = false := by simp; omega
  have t2 : ((b : Int) - (m : Int) == 1) = true := by simp; omega
  go_enter Try.func111, Try.ntmps111
  go_wp2
  go_loopg [14, 15] b (fun g1 vi vj wr => ∃ (i j : Nat), vi = .int .i64 i ∧ vj = .int .i64 j ∧ a ≤ i ∧ i ≤ j ∧ j ≤ m ∧ j - i ≤ g1 ∧ Aside (SW (encV zf) w0 blk off d wr) ∧ Hid (half (fun h => !ltOf cf d[m]! d[h]!) i j = half (fun h => !ltOf cf d[m]! d[h]!) a m))
  case atStart => exact ⟨a, m, rfl, rfl, Nat.le_refl _, by omega, Nat.le_refl _, by omega, S0, rfl⟩
  case round =>
    clear S0
    obtain ⟨i, j, rfl, rfl, hmi, hij, hjb, hg1, S1, HO⟩ := hrel
    by_cases hlt : i < j
    · have hltz : (i : Int) < (j : Int) := by omega
      cases hlv : ltOf cf d[m]! d[(i + j) / 2]! with
      | false =>
        have HO2 : Hid (half (fun h => !ltOf cf d[m]! d[h]!) ((i + j) / 2 + 1) j = half (fun h => !ltOf cf d[m]! d[h]!) a m) := by show _ = _; rw [← HO.out, half_yes (i := i) (j := j) hlt (by rw [hlv]; rfl)]
        clear HO
        obtain ⟨iN1, hiN1⟩ : ∃ qq, qq = m := ⟨_, rfl⟩
        obtain ⟨jN1, hjN1⟩ : ∃ qq, qq = (i + j) / 2 := ⟨_, rfl⟩
        have ea1 : ((m : Int)).toNat = iN1 := by omega
        have pa1 : (0 : Int) ≤ (m : Int) := by omega
        have ba1 : (m : Int) < (N : Int) := by omega
        have ra1 : IntKind.i64.wrap ((m : Int)) = (m : Int) := by rw [IntKind.wrap_i64]; omega
        have ec1 : (((i : Int) + (j : Int)) / 2).toNat = jN1 := by omega
        have pc1 : (0 : Int) ≤ ((i : Int) + (j : Int)) / 2 := by omega
        have bc1 : ((i : Int) + (j : Int)) / 2 < (N : Int) := by omega
        have rc1 : IntKind.i64.wrap (((i : Int) + (j : Int)) / 2) = ((i : Int) + (j : Int)) / 2 := by rw [IntKind.wrap_i64]; omega
        obtain ⟨x1, hx1⟩ : ∃ x, x = d[m]! := ⟨_, rfl⟩
        obtain ⟨y1, hy1⟩ : ∃ x, x = d[(i + j) / 2]! := ⟨_, rfl⟩
        have l1a := S1.out.cl R (by omega) (m) (by omega)
        have l1b := S1.out.cl R (by omega) ((i + j) / 2) (by omega)
        rw [← hx1, ← hiN1] at l1a
        rw [← hy1, ← hjN1] at l1b
        have hc1 := S1.out.cmp HC.out (by omega) x1 y1
        have hv1 : ¬ cf x1 y1 < 0 := by rw [hx1, hy1]; exact of_decide_eq_false hlv
        have hd1 : decide (cf x1 y1 < 0) = false := decide_eq_false hv1
        clear hx1 hy1 hiN1 hjN1
        go_wp2_with fail
        go_quiet_grown (first | (go_at_fn g; refine Calls.grown_of (hc1 _ _)))
        have S2 : Aside (SW (encV zf) w0 blk off d (grow (wr.drewN nq) osq)) := S1.out.grown nq osq
        clear l1a l1b hc1 S1
        generalize grow (wr.drewN nq) osq = w2 at S2 ⊢
        clear nq osq
        clear ea1 ec1
        go_wp2
        go_roundg (j - ((i + j) / 2 + 1))
        case measure => omega
        case rel => exact ⟨(i + j) / 2 + 1, j, by go_num, rfl, by omega, by omega, hjb, Nat.le_refl _, S2, HO2⟩
      | true =>
        have HO2 : Hid (half (fun h => !ltOf cf d[m]! d[h]!) i ((i + j) / 2) = half (fun h => !ltOf cf d[m]! d[h]!) a m) := by show _ = _; rw [← HO.out, half_no (i := i) (j := j) hlt (by rw [hlv]; rfl)]
        clear HO
        obtain ⟨iN2, hiN2⟩ : ∃ qq, qq = m := ⟨_, rfl⟩
        obtain ⟨jN2, hjN2⟩ : ∃ qq, qq = (i + j) / 2 := ⟨_, rfl⟩
        have ea2 : ((m : Int)).toNat = iN2 := by omega
        have pa2 : (0 : Int) ≤ (m : Int) := by omega
        have ba2 : (m : Int) < (N : Int) := by omega
        have ra2 : IntKind.i64.wrap ((m : Int)) = (m : Int) := by rw [IntKind.wrap_i64]; omega
        have ec2 : (((i : Int) + (j : Int)) / 2).toNat = jN2 := by omega
        have pc2 : (0 : Int) ≤ ((i : Int) + (j : Int)) / 2 := by omega
        have bc2 : ((i : Int) + (j : Int)) / 2 < (N : Int) := by omega
        have rc2 : IntKind.i64.wrap (((i : Int) + (j : Int)) / 2) = ((i : Int) + (j : Int)) / 2 := by rw [IntKind.wrap_i64]; omega
        obtain ⟨x2, hx2⟩ : ∃ x, x = d[m]! := ⟨_, rfl⟩
        obtain ⟨y2, hy2⟩ : ∃ x, x = d[(i + j) / 2]! := ⟨_, rfl⟩
        have l2a := S1.out.cl R (by omega) (m) (by omega)
        have l2b := S1.out.cl R (by omega) ((i + j) / 2) (by omega)
        rw [← hx2, ← hiN2] at l2a
        rw [← hy2, ← hjN2] at l2b
        have hc2 := S1.out.cmp HC.out (by omega) x2 y2
        have hv2 : cf x2 y2 < 0 := by rw [hx2, hy2]; exact of_decide_eq_true hlv
        have hd2 : decide (cf x2 y2 < 0) = true := decide_eq_true hv2
        clear hx2 hy2 hiN2 hjN2
        go_wp2_with fail
        go_quiet_grown (first | (go_at_fn g; refine Calls.grown_of (hc2 _ _)))
        have S2 : Aside (SW (encV zf) w0 blk off d (grow (wr.drewN nq) osq)) := S1.out.grown nq osq
        clear l2a l2b hc2 S1
        generalize grow (wr.drewN nq) osq = w2 at S2 ⊢
        clear nq osq
        clear ea2 ec2
        go_wp2
        go_roundg ((i + j) / 2 - i)
        case measure => omega
        case rel => exact ⟨i, (i + j) / 2, rfl, by go_num, hmi, by omega, by omega, Nat.le_refl _, S2, HO2⟩
    · have hltz : ¬ (i : Int) < (j : Int) := by omega
      have HI : Hid (i = half (fun h => !ltOf cf d[m]! d[h]!) a m) := by show _ = _; rw [← HO.out, half_stop hlt]
      clear HO
      go_wp2
      go_loopg [17] m (fun g2 vk wr2 => ∃ (k : Nat) (dk : Array α), vk = .int .i64 k ∧ k ≤ m ∧ k ≤ g2 ∧ dk.size = N ∧ Aside (SW (encV zf) w0 blk off dk wr2) ∧ Hid (downGo i k dk = downGo i m d))
      case atStart => exact ⟨m, d, rfl, Nat.le_refl _, Nat.le_refl _, hN, S1, rfl⟩
      case round =>
        clear S1
        obtain ⟨k, dk, rfl, hak, hg2, hsk, S1, HU⟩ := hrel
        by_cases hk : i < k
        · have hkz : (i : Int) < (k : Int) := by omega
          obtain ⟨kp, hkp⟩ : ∃ q, q + 1 = k := ⟨k - 1, by omega⟩
          have zkp : (k : Int) = (kp : Int) + 1 := by omega
          have hkz2 : (i : Int) < (kp : Int) + 1 := by omega
          go_wp2_with fail
          obtain ⟨iN3, hiN3⟩ : ∃ qq, qq = k := ⟨_, rfl⟩
          obtain ⟨jN3, hjN3⟩ : ∃ qq, qq = k - 1 := ⟨_, rfl⟩
          have ea3 : ((kp : Int) + 1).toNat = iN3 := by omega
          have pa3 : (0 : Int) ≤ (kp : Int) + 1 := by omega
          have ba3 : (kp : Int) + 1 < (N : Int) := by omega
          have ra3 : IntKind.i64.wrap ((kp : Int) + 1) = (kp : Int) + 1 := by rw [IntKind.wrap_i64]; omega
          have ec3 : ((kp : Int)).toNat = jN3 := by omega
          have pc3 : (0 : Int) ≤ (kp : Int) := by omega
          have bc3 : (kp : Int) < (N : Int) := by omega
          have rc3 : IntKind.i64.wrap ((kp : Int)) = (kp : Int) := by rw [IntKind.wrap_i64]; omega
          obtain ⟨x3, hx3⟩ : ∃ x, x = dk[k]! := ⟨_, rfl⟩
          obtain ⟨y3, hy3⟩ : ∃ x, x = dk[k - 1]! := ⟨_, rfl⟩
          have S2 : Aside (SW (encV zf) w0 blk off (swp dk (k) (k - 1)) ((wr.setCell ⟨blk, off + iN3, none⟩ ((encV zf) y3)).setCell ⟨blk, off + jN3, none⟩ ((encV zf) x3)).drew) := by rw [hiN3, hjN3, hx3, hy3]; exact S1.out.swapped R (k) (k - 1) (by omega) (by omega)
          have c3a := S1.out.c1 R (by omega) (k) (by omega)
          have c3b := S1.out.c1 R (by omega) (k - 1) (by omega)
          have f3a := S1.out.f1 R (by omega) (k) (by omega)
          have f3b := S1.out.f1 R (by omega) (k - 1) (by omega)
          obtain ⟨u3, c3c⟩ := S1.out.c2 R (by omega) (k) (k - 1) (by omega) (by omega) ((encV zf) y3)
          rw [← hjN3, ← hiN3] at c3c
          rw [← hx3, ← hiN3] at c3a
          rw [← hy3, ← hjN3] at c3b
          rw [← hiN3] at f3a
          rw [← hjN3] at f3b
          clear S1 hx3 hy3 hiN3 hjN3
          go_wp2_with fail
          go_big_region_o
          clear c3a c3b c3c f3a f3b
          generalize ((wr.setCell ⟨blk, off + iN3, none⟩ ((encV zf) y3)).setCell ⟨blk, off + jN3, none⟩ ((encV zf) x3)).drew = w3 at S2 ⊢
          clear ea3 ec3
          go_wp2
          go_roundg (k - 1)
          case measure => omega
          case rel => exact ⟨k - 1, swp dk k (k - 1), by first | rfl | go_num | (congr 1; omega), by omega, Nat.le_refl _, by rw [size_swp]; exact hsk, S2, (show Hid _ from by rw [← HU.out, downGo_go (k := k) hk]; exact rfl)⟩
        · have hkz : ¬ (i : Int) < (k : Int) := by omega
          go_wp2
          go_returns
          exact ⟨rfl, by rw [← HI.out, ← HU.out, downGo_stop hk]; exact S1.out⟩

end Go.Proofs.Ytokghdcfbbogdaa
