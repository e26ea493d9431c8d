/-
  PLAIN: what slices.SortStableFunc makes of a row is in order (equal ones stay as they were, if the order says so). Nothing of the program.
-/
import Derived.Test.YtfpcfpjnafnjiaaStp
set_option linter.all false
namespace Go.Proofs.Ytfpcfpjnafnjiaa
open Go.Sort

section
variable {α : Type} [Inhabited α]
theorem ix {d : Array α} {x y : Nat} (h : x = y) : d[x]! = d[y]! := by rw [h]
theorem swp_get {d : Array α} {i j : Nat} (hi : i < d.size) (hj : j < d.size) (k : Nat) : (swp d i j)[k]! = if k = j then d[i]! else if k = i then d[j]! else d[k]! := by
  by_cases hk : k < d.size
  · unfold swp
    rw [getElem!_pos _ k (by simpa using hk), Array.getElem_setIfInBounds (by simpa using hk)]
    by_cases h1 : j = k
    · rw [if_pos h1, if_pos h1.symm]
    · rw [if_neg h1, if_neg (fun h => h1 h.symm), Array.getElem_setIfInBounds hk]
      by_cases h2 : i = k
      · rw [if_pos h2, if_pos h2.symm]
      · rw [if_neg h2, if_neg (fun h => h2 h.symm), getElem!_pos d k hk]
  · rw [if_neg (by omega), if_neg (by omega), getElem!_neg _ k (by rw [size_swp]; exact hk), getElem!_neg d k hk]
theorem swRange_get : ∀ (q a b n i : Nat) (d : Array α), n - i ≤ q → i ≤ n → a + n ≤ b → b + n ≤ d.size → ∀ k, (swRange a b n i d)[k]! = if a + i ≤ k ∧ k < a + n then d[k + (b - a)]! else if b + i ≤ k ∧ k < b + n then d[k - (b - a)]! else d[k]! := by
  intro q
  induction q with
  | zero =>
    intro a b n i d h hi _ _ k
    rw [swRange_stop (by omega), if_neg (by omega), if_neg (by omega)]
  | succ q ih =>
    intro a b n i d h hi hab hb k
    by_cases hlt : i < n
    · rw [swRange_go hlt, ih a b n (i + 1) _ (by omega) (by omega) hab (by rw [size_swp]; exact hb)]
      have hg := swp_get (d := d) (i := a + i) (j := b + i) (by omega) (by omega)
      by_cases h1 : a + (i + 1) ≤ k ∧ k < a + n
      · rw [if_pos h1, if_pos (by omega), hg, if_neg (by omega), if_neg (by omega)]
      · rw [if_neg h1]
        by_cases h2 : b + (i + 1) ≤ k ∧ k < b + n
        · rw [if_pos h2, if_neg (by omega), if_pos (by omega), hg, if_neg (by omega), if_neg (by omega)]
        · rw [if_neg h2, hg]
          by_cases h3 : k = b + i
          · rw [if_pos h3, if_neg (by omega), if_pos (by omega)]
            exact ix (by omega)
          · rw [if_neg h3]
            by_cases h4 : k = a + i
            · rw [if_pos h4, if_pos (by omega)]
              exact ix (by omega)
            · rw [if_neg h4, if_neg (by omega), if_neg (by omega)]
    · rw [swRange_stop hlt, if_neg (by omega), if_neg (by omega)]
theorem swRange_size {a b n i : Nat} {d : Array α} (ha : a + n ≤ d.size) (hb : b + n ≤ d.size) : (swRange a b n i d).size = d.size := (swRange_swaps _ a b n i d (Nat.le_refl _) ha hb).size
theorem rotGo_get : ∀ (q m i j : Nat) (d : Array α), i + j ≤ q → i ≤ m → m + j ≤ d.size → 0 < i → 0 < j → ∀ k, (rotGo m i j d)[k]! = if m - i ≤ k ∧ k < m - i + j then d[k + i]! else if m - i + j ≤ k ∧ k < m + j then d[k - j]! else d[k]! := by
  intro q
  induction q with
  | zero => intro m i j d h _ _ _ _; omega
  | succ q ih =>
    intro m i j d h him hmj hi hj k
    by_cases he : i = j
    · subst he
      rw [rotGo_stop, swRange_get _ (m - i) m i 0 d (Nat.le_refl _) (by omega) (by omega) (by omega)]
      by_cases h1 : m - i ≤ k ∧ k < m - i + i
      · rw [if_pos (by omega), if_pos h1]; exact ix (by omega)
      · rw [if_neg (by omega), if_neg h1]
        by_cases h2 : m - i + i ≤ k ∧ k < m + i
        · rw [if_pos (by omega), if_pos h2]; exact ix (by omega)
        · rw [if_neg (by omega), if_neg h2]
    · by_cases hlt : j < i
      · have hg := swRange_get _ (m - i) m j 0 d (Nat.le_refl _) (by omega) (by omega) (by omega)
        rw [rotGo_more hlt hj, ih m (i - j) j _ (by omega) (by omega) (by rw [swRange_size (by omega) (by omega)]; omega) (by omega) hj]
        by_cases h1 : m - i ≤ k ∧ k < m - i + j
        · rw [if_neg (by omega), if_neg (by omega), hg, if_pos (by omega), if_pos h1]; exact ix (by omega)
        · rw [if_neg h1]
          by_cases h2 : m - (i - j) ≤ k ∧ k < m - (i - j) + j
          · rw [if_pos h2, if_pos (by omega), hg]
            by_cases h3 : m ≤ k + (i - j)
            · rw [if_neg (by omega), if_pos (by omega)]; exact ix (by omega)
            · omega
          · rw [if_neg h2]
            by_cases h3 : m - (i - j) + j ≤ k ∧ k < m + j
            · rw [if_pos h3, if_pos (by omega), hg]
              rw [if_neg (by omega), if_neg (by omega)]
            · rw [if_neg h3, hg, if_neg (by omega), if_neg (by omega), if_neg (by omega)]
      · have hg := swRange_get _ (m - i) (m + j - i) i 0 d (Nat.le_refl _) (by omega) (by omega) (by omega)
        rw [rotGo_less (show i < j by omega) hi, ih m i (j - i) _ (by omega) (by omega) (by rw [swRange_size (by omega) (by omega)]; omega) hi (by omega)]
        by_cases h1 : m - i ≤ k ∧ k < m - i + (j - i)
        · rw [if_pos h1, if_pos (by omega), hg, if_neg (by omega), if_neg (by omega)]
        · rw [if_neg h1]
          by_cases h2 : m - i + (j - i) ≤ k ∧ k < m + (j - i)
          · rw [if_pos h2, hg]
            rw [if_pos (by omega)]
            by_cases h3 : k < m - i + j
            · rw [if_pos (by omega)]; exact ix (by omega)
            · omega
          · rw [if_neg h2, hg]
            by_cases h3 : m + j - i ≤ k ∧ k < m + j
            · rw [if_neg (by omega), if_pos (by omega), if_neg (by omega), if_pos (by omega)]; exact ix (by omega)
            · rw [if_neg (by omega), if_neg (by omega), if_neg (by omega), if_neg (by omega)]
theorem upGo_get : ∀ (q k e : Nat) (d : Array α), e - k ≤ q → k ≤ e → e < d.size → ∀ t, (upGo k e d)[t]! = if k ≤ t ∧ t < e then d[t + 1]! else if t = e then d[k]! else d[t]! := by
  intro q
  induction q with
  | zero =>
    intro k e d h hk he t
    rw [upGo_stop (by omega), if_neg (by omega)]
    by_cases h1 : t = e
    · rw [if_pos h1]; exact ix (by omega)
    · rw [if_neg h1]
  | succ q ih =>
    intro k e d h hk he t
    by_cases hlt : k < e
    · have hg := swp_get (d := d) (i := k) (j := k + 1) (by omega) (by omega)
      rw [upGo_go hlt, ih (k + 1) e _ (by omega) (by omega) (by rw [size_swp]; exact he)]
      by_cases h1 : k + 1 ≤ t ∧ t < e
      · rw [if_pos h1, if_pos (by omega), hg, if_neg (by omega), if_neg (by omega)]
      · rw [if_neg h1]
        by_cases h2 : t = e
        · rw [if_pos h2, if_neg (by omega), if_pos h2, hg, if_pos rfl]
        · rw [if_neg h2, hg]
          by_cases h3 : t = k
          · rw [if_neg (by omega), if_pos h3, if_pos (by omega)]; exact ix (by omega)
          · rw [if_neg (by omega), if_neg h3, if_neg (by omega), if_neg h2]
    · rw [upGo_stop hlt, if_neg (by omega)]
      by_cases h1 : t = e
      · rw [if_pos h1]; exact ix (by omega)
      · rw [if_neg h1]
theorem downGo_get : ∀ (k i : Nat) (d : Array α), i ≤ k → k < d.size → ∀ t, (downGo i k d)[t]! = if i < t ∧ t ≤ k then d[t - 1]! else if t = i then d[k]! else d[t]! := by
  intro k
  induction k with
  | zero =>
    intro i d hi hk t
    rw [downGo_stop (by omega), if_neg (by omega)]
    by_cases h1 : t = i
    · rw [if_pos h1]; exact ix (by omega)
    · rw [if_neg h1]
  | succ k ih =>
    intro i d hi hk t
    by_cases hlt : i < k + 1
    · have hg := swp_get (d := d) (i := k + 1) (j := k) (by omega) (by omega)
      rw [downGo_go hlt, Nat.add_sub_cancel, ih i _ (by omega) (by rw [size_swp]; omega)]
      by_cases h1 : i < t ∧ t ≤ k
      · rw [if_pos h1, if_pos (by omega), hg, if_neg (by omega), if_neg (by omega)]
      · rw [if_neg h1]
        by_cases h2 : t = i
        · rw [if_pos h2, if_neg (by omega), if_pos h2, hg, if_pos rfl]
        · rw [if_neg h2, hg]
          by_cases h3 : t = k + 1
          · rw [if_neg (by omega), if_pos h3, if_pos (by omega)]; exact ix (by omega)
          · rw [if_neg (by omega), if_neg h3, if_neg (by omega), if_neg h2]
    · rw [downGo_stop hlt, if_neg (by omega)]
      by_cases h1 : t = i
      · rw [if_pos h1]; exact ix (by omega)
      · rw [if_neg h1]
/-- The search by halves: below the place the test holds, at it no more. -/
theorem half_spec (f : Nat → Bool) : ∀ (q i j : Nat), j - i ≤ q → i ≤ j → (i < half f i j → f (half f i j - 1) = true) ∧ (half f i j < j → f (half f i j) = false) := by
  intro q
  induction q with
  | zero => intro i j h hi; rw [half_stop (by omega)]; exact ⟨fun h => by omega, fun h => by omega⟩
  | succ q ih =>
    intro i j h hi
    by_cases hlt : i < j
    · cases hf : f ((i + j) / 2) with
      | true =>
        rw [half_yes hlt hf]
        have h2 := ih ((i + j) / 2 + 1) j (by omega) (by omega)
        have h3 := half_ge (f := f) (i := (i + j) / 2 + 1) (j := j) (by omega)
        refine ⟨fun _ => ?_, h2.2⟩
        rcases Nat.lt_or_ge ((i + j) / 2 + 1) (half f ((i + j) / 2 + 1) j) with g | g
        · exact h2.1 g
        · rw [show half f ((i + j) / 2 + 1) j - 1 = (i + j) / 2 by omega]; exact hf
      | false =>
        rw [half_no hlt hf]
        have h2 := ih i ((i + j) / 2) (by omega) (by omega)
        have h3 := half_up (f := f) (i := i) (j := (i + j) / 2) (by omega)
        refine ⟨h2.1, fun _ => ?_⟩
        rcases Nat.lt_or_ge (half f i ((i + j) / 2)) ((i + j) / 2) with g | g
        · exact h2.2 g
        · rw [show half f i ((i + j) / 2) = (i + j) / 2 by omega]; exact hf
    · rw [half_stop hlt]; exact ⟨fun h => by omega, fun h => by omega⟩

/-! ### What happens in a part of a row -/
def Within (lo hi : Nat) (d e : Array α) : Prop := e.size = d.size ∧ (∀ k, k < lo ∨ hi ≤ k → e[k]! = d[k]!) ∧ ∀ k, lo ≤ k → k < hi → ∃ k', lo ≤ k' ∧ k' < hi ∧ e[k]! = d[k']!
theorem Within.refl (lo hi : Nat) (d : Array α) : Within lo hi d d := ⟨rfl, fun _ _ => rfl, fun k h1 h2 => ⟨k, h1, h2, rfl⟩⟩
theorem Within.trans {lo hi : Nat} {d e f : Array α} (h : Within lo hi d e) (g : Within lo hi e f) : Within lo hi d f :=
  ⟨g.1.trans h.1, fun k hk => (g.2.1 k hk).trans (h.2.1 k hk), fun k h1 h2 => by
    obtain ⟨k', a, b, c⟩ := g.2.2 k h1 h2
    obtain ⟨k'', a', b', c'⟩ := h.2.2 k' a b
    exact ⟨k'', a', b', c.trans c'⟩⟩
theorem Within.wide {lo hi lo' hi' : Nat} {d e : Array α} (h : Within lo hi d e) (h1 : lo' ≤ lo) (h2 : hi ≤ hi') : Within lo' hi' d e :=
  ⟨h.1, fun k hk => h.2.1 k (by omega), fun k a b => by
    by_cases hk : lo ≤ k ∧ k < hi
    · obtain ⟨k', x, y, z⟩ := h.2.2 k hk.1 hk.2
      exact ⟨k', by omega, by omega, z⟩
    · exact ⟨k, a, b, h.2.1 k (by omega)⟩⟩
theorem Within.swp {lo hi i j : Nat} {d : Array α} (hi1 : i < d.size) (hj1 : j < d.size) (h1 : lo ≤ i) (h2 : i < hi) (h3 : lo ≤ j) (h4 : j < hi) : Within lo hi d (swp d i j) := by
  refine ⟨size_swp d i j, fun k hk => ?_, fun k a b => ?_⟩
  · rw [swp_get hi1 hj1, if_neg (by omega), if_neg (by omega)]
  · rw [swp_get hi1 hj1]
    by_cases e1 : k = j
    · exact ⟨i, h1, h2, if_pos e1⟩
    · by_cases e2 : k = i
      · exact ⟨j, h3, h4, by rw [if_neg e1, if_pos e2]⟩
      · exact ⟨k, a, b, by rw [if_neg e1, if_neg e2]⟩

variable (R : α → α → Prop) (lt : α → α → Bool)
def Sor (lo hi : Nat) (d : Array α) : Prop := ∀ i j, lo ≤ i → i < j → j < hi → R d[i]! d[j]!
/-- The order says of two how they are to stand, where the first one stood first. -/
def OrdP (x y : α) : Prop := (lt y x = false → R x y) ∧ (lt y x = true → R y x)
def Crs (a m b : Nat) (d : Array α) : Prop := ∀ i j, a ≤ i → i < m → m ≤ j → j < b → OrdP R lt d[i]! d[j]!
variable {R lt}
theorem Sor.kept {lo hi l h : Nat} {d e : Array α} (g : Sor R lo hi d) (w : Within l h d e) (hx : hi ≤ l ∨ h ≤ lo) : Sor R lo hi e := fun i j h1 h2 h3 => by
  rw [w.2.1 i (by omega), w.2.1 j (by omega)]
  exact g i j h1 h2 h3
theorem Crs.kept {a m b l h : Nat} {d e : Array α} (g : Crs R lt a m b d) (w : Within l h d e) (hx : (a ≤ l ∧ h ≤ m) ∨ (m ≤ l ∧ h ≤ b) ∨ b ≤ l ∨ h ≤ a) : Crs R lt a m b e := fun i j h1 h2 h3 h4 => by
  have hi : ∃ i', a ≤ i' ∧ i' < m ∧ e[i]! = d[i']! := by
    by_cases hk : l ≤ i ∧ i < h
    · obtain ⟨i', x, y, z⟩ := w.2.2 i hk.1 hk.2
      exact ⟨i', by omega, by omega, z⟩
    · exact ⟨i, h1, h2, w.2.1 i (by omega)⟩
  have hj : ∃ j', m ≤ j' ∧ j' < b ∧ e[j]! = d[j']! := by
    by_cases hk : l ≤ j ∧ j < h
    · obtain ⟨j', x, y, z⟩ := w.2.2 j hk.1 hk.2
      exact ⟨j', by omega, by omega, z⟩
    · exact ⟨j, h3, h4, w.2.1 j (by omega)⟩
  obtain ⟨i', a1, a2, a3⟩ := hi
  obtain ⟨j', b1, b2, b3⟩ := hj
  rw [a3, b3]
  exact g i' j' a1 a2 b1 b2
theorem Sor.part {lo hi l h : Nat} {d : Array α} (g : Sor R lo hi d) (h1 : lo ≤ l) (h2 : h ≤ hi) : Sor R l h d := fun i j a b c => g i j (by omega) b (by omega)
theorem Sor.join {a m b : Nat} {d : Array α} (g1 : Sor R a m d) (g2 : Sor R m b d) (g3 : ∀ i j, a ≤ i → i < m → m ≤ j → j < b → R d[i]! d[j]!) : Sor R a b d := fun i j h1 h2 h3 => by
  by_cases c1 : j < m
  · exact g1 i j h1 h2 c1
  · by_cases c2 : i < m
    · exact g3 i j h1 c2 (by omega) h3
    · exact g2 i j (by omega) h2 h3
/-- What is said of each pair of two parts stays said while each part is stirred. -/
theorem pairs_kept {a m b : Nat} {d e f : Array α} (g : ∀ i j, a ≤ i → i < m → m ≤ j → j < b → R d[i]! d[j]!) (w : Within a m d e) (v : Within m b e f) : ∀ i j, a ≤ i → i < m → m ≤ j → j < b → R f[i]! f[j]! := fun i j h1 h2 h3 h4 => by
  obtain ⟨j', b1, b2, b3⟩ := v.2.2 j h3 h4
  obtain ⟨i', a1, a2, a3⟩ := w.2.2 i h1 h2
  rw [v.2.1 i (by omega), b3, w.2.1 j' (by omega), a3]
  exact g i' j' a1 a2 b1 b2

variable (ht : ∀ x y z, R x y → R y z → R x z)
include ht
/-- Up to the next ones in a run that is in order. -/
theorem Sor.le_left {lo hi i j : Nat} {d : Array α} {y : α} (g : Sor R lo hi d) (h1 : lo ≤ i) (h2 : i ≤ j) (h3 : j < hi) (h : R d[j]! y) : R d[i]! y := by
  rcases Nat.lt_or_ge i j with c | c
  · exact ht _ _ _ (g i j h1 c h3) h
  · rw [show i = j by omega]; exact h
theorem Sor.le_right {lo hi i j : Nat} {d : Array α} {x : α} (g : Sor R lo hi d) (h1 : lo ≤ i) (h2 : i ≤ j) (h3 : j < hi) (h : R x d[i]!) : R x d[j]! := by
  rcases Nat.lt_or_ge i j with c | c
  · exact ht _ _ _ h (g i j h1 c h3)
  · rw [show j = i by omega]; exact h

theorem symM_one_sorted {f a m b : Nat} {d : Array α} (h1 : a < m) (h2 : m < b) (h3 : b ≤ d.size) (e1 : m - a = 1) (hY : Sor R m b d) (hC : Crs R lt a m b d) : Sor R a b (symM lt (f + 1) a m b d) ∧ Within a b d (symM lt (f + 1) a m b d) := by
  rw [symM_one lt e1]
  have hu := half_up (f := fun h => lt d[h]! d[a]!) (Nat.le_of_lt h2)
  have hg := half_ge (f := fun h => lt d[h]! d[a]!) (Nat.le_of_lt h2)
  have hs := half_spec (fun h => lt d[h]! d[a]!) _ m b (Nat.le_refl _) (Nat.le_of_lt h2)
  generalize half (fun h => lt d[h]! d[a]!) m b = s at hu hg hs ⊢
  have hget := upGo_get _ a (s - 1) d (Nat.le_refl _) (by omega) (by omega)
  have hlo : m < s → R d[s - 1]! d[a]! := fun h => (hC a (s - 1) (Nat.le_refl _) h1 (by omega) (by omega)).2 (hs.1 h)
  have hhi : s < b → R d[a]! d[s]! := fun h => (hC a s (Nat.le_refl _) h1 hg h).1 (hs.2 h)
  refine ⟨fun i j g1 g2 g3 => ?_, (upGo_swaps _ a (s - 1) d (Nat.le_refl _) (by omega)).size, fun k hk => ?_, fun k g1 g2 => ?_⟩
  · rw [hget i, hget j]
    by_cases c1 : i < s - 1
    · rw [if_pos ⟨g1, c1⟩]
      by_cases c2 : j < s - 1
      · rw [if_pos ⟨by omega, c2⟩]
        exact hY (i + 1) (j + 1) (by omega) (by omega) (by omega)
      · rw [if_neg (by omega)]
        by_cases c3 : j = s - 1
        · rw [if_pos c3]
          exact hY.le_left ht (j := s - 1) (by omega) (by omega) (by omega) (hlo (by omega))
        · rw [if_neg c3]
          exact hY (i + 1) j (by omega) (by omega) g3
    · rw [if_neg (by omega), if_neg (by omega : ¬ (a ≤ j ∧ j < s - 1)), if_neg (by omega : ¬ j = s - 1)]
      by_cases c2 : i = s - 1
      · rw [if_pos c2]
        exact hY.le_right ht (i := s) (by omega) (by omega) g3 (hhi (by omega))
      · rw [if_neg c2]
        exact hY i j (by omega) g2 g3
  · rw [hget k, if_neg (by omega), if_neg (by omega)]
  · rw [hget k]
    by_cases c1 : k < s - 1
    · exact ⟨k + 1, by omega, by omega, if_pos ⟨g1, c1⟩⟩
    · by_cases c2 : k = s - 1
      · exact ⟨a, by omega, by omega, by rw [if_neg (by omega), if_pos c2]⟩
      · exact ⟨k, g1, g2, by rw [if_neg (by omega), if_neg c2]⟩
theorem symM_last_sorted {f a m b : Nat} {d : Array α} (h1 : a < m) (h2 : m < b) (h3 : b ≤ d.size) (e1 : ¬ m - a = 1) (e2 : b - m = 1) (hX : Sor R a m d) (hC : Crs R lt a m b d) : Sor R a b (symM lt (f + 1) a m b d) ∧ Within a b d (symM lt (f + 1) a m b d) := by
  rw [symM_last lt e1 e2]
  have hu := half_up (f := fun h => !lt d[m]! d[h]!) (Nat.le_of_lt h1)
  have hg := half_ge (f := fun h => !lt d[m]! d[h]!) (Nat.le_of_lt h1)
  have hs := half_spec (fun h => !lt d[m]! d[h]!) _ a m (Nat.le_refl _) (Nat.le_of_lt h1)
  generalize half (fun h => !lt d[m]! d[h]!) a m = s at hu hg hs ⊢
  have hget := downGo_get m s d hu (by omega)
  have hlo : a < s → R d[s - 1]! d[m]! := fun h => (hC (s - 1) m (by omega) (by omega) (Nat.le_refl _) h2).1 (by simpa using hs.1 h)
  have hhi : s < m → R d[m]! d[s]! := fun h => (hC s m hg h (Nat.le_refl _) h2).2 (by simpa using hs.2 h)
  refine ⟨fun i j g1 g2 g3 => ?_, (downGo_swaps m s d (by omega)).size, fun k hk => ?_, fun k g1 g2 => ?_⟩
  · rw [hget i, hget j]
    by_cases c1 : s < j
    · rw [if_pos (⟨c1, by omega⟩ : s < j ∧ j ≤ m)]
      by_cases c2 : s < i
      · rw [if_pos (⟨c2, by omega⟩ : s < i ∧ i ≤ m)]
        exact hX (i - 1) (j - 1) (by omega) (by omega) (by omega)
      · rw [if_neg (by omega)]
        by_cases c3 : i = s
        · rw [if_pos c3]
          exact hX.le_right ht (i := s) hg (by omega) (by omega) (hhi (by omega))
        · rw [if_neg c3]
          exact hX i (j - 1) g1 (by omega) (by omega)
    · rw [if_neg (by omega), if_neg (by omega : ¬ (s < j ∧ j ≤ m)), if_neg (by omega : ¬ i = s)]
      by_cases c2 : j = s
      · rw [if_pos c2]
        exact hX.le_left ht (j := s - 1) g1 (by omega) (by omega) (hlo (by omega))
      · rw [if_neg c2]
        exact hX i j g1 g2 (by omega)
  · rw [hget k, if_neg (by omega), if_neg (by omega)]
  · rw [hget k]
    by_cases c1 : s < k
    · exact ⟨k - 1, by omega, by omega, if_pos ⟨c1, by omega⟩⟩
    · by_cases c2 : k = s
      · exact ⟨m, by omega, by omega, by rw [if_neg (by omega), if_pos c2]⟩
      · exact ⟨k, g1, g2, by rw [if_neg (by omega), if_neg c2]⟩

theorem symM_sorted : ∀ (f a m b : Nat) (d : Array α), a < m → m < b → b ≤ d.size → b - a ≤ f → Sor R a m d → Sor R m b d → Crs R lt a m b d → Sor R a b (symM lt f a m b d) ∧ Within a b d (symM lt f a m b d) := by
  intro f
  induction f with
  | zero => intro a m b d h1 h2 _ h; omega
  | succ f ih =>
    intro a m b d h1 h2 h3 hf hX hY hC
    by_cases e1 : m - a = 1
    · exact symM_one_sorted ht h1 h2 h3 e1 hY hC
    by_cases e2 : b - m = 1
    · exact symM_last_sorted ht h1 h2 h3 e1 e2 hX hC
    have hb := symAt_bounds lt d h1 h2
    have hlh := sym_bounds h1 h2
    have hsp := half_spec (fun c => !lt d[(a + b) / 2 + m - 1 - c]! d[c]!) _ (symLo a m b) (symHi a m b) (Nat.le_refl _) hlh.2.1
    have hge := half_ge (f := fun c => !lt d[(a + b) / 2 + m - 1 - c]! d[c]!) hlh.2.1
    have hup := half_up (f := fun c => !lt d[(a + b) / 2 + m - 1 - c]! d[c]!) hlh.2.1
    have hcs : ((a + b) / 2 < m ∧ symLo a m b = (a + b) / 2 + m - b ∧ symHi a m b = (a + b) / 2) ∨ (¬ (a + b) / 2 < m ∧ symLo a m b = a ∧ symHi a m b = m) := by
      unfold symLo symHi
      by_cases h : (a + b) / 2 < m
      · exact .inl ⟨h, by rw [if_pos h], by rw [if_pos h]⟩
      · exact .inr ⟨h, by rw [if_neg h], by rw [if_neg h]⟩
    rw [symM_more lt e1 e2 rfl]
    change (symLo a m b < symAt lt a m b d → _) ∧ (symAt lt a m b d < symHi a m b → _) at hsp
    change symLo a m b ≤ symAt lt a m b d at hge
    change symAt lt a m b d ≤ symHi a m b at hup
    have hsp1 : symLo a m b < symAt lt a m b d → (!lt d[(a + b) / 2 + m - 1 - (symAt lt a m b d - 1)]! d[symAt lt a m b d - 1]!) = true := hsp.1
    have hsp2 : symAt lt a m b d < symHi a m b → (!lt d[(a + b) / 2 + m - 1 - symAt lt a m b d]! d[symAt lt a m b d]!) = false := hsp.2
    clear hsp
    generalize symAt lt a m b d = s at *
    generalize symLo a m b = lo at *
    generalize symHi a m b = hi at *
    generalize hmid : (a + b) / 2 = mid at *
    have hm1 : 2 * mid ≤ a + b := by omega
    have hm2 : a + b ≤ 2 * mid + 1 := by omega
    -- what the search tells
    have hlo : lo < s → R d[s - 1]! d[mid + m - s]! := fun h => by
      have h1 := hsp1 h
      rw [ix (show mid + m - 1 - (s - 1) = mid + m - s by omega)] at h1
      exact (hC (s - 1) (mid + m - s) (by omega) (by omega) (by omega) (by omega)).1 (by simpa using h1)
    have hhi : s < hi → R d[mid + m - s - 1]! d[s]! := fun h => by
      have h1 := hsp2 h
      rw [ix (show mid + m - 1 - s = mid + m - s - 1 by omega)] at h1
      exact (hC s (mid + m - s - 1) (by omega) (by omega) (by omega) (by omega)).2 (by simpa using h1)
    clear hsp1 hsp2
    -- the row behind the rotation
    have hrg : ∀ k, (symRot m s (mid + m - s) d)[k]! = if s ≤ k ∧ k < mid then d[k + m - s]! else if mid ≤ k ∧ k < mid + m - s then d[k + s - mid]! else d[k]! := fun k => by
      unfold symRot
      by_cases c : s < m ∧ m < mid + m - s
      · rw [if_pos c, rotGo_get _ m (m - s) (mid + m - s - m) d (Nat.le_refl _) (by omega) (by omega) (by omega) (by omega)]
        by_cases c1 : s ≤ k ∧ k < mid
        · rw [if_pos (by omega), if_pos c1]; exact ix (by omega)
        · rw [if_neg (by omega), if_neg c1]
          by_cases c2 : mid ≤ k ∧ k < mid + m - s
          · rw [if_pos (by omega), if_pos c2]; exact ix (by omega)
          · rw [if_neg (by omega), if_neg c2]
      · rw [if_neg c]
        by_cases c1 : s ≤ k ∧ k < mid
        · rw [if_pos c1]; exact ix (by omega)
        · rw [if_neg c1]
          by_cases c2 : mid ≤ k ∧ k < mid + m - s
          · rw [if_pos c2]; exact ix (by omega)
          · rw [if_neg c2]
    have hrw : Within a b d (symRot m s (mid + m - s) d) := by
      refine ⟨(symRot_swaps d (by omega)).size, fun k hk => ?_, fun k g1 g2 => ?_⟩
      · rw [hrg k, if_neg (by omega), if_neg (by omega)]
      · rw [hrg k]
        by_cases c1 : s ≤ k ∧ k < mid
        · exact ⟨k + m - s, by omega, by omega, if_pos c1⟩
        · by_cases c2 : mid ≤ k ∧ k < mid + m - s
          · exact ⟨k + s - mid, by omega, by omega, by rw [if_neg c1, if_pos c2]⟩
          · exact ⟨k, g1, g2, by rw [if_neg c1, if_neg c2]⟩
    generalize symRot m s (mid + m - s) d = d1 at hrg hrw ⊢
    have r1 : ∀ k, k < s → d1[k]! = d[k]! := fun k h => by rw [hrg k, if_neg (by omega), if_neg (by omega)]
    have r2 : ∀ k, s ≤ k → k < mid → d1[k]! = d[k + m - s]! := fun k h g => by rw [hrg k, if_pos ⟨h, g⟩]
    have r3 : ∀ k, mid ≤ k → k < mid + m - s → d1[k]! = d[k + s - mid]! := fun k h g => by rw [hrg k, if_neg (by omega), if_pos ⟨h, g⟩]
    have r4 : ∀ k, mid + m - s ≤ k → d1[k]! = d[k]! := fun k h => by rw [hrg k, if_neg (by omega), if_neg (by omega)]
    clear hrg
    have L1 : Sor R a s d1 := fun i j g1 g2 g3 => by rw [r1 i (by omega), r1 j g3]; exact hX i j g1 g2 (by omega)
    have L2 : Sor R s mid d1 := fun i j g1 g2 g3 => by rw [r2 i g1 (by omega), r2 j (by omega) g3]; exact hY _ _ (by omega) (by omega) (by omega)
    have L3 : Crs R lt a s mid d1 := fun i j g1 g2 g3 g4 => by rw [r1 i g2, r2 j g3 g4]; exact hC _ _ g1 (by omega) (by omega) (by omega)
    have M1 : Sor R mid (mid + m - s) d1 := fun i j g1 g2 g3 => by rw [r3 i g1 (by omega), r3 j (by omega) g3]; exact hX _ _ (by omega) (by omega) (by omega)
    have M2 : Sor R (mid + m - s) b d1 := fun i j g1 g2 g3 => by rw [r4 i g1, r4 j (by omega)]; exact hY _ _ (by omega) g2 g3
    have M3 : Crs R lt mid (mid + m - s) b d1 := fun i j g1 g2 g3 g4 => by rw [r3 i g1 g2, r4 j g3]; exact hC _ _ (by omega) (by omega) (by omega) g4
    have LR : ∀ i j, a ≤ i → i < mid → mid ≤ j → j < b → R d1[i]! d1[j]! := fun i j g1 g2 g3 g4 => by
      by_cases c1 : i < s
      · rw [r1 i c1]
        by_cases c2 : j < mid + m - s
        · rw [r3 j g3 c2]
          exact hX _ _ g1 (by omega) (by omega)
        · rw [r4 j (by omega)]
          refine hX.le_left ht (j := s - 1) g1 (by omega) (by omega) ?_
          exact hY.le_right ht (i := mid + m - s) (by omega) (by omega) g4 (hlo (by omega))
      · rw [r2 i (by omega) g2]
        by_cases c2 : j < mid + m - s
        · rw [r3 j g3 c2]
          refine hY.le_left ht (j := mid + m - s - 1) (by omega) (by omega) (by omega) ?_
          exact hX.le_right ht (i := s) (by omega) (by omega) (by omega) (hhi (by omega))
        · rw [r4 j (by omega)]
          exact hY _ _ (by omega) (by omega) g4
    clear r1 r2 r3 r4 hlo hhi hX hY hC
    -- the left half
    have hL : Sor R a mid (symL lt f a s b d1) ∧ Within a mid d1 (symL lt f a s b d1) := by
      unfold symL
      rw [hmid]
      by_cases c : a < s ∧ s < mid
      · rw [if_pos c]
        exact ih a s mid d1 c.1 c.2 (by rw [hrw.1]; omega) (by omega) L1 L2 L3
      · rw [if_neg c]
        refine ⟨fun i j g1 g2 g3 => ?_, Within.refl _ _ _⟩
        by_cases c2 : a < s
        · exact L1 i j g1 g2 (by omega)
        · exact L2 i j (by omega) g2 g3
    generalize symL lt f a s b d1 = d2 at hL ⊢
    obtain ⟨hL1, hL2⟩ := hL
    have M1' := M1.kept hL2 (.inr (Nat.le_refl _))
    have M2' := M2.kept hL2 (.inr (by omega))
    have M3' := M3.kept hL2 (.inr (.inr (.inr (Nat.le_refl _))))
    have hR : Sor R mid b (symR lt f s m a b d2) ∧ Within mid b d2 (symR lt f s m a b d2) := by
      unfold symR
      rw [hmid]
      by_cases c : mid < mid + m - s ∧ mid + m - s < b
      · rw [if_pos c]
        exact ih mid (mid + m - s) b d2 c.1 c.2 (by rw [hL2.1, hrw.1]; exact h3) (by omega) M1' M2' M3'
      · rw [if_neg c]
        refine ⟨fun i j g1 g2 g3 => ?_, Within.refl _ _ _⟩
        by_cases c2 : mid < mid + m - s
        · exact M1' i j g1 g2 (by omega)
        · exact M2' i j (by omega) g2 g3
    generalize symR lt f s m a b d2 = d3 at hR ⊢
    obtain ⟨hR1, hR2⟩ := hR
    exact ⟨(hL1.kept hR2 (.inl (Nat.le_refl _))).join hR1 (pairs_kept LR hL2 hR2), hrw.trans ((hL2.wide (Nat.le_refl _) (by omega)).trans (hR2.wide (by omega) (Nat.le_refl _)))⟩

/-! ### Insertion -/
theorem insInner_sorted : ∀ (j a : Nat) (d : Array α), a ≤ j → j < d.size → Sor R a j d → Crs R lt a j (j + 1) d → Sor R a (j + 1) (insInner lt a j d) ∧ Within a (j + 1) d (insInner lt a j d) := by
  intro j
  induction j with
  | zero =>
    intro a d _ _ _ _
    rw [insInner]
    exact ⟨fun i k h1 h2 h3 => by omega, Within.refl _ _ _⟩
  | succ j ih =>
    intro a d ha hj hS hC
    rw [insInner]
    by_cases hc : (decide (j + 1 > a) && lt d[j + 1]! d[j]!) = true
    · rw [if_pos hc]
      simp only [gt_iff_lt, Bool.and_eq_true, decide_eq_true_eq] at hc
      have hg := swp_get (d := d) (i := j + 1) (j := j) (by omega) (by omega)
      have hw := Within.swp (d := d) (i := j + 1) (j := j) (lo := a) (hi := j + 1 + 1) (by omega) (by omega) (by omega) (by omega) (by omega) (by omega)
      have h1 : Sor R a j (swp d (j + 1) j) := fun i k g1 g2 g3 => by
        rw [hg i, hg k, if_neg (by omega), if_neg (by omega), if_neg (by omega), if_neg (by omega)]
        exact hS i k g1 g2 (by omega)
      have h2 : Crs R lt a j (j + 1) (swp d (j + 1) j) := fun i k g1 g2 g3 g4 => by
        rw [hg i, hg k, if_neg (by omega), if_neg (by omega), if_pos (by omega)]
        exact hC i (j + 1) g1 (by omega) (Nat.le_refl _) (by omega)
      obtain ⟨h3, h4⟩ := ih a _ (by omega) (by rw [size_swp]; omega) h1 h2
      refine ⟨?_, hw.trans (h4.wide (Nat.le_refl _) (by omega))⟩
      refine Sor.join (m := j + 1) h3 (fun i k g1 g2 g3 => by omega) (fun i k g1 g2 g3 g4 => ?_)
      obtain ⟨i', b1, b2, b3⟩ := h4.2.2 i g1 g2
      rw [b3, h4.2.1 k (by omega), hg i', hg k, if_neg (by omega : ¬ k = j), if_pos (by omega : k = j + 1)]
      by_cases c : i' = j
      · rw [if_pos c]
        exact (hC j (j + 1) (by omega) (by omega) (Nat.le_refl _) (by omega)).2 hc.2
      · rw [if_neg c, if_neg (by omega)]
        exact hS i' j b1 (by omega) (by omega)
    · rw [if_neg hc]
      refine ⟨?_, Within.refl _ _ _⟩
      refine Sor.join (m := j + 1) hS (fun i k g1 g2 g3 => by omega) (fun i k g1 g2 g3 g4 => ?_)
      have hlt : lt d[j + 1]! d[j]! = false := by
        cases hl : lt d[j + 1]! d[j]! with
        | false => rfl
        | true =>
          exfalso
          apply hc
          rw [hl, Bool.and_true, decide_eq_true_eq]
          omega
      rw [show k = j + 1 by omega]
      exact hS.le_left ht (j := j) g1 (by omega) (by omega) ((hC j (j + 1) (by omega) (by omega) (Nat.le_refl _) (by omega)).1 hlt)
/-- Of each two of a part the order says how they are to stand. -/
theorem insOuter_sorted : ∀ (q a b i : Nat) (d : Array α), b - i ≤ q → a ≤ i → i ≤ b → b ≤ d.size → Sor R a i d → (∀ k, i ≤ k → k < b → Crs R lt a k (k + 1) d) → Sor R a b (insOuter lt a b i d) ∧ Within a b d (insOuter lt a b i d) := by
  intro q
  induction q with
  | zero =>
    intro a b i d h ha hi hb hS _
    rw [insOuter_stop _ _ _ _ _ (by omega)]
    exact ⟨hS.part (Nat.le_refl _) (by omega), Within.refl _ _ _⟩
  | succ q ih =>
    intro a b i d h ha hi hb hS hC
    by_cases hlt : i < b
    · rw [insOuter_go _ _ _ _ _ hlt]
      obtain ⟨h1, h2⟩ := insInner_sorted ht i a d ha (by omega) hS (hC i (Nat.le_refl _) hlt)
      obtain ⟨h3, h4⟩ := ih a b (i + 1) _ (by omega) (by omega) (by omega) (by rw [h2.1]; exact hb) h1 (fun k g1 g2 => (hC k (by omega) g2).kept h2 (.inl ⟨Nat.le_refl _, g1⟩))
      exact ⟨h3, (h2.wide (Nat.le_refl _) (by omega)).trans h4⟩
    · rw [insOuter_stop _ _ _ _ _ hlt]
      exact ⟨hS.part (Nat.le_refl _) (by omega), Within.refl _ _ _⟩
theorem insertion_sorted {a b : Nat} {d : Array α} (hab : a ≤ b) (hb : b ≤ d.size) (hC : ∀ i j, a ≤ i → i < j → j < b → OrdP R lt d[i]! d[j]!) : Sor R a b (insertionSort lt d a b) ∧ Within a b d (insertionSort lt d a b) := by
  unfold insertionSort
  by_cases h : a < b
  · exact insOuter_sorted ht _ a b (a + 1) d (Nat.le_refl _) (by omega) (by omega) hb (fun i j h1 h2 h3 => by omega) (fun k g1 g2 i j e1 e2 e3 e4 => by rw [show j = k by omega]; exact hC i k e1 (by omega) g2)
  · rw [insOuter_stop _ _ _ _ _ (by omega)]
    exact ⟨fun i j h1 h2 h3 => by omega, Within.refl _ _ _⟩
omit ht

/-! ### Blocks -/
/-- A place that is a multiple. -/
def Mul (k c : Nat) : Prop := ∃ q, c = q * k
theorem Mul.zero (k : Nat) : Mul k 0 := ⟨0, by simp⟩
theorem Mul.next {k c : Nat} (h : Mul k c) : Mul k (c + k) := by obtain ⟨q, rfl⟩ := h; exact ⟨q + 1, by rw [Nat.succ_mul]⟩
theorem Mul.half {k c : Nat} (h : Mul (2 * k) c) : Mul k c := by obtain ⟨q, rfl⟩ := h; exact ⟨q * 2, by rw [Nat.mul_assoc]⟩
theorem Mul.gap {k c c' : Nat} (h : Mul k c) (h' : Mul k c') (hlt : c < c') : c + k ≤ c' := by
  obtain ⟨q, rfl⟩ := h
  obtain ⟨q', rfl⟩ := h'
  have : q < q' := by
    rcases Nat.lt_or_ge q q' with g | g
    · exact g
    · have := Nat.mul_le_mul_right k g; omega
  have := Nat.mul_le_mul_right k (show q + 1 ≤ q' from this)
  rw [Nat.succ_mul] at this
  exact this
def Cut (n m : Nat) (d : Array α) : Prop := Crs R lt 0 m n d
/-- Blocks of k are in order, and stand as they stood. -/
def Inv (R : α → α → Prop) (lt : α → α → Bool) (n k : Nat) (d : Array α) : Prop := d.size = n ∧ ∀ c, Mul k c → Crs R lt 0 c n d ∧ Sor R c (min (c + k) n) d
include ht

theorem blkGo_sorted {n : Nat} : ∀ (q a : Nat) (d : Array α), n - a ≤ q → a ≤ n → d.size = n → Mul 20 a → (∀ c, Mul 20 c → c < a → Sor R c (min (c + 20) n) d) → (∀ c, Mul 20 c → Crs R lt 0 c n d) → (∀ i j, a ≤ i → i < j → j < n → OrdP R lt d[i]! d[j]!) → Inv R lt n 20 (blkGo lt n a d) := by
  intro q
  induction q with
  | zero =>
    intro a d h ha hs hm hS hC hO
    rw [blkGo_stop _ (by omega)]
    obtain ⟨h1, h2⟩ := insertion_sorted ht (a := a) (b := n) (d := d) (by omega) (by omega) hO
    refine ⟨h2.1.trans hs, fun c hc => ⟨(hC c hc).kept h2 ?_, ?_⟩⟩
    · rcases Nat.lt_or_ge c (a + 1) with g | g
      · exact .inr (.inl ⟨by omega, Nat.le_refl _⟩)
      · exact .inr (.inr (.inl (by omega)))
    · rcases Nat.lt_or_ge c a with g | g
      · exact (hS c hc g).kept h2 (.inl (by omega))
      · exact fun i j e1 e2 e3 => by omega
  | succ q ih =>
    intro a d h ha hs hm hS hC hO
    by_cases hlt : a + 20 ≤ n
    · rw [blkGo_go _ hlt]
      obtain ⟨h1, h2⟩ := insertion_sorted ht (a := a) (b := a + 20) (d := d) (by omega) (by omega) (fun i j g1 g2 g3 => hO i j g1 g2 (by omega))
      refine ih (a + 20) _ (by omega) hlt (h2.1.trans hs) hm.next (fun c hc hca => ?_) (fun c hc => ?_) (fun i j g1 g2 g3 => ?_)
      · rcases Nat.lt_or_ge c a with g | g
        · have := hc.gap hm g
          exact (hS c hc g).kept h2 (.inl (by omega))
        · have hce : c = a := by
            rcases Nat.lt_or_ge a c with g2 | g2
            · have := hm.gap hc g2; omega
            · omega
          subst hce
          rw [show min (c + 20) n = c + 20 by omega]
          exact h1
      · rcases Nat.lt_or_ge a c with g | g
        · have := hm.gap hc g
          exact (hC c hc).kept h2 (.inl ⟨by omega, this⟩)
        · exact (hC c hc).kept h2 (.inr (.inl ⟨g, by omega⟩))
      · rw [h2.2.1 i (by omega), h2.2.1 j (by omega)]
        exact hO i j (by omega) g2 g3
    · rw [blkGo_stop _ hlt]
      obtain ⟨h1, h2⟩ := insertion_sorted ht (a := a) (b := n) (d := d) (by omega) (by omega) hO
      refine ⟨h2.1.trans hs, fun c hc => ⟨?_, ?_⟩⟩
      · rcases Nat.lt_or_ge a c with g | g
        · have := hm.gap hc g
          rcases Nat.lt_or_ge c n with g3 | g3
          · omega
          · exact fun i j e1 e2 e3 e4 => by omega
        · exact (hC c hc).kept h2 (.inr (.inl ⟨g, Nat.le_refl _⟩))
      · rcases Nat.lt_or_ge c a with g | g
        · have := hc.gap hm g
          exact (hS c hc g).kept h2 (.inl (by omega))
        · rcases Nat.lt_or_ge a c with g2 | g2
          · have := hm.gap hc g2
            exact fun i j e1 e2 e3 => by omega
          · exact h1.part g (by omega)

theorem mrgGo_sorted {n k : Nat} (hk : 0 < k) : ∀ (q a : Nat) (d : Array α), n - a ≤ q → d.size = n → Mul (2 * k) a → (∀ c, Mul (2 * k) c → c < a → Sor R c (min (c + 2 * k) n) d) → (∀ c, Mul k c → a ≤ c → Sor R c (min (c + k) n) d) → (∀ c, Mul (2 * k) c → Crs R lt 0 c n d) → (∀ c, Mul k c → a ≤ c → Crs R lt 0 c n d) → Inv R lt n (2 * k) (mrgGo lt n k a d) := by
  intro q
  induction q with
  | zero =>
    intro a d h hs hm hS hS2 hC hC2
    rw [mrgGo_stop _ (by omega) (by omega)]
    refine ⟨hs, fun c hc => ⟨hC c hc, ?_⟩⟩
    rcases Nat.lt_or_ge c a with g | g
    · exact hS c hc g
    · exact fun i j e1 e2 e3 => by omega
  | succ q ih =>
    intro a d h hs hm hS hS2 hC hC2
    have hmk := hm.half
    by_cases hlt : a + 2 * k ≤ n
    · rw [mrgGo_go _ hk hlt]
      have s1 := hS2 a hmk (Nat.le_refl _)
      have s2 := hS2 (a + k) hmk.next (by omega)
      rw [show min (a + k) n = a + k by omega] at s1
      rw [show min (a + k + k) n = a + 2 * k by omega] at s2
      obtain ⟨h1, h2⟩ := symM_sorted ht (2 * k) a (a + k) (a + 2 * k) d (by omega) (by omega) (by omega) (by omega) s1 s2 (fun i j g1 g2 g3 g4 => hC2 (a + k) hmk.next (by omega) i j (by omega) g2 g3 (by omega))
      refine ih (a + 2 * k) _ (by omega) (h2.1.trans hs) hm.next (fun c hc hca => ?_) (fun c hc hca => (hS2 c hc (by omega)).kept h2 (.inr hca)) (fun c hc => ?_) (fun c hc hca => (hC2 c hc (by omega)).kept h2 (.inl ⟨by omega, hca⟩))
      · rcases Nat.lt_or_ge c a with g | g
        · have := hc.gap hm g
          exact (hS c hc g).kept h2 (.inl (by omega))
        · have hce : c = a := by
            rcases Nat.lt_or_ge a c with g2 | g2
            · have := hm.gap hc g2; omega
            · omega
          subst hce
          rw [show min (c + 2 * k) n = c + 2 * k by omega]
          exact h1
      · rcases Nat.lt_or_ge a c with g | g
        · have := hm.gap hc g
          exact (hC c hc).kept h2 (.inl ⟨by omega, this⟩)
        · exact (hC c hc).kept h2 (.inr (.inl ⟨g, by omega⟩))
    · by_cases h2 : a + k < n
      · rw [mrgGo_last _ hlt h2]
        have s1 := hS2 a hmk (Nat.le_refl _)
        have s2 := hS2 (a + k) hmk.next (by omega)
        rw [show min (a + k) n = a + k by omega] at s1
        rw [show min (a + k + k) n = n by omega] at s2
        obtain ⟨h3, h4⟩ := symM_sorted ht (n - a) a (a + k) n d (by omega) (by omega) (by omega) (by omega) s1 s2 (fun i j g1 g2 g3 g4 => hC2 (a + k) hmk.next (by omega) i j (by omega) g2 g3 g4)
        refine ⟨h4.1.trans hs, fun c hc => ⟨?_, ?_⟩⟩
        · rcases Nat.lt_or_ge a c with g | g
          · have := hm.gap hc g
            exact fun i j e1 e2 e3 e4 => by omega
          · exact (hC c hc).kept h4 (.inr (.inl ⟨g, Nat.le_refl _⟩))
        · rcases Nat.lt_or_ge c a with g | g
          · have := hc.gap hm g
            exact (hS c hc g).kept h4 (.inl (by omega))
          · exact h3.part g (by omega)
      · rw [mrgGo_stop _ hlt h2]
        refine ⟨hs, fun c hc => ⟨hC c hc, ?_⟩⟩
        rcases Nat.lt_or_ge c a with g | g
        · exact hS c hc g
        · rcases Nat.lt_or_ge a c with g2 | g2
          · have := hm.gap hc g2
            exact fun i j e1 e2 e3 => by omega
          · have hce : c = a := by omega
            subst hce
            exact (hS2 c hmk (Nat.le_refl _)).part (Nat.le_refl _) (by omega)

theorem dblGo_sorted {n : Nat} : ∀ (q k : Nat) (d : Array α), n - k ≤ q → 0 < k → Inv R lt n k d → Sor R 0 n (dblGo lt n k d) := by
  intro q
  induction q with
  | zero =>
    intro k d h hk hI
    rw [dblGo_stop _ (by omega)]
    exact ((hI.2 0 (Mul.zero k)).2).part (Nat.le_refl _) (by omega)
  | succ q ih =>
    intro k d h hk hI
    by_cases hlt : k < n
    · rw [dblGo_go _ hk hlt]
      refine ih (k * 2) _ (by omega) (by omega) ?_
      rw [Nat.mul_comm k 2]
      exact mrgGo_sorted ht hk _ 0 d (Nat.le_refl _) hI.1 (Mul.zero _) (fun c hc hca => by omega) (fun c hc _ => (hI.2 c hc).2) (fun c hc => (hI.2 c hc.half).1) (fun c hc _ => (hI.2 c hc).1)
    · rw [dblGo_stop _ hlt]
      exact ((hI.2 0 (Mul.zero k)).2).part (Nat.le_refl _) (by omega)

/-- SortStableFunc brings a row into order. -/
theorem stableF_sorted {d : Array α} (hO : ∀ i j, i < j → j < d.size → OrdP R lt d[i]! d[j]!) : ∀ i j, i < j → j < d.size → R (stableF lt d)[i]! (stableF lt d)[j]! := by
  have h1 := blkGo_sorted ht (n := d.size) _ 0 d (Nat.le_refl _) (Nat.zero_le _) rfl (Mul.zero 20) (fun c hc hca => by omega) (fun c hc i j _ g2 g3 g4 => hO i j (by omega) g4) (fun i j _ g2 g3 => hO i j g2 g3)
  have h2 := dblGo_sorted ht _ 20 _ (Nat.le_refl _) (by decide) h1
  exact fun i j g1 g2 => h2 i j (Nat.zero_le _) g1 g2
omit ht

theorem swp_perm {d : Array α} {i j : Nat} (hi : i < d.size) (hj : j < d.size) : (swp d i j).Perm d := by
  have : swp d i j = d.swap i j hi hj := by
    apply Array.ext
    · rw [size_swp, Array.size_swap]
    · intro k h1 h2
      have h3 : k < d.size := by rw [size_swp] at h1; exact h1
      have h4 := swp_get hi hj k
      rw [getElem!_pos _ k h1, getElem!_pos d i hi, getElem!_pos d j hj, getElem!_pos d k h3] at h4
      rw [h4, Array.getElem_swap]
      by_cases e1 : k = j
      · subst e1
        by_cases e2 : k = i
        · subst e2; simp
        · rw [if_pos rfl, if_neg e2, if_pos rfl]
      · rw [if_neg e1]
        by_cases e2 : k = i
        · subst e2; rw [if_pos rfl, if_pos rfl]
        · rw [if_neg e2, if_neg e2, if_neg e1]
  rw [this]
  exact Array.swap_perm hi hj
theorem Swaps.perm {d e : Array α} (h : Swaps d e) : e.Perm d := by
  induction h with
  | refl => exact Array.Perm.refl _
  | step e i j hi hj _ ih => exact (swp_perm hi hj).trans ih
theorem stableF_perm (d : Array α) : (stableF lt d).toList.Perm d.toList := Array.perm_iff_toList_perm.1 (stableF_swaps lt d).perm
end

/-- SortStableFunc's row is the one that is in order, where the order is strict. -/
theorem stableF_is {α : Type} [Inhabited α] {lt : α → α → Bool} {R : α → α → Prop} (ht : ∀ x y z, R x y → R y z → R x z) (hn : ∀ x y, R x y → ¬ R y x) {d : Array α} (hO : ∀ i j, i < j → j < d.size → OrdP R lt d[i]! d[j]!) {ys : List α} (hp : ys.Perm d.toList) (hs : ys.Pairwise R) : (stableF lt d).toList = ys := by
  refine List.Perm.eq_of_pairwise (le := R) (fun a b _ _ h1 h2 => absurd h2 (hn a b h1)) ?_ hs ((stableF_perm d).trans hp.symm)
  rw [List.pairwise_iff_getElem]
  intro i j hi hj hlt
  have h := stableF_sorted ht hO i j hlt (by rw [Array.length_toList, stableF_size] at hj; exact hj)
  rw [getElem!_pos _ i (by simpa using hi), getElem!_pos _ j (by simpa using hj)] at h
  simpa using h
end Go.Proofs.Ytfpcfpjnafnjiaa
