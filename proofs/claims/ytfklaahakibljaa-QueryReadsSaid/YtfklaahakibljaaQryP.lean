/-
  PLAIN: how a query's clauses are read; the words for memory of parts and clauses.
-/
import Derived.Test.YtfklaahakibljaaQryD
namespace Go.Proofs.Ytfklaahakibljaa
open Go.RowKit Go.Shelf

theorem wEndF_le (s : ByteArray) : ∀ (f k : Nat), k ≤ s.size → wEndF s f k ≤ s.size
  | 0, k, h => h
  | f + 1, k, h => by
    rw [wEndF]
    split
    · split
      · rename_i h1 h2
        exact wEndF_le s f (k + 1) (by omega)
      · exact h
    · exact h
theorem wEnd_leS (s : ByteArray) (k : Nat) (h : k ≤ s.size) : wEnd s k ≤ s.size := wEndF_le s _ k h
theorem wEnd_geS (s : ByteArray) : ∀ (f k : Nat), k ≤ wEndF s f k
  | 0, k => Nat.le_refl _
  | f + 1, k => by
    rw [wEndF]
    split
    · split
      · exact Nat.le_trans (Nat.le_succ k) (wEnd_geS s f (k + 1))
      · exact Nat.le_refl _
    · exact Nat.le_refl _
theorem kEnd_bd (s : ByteArray) (i : Nat) (h : i ≤ s.size) : i ≤ kEnd s i ∧ kEnd s i ≤ s.size := by
  have h1 : i ≤ wEnd s i := wEnd_geS s _ i
  have h2 := wEnd_leS s i h
  unfold kEnd
  omega
/-- A part that was read lies ahead, and inside. -/
theorem wordR_next {s : ByteArray} {i j : Nat} {p : Pt} (hi : i ≤ s.size) (h : wordR s i = .good p j) : i < j ∧ j ≤ s.size := by
  have hk := kEnd_bd s i hi
  unfold wordR at h
  split at h
  · cases h
  · rename_i h1
    have h2 : i < kEnd s i := by omega
    split at h
    · split at h
      · injection h with _ h; omega
      · split at h
        · injection h with _ h; omega
        · injection h with _ h; omega
    · injection h with _ h; omega
theorem phraseR_next {s : ByteArray} {i j : Nat} {p : Pt} (hi : i ≤ s.size) (h : phraseR s i = .good p j) : i < j ∧ j ≤ s.size := by
  have h3 := ixB_lt (s.extract i s.size) 34
  rw [ByteArray.size_extract] at h3
  unfold phraseR at h
  split at h
  · cases h
  · split at h
    · cases h
    · injection h with _ h
      omega
theorem partR_next {s : ByteArray} {i j : Nat} {p : Pt} (hi : i ≤ s.size) (h : partR s i = .good p j) : i < j ∧ j ≤ s.size := by
  unfold partR at h
  split at h
  · split at h
    · have := phraseR_next (by omega) h; omega
    · exact wordR_next hi h
  · exact wordR_next hi h
theorem wordR_bad {s : ByteArray} {i : Nat} {k : Int} (_hi : i ≤ s.size) (h : wordR s i = .bad k) : 0 ≤ k := by
  unfold wordR at h
  split at h
  · injection h with h; omega
  · split at h
    · split at h
      · cases h
      · split at h <;> cases h
    · cases h
theorem partR_bad {s : ByteArray} {i : Nat} {k : Int} (hi : i ≤ s.size) (h : partR s i = .bad k) : 0 ≤ k := by
  unfold partR at h
  split at h
  · split at h
    · unfold phraseR at h
      split at h
      · injection h with h; omega
      · split at h
        · injection h with h; omega
        · cases h
    · exact wordR_bad hi h
  · exact wordR_bad hi h

/-! ### Clauses -/

structure Cl where
  neg : Bool
  ps : List Pt
inductive CR where
  | bad (at_ : Int)
  | good (ps : List Pt) (next : Nat)
def partsF (s : ByteArray) : Nat → Nat → List Pt → CR
  | 0, _, acc => .good acc 0
  | f + 1, i, acc =>
    match partR s i with
    | .bad k => .bad k
    | .good p j =>
      if (sb s j).toNat = 124 ∧ j < s.size then partsF s f (j + 1) (acc ++ [p])
      else if j < s.size ∧ (sb s j).toNat ≠ 32 then .bad j
      else .good (acc ++ [p]) j
def partsR (s : ByteArray) (i : Nat) (acc : List Pt) : CR := partsF s (s.size + 1 - i) i acc
theorem partsF_more (s : ByteArray) : ∀ (f i : Nat) (acc : List Pt), i ≤ s.size → s.size + 1 - i ≤ f → partsF s f i acc = partsF s (s.size + 1 - i) i acc
  | 0, i, acc, h, hf => by omega
  | f + 1, i, acc, h, hf => by
    obtain ⟨g, hg⟩ : ∃ g, s.size + 1 - i = g + 1 := ⟨s.size - i, by omega⟩
    rw [hg, partsF, partsF]
    cases hp : partR s i with
    | bad k => rfl
    | good p j =>
      have hn := partR_next h hp
      simp only
      split
      · rename_i h1
        rw [partsF_more s f (j + 1) _ (by omega) (by omega), partsF_more s g (j + 1) _ (by omega) (by omega)]
      · rfl
theorem partsR_step (s : ByteArray) (i : Nat) (acc : List Pt) (h : i ≤ s.size) : partsR s i acc =
    match partR s i with
    | .bad k => .bad k
    | .good p j =>
      if (sb s j).toNat = 124 ∧ j < s.size then partsR s (j + 1) (acc ++ [p])
      else if j < s.size ∧ (sb s j).toNat ≠ 32 then .bad j
      else .good (acc ++ [p]) j := by
  obtain ⟨g, hg⟩ : ∃ g, s.size + 1 - i = g + 1 := ⟨s.size - i, by omega⟩
  unfold partsR
  rw [hg, partsF]
  cases hp : partR s i with
  | bad k => rfl
  | good p j =>
    have hn := partR_next h hp
    simp only
    split
    · rename_i h1
      rw [partsF_more s g (j + 1) _ (by omega) (by omega)]
    · rfl
theorem partsF_next (s : ByteArray) : ∀ (f i : Nat) (acc ps : List Pt) (j : Nat), i ≤ s.size → s.size + 1 - i ≤ f → partsF s f i acc = .good ps j → i < j ∧ j ≤ s.size ∧ ps.length ≤ acc.length + (j - i)
  | 0, i, acc, ps, j, h, hf, he => by omega
  | f + 1, i, acc, ps, j, h, hf, he => by
    rw [partsF] at he
    cases hp : partR s i with
    | bad k => rw [hp] at he; cases he
    | good p k =>
      rw [hp] at he
      have hn := partR_next h hp
      simp only at he
      split at he
      · have := partsF_next s f (k + 1) (acc ++ [p]) ps j (by omega) (by omega) he
        rw [List.length_append, List.length_cons, List.length_nil] at this
        omega
      · split at he
        · cases he
        · injection he with h1 h2
          subst h1 h2
          rw [List.length_append, List.length_cons, List.length_nil]
          omega
theorem partsR_next {s : ByteArray} {i j : Nat} {ps : List Pt} (h : i ≤ s.size) (he : partsR s i [] = .good ps j) : i < j ∧ j ≤ s.size ∧ ps.length ≤ j - i := by
  have := partsF_next s _ i [] ps j h (Nat.le_refl _) he
  simp only [List.length_nil] at this
  omega
theorem partsF_bad (s : ByteArray) : ∀ (f i : Nat) (acc : List Pt) (k : Int), i ≤ s.size → partsF s f i acc = .bad k → 0 ≤ k
  | 0, i, acc, k, h, he => by cases he
  | f + 1, i, acc, k, h, he => by
    rw [partsF] at he
    cases hp : partR s i with
    | bad q =>
      rw [hp] at he
      injection he with he
      subst he
      exact partR_bad h hp
    | good p j =>
      rw [hp] at he
      have hn := partR_next h hp
      simp only at he
      split at he
      · exact partsF_bad s f (j + 1) (acc ++ [p]) k (by omega) he
      · split at he
        · injection he with he; omega
        · cases he
theorem partsR_bad {s : ByteArray} {i : Nat} {k : Int} {acc : List Pt} (h : i ≤ s.size) (he : partsR s i acc = .bad k) : 0 ≤ k := partsF_bad s _ i acc k h he

inductive QR where
  | bad (at_ : Int)
  | good (cs : List Cl)
def startOf (s : ByteArray) (i : Nat) : Nat := if (sb s i).toNat = 45 then i + 1 else i
def queryF (s : ByteArray) : Nat → Nat → List Cl → QR
  | 0, _, acc => .good acc
  | f + 1, i, acc =>
    if i < s.size then
      if (sb s i).toNat = 32 then queryF s f (i + 1) acc
      else match partsR s (startOf s i) [] with
        | .bad k => .bad k
        | .good ps j => queryF s f j (acc ++ [⟨(sb s i).toNat == 45, ps⟩])
    else .good acc
def queryR (s : ByteArray) (i : Nat) (acc : List Cl) : QR := queryF s (s.size - i) i acc
theorem startOf_bd {s : ByteArray} {i : Nat} (h : i < s.size) : i ≤ startOf s i ∧ startOf s i ≤ s.size := by
  unfold startOf
  split <;> omega
theorem queryF_more (s : ByteArray) : ∀ (f i : Nat) (acc : List Cl), s.size - i ≤ f → queryF s f i acc = queryF s (s.size - i) i acc
  | 0, i, acc, hf => by rw [show s.size - i = 0 by omega]
  | f + 1, i, acc, hf => by
    by_cases hi : i < s.size
    · obtain ⟨g, hg⟩ : ∃ g, s.size - i = g + 1 := ⟨s.size - i - 1, by omega⟩
      rw [hg, queryF, queryF, if_pos hi, if_pos hi]
      split
      · rw [queryF_more s f (i + 1) _ (by omega), queryF_more s g (i + 1) _ (by omega)]
      · have hs := startOf_bd hi
        cases hp : partsR s (startOf s i) [] with
        | bad k => rfl
        | good ps j =>
          have hn := partsR_next hs.2 hp
          simp only
          rw [queryF_more s f j _ (by omega), queryF_more s g j _ (by omega)]
    · rw [show s.size - i = 0 by omega, queryF, queryF, if_neg hi]
theorem queryR_step (s : ByteArray) (i : Nat) (acc : List Cl) (h : i < s.size) : queryR s i acc =
    if (sb s i).toNat = 32 then queryR s (i + 1) acc
    else match partsR s (startOf s i) [] with
      | .bad k => .bad k
      | .good ps j => queryR s j (acc ++ [⟨(sb s i).toNat == 45, ps⟩]) := by
  obtain ⟨g, hg⟩ : ∃ g, s.size - i = g + 1 := ⟨s.size - i - 1, by omega⟩
  unfold queryR
  rw [hg, queryF, if_pos h]
  split
  · rw [queryF_more s g (i + 1) _ (by omega)]
  · have hs := startOf_bd h
    cases hp : partsR s (startOf s i) [] with
    | bad k => rfl
    | good ps j =>
      have hn := partsR_next hs.2 hp
      simp only
      rw [queryF_more s g j _ (by omega)]
theorem queryR_over (s : ByteArray) (i : Nat) (acc : List Cl) (h : s.size ≤ i) : queryR s i acc = .good acc := by
  unfold queryR
  rw [show s.size - i = 0 by omega, queryF]
def manyOf (cs : List Cl) : Nat := (cs.map fun c => c.ps.length).sum
theorem manyOf_snoc (cs : List Cl) (c : Cl) : manyOf (cs ++ [c]) = manyOf cs + c.ps.length := by simp [manyOf]
/-- What a query's reading answers: clauses, a place, an error. -/
def ansR (s : ByteArray) : List Cl × Int × Int :=
  if 400 < s.size then ([], 0, 4) else
  match queryR s 0 [] with
  | .bad k => ([], k, 8)
  | .good cs => if 20 < manyOf cs then ([], 0, 4) else (cs, 0, 0)

end Go.Proofs.Ytfklaahakibljaa
