/-
  PLAIN: how long what a query's reading gives can be.
-/
import Derived.Test.YtfklaahakibljaaQryP
namespace Go.Proofs.Ytfklaahakibljaa
open Go.RowKit Go.Shelf

theorem wordsF_len (s : ByteArray) : ∀ (f i : Nat), (wordsF s f i).length ≤ f
  | 0, i => Nat.le_refl _
  | f + 1, i => by
    rw [wordsF]
    split
    · have h := wordsF_len s f (max (wEnd s i) (i + 1))
      have h2 : (wdHere s i (wEnd s i)).length ≤ 1 := by unfold wdHere; split <;> simp
      rw [List.length_append]; omega
    · simp
theorem wTexts_len (s : ByteArray) : (wTexts s).length ≤ s.size := by
  rw [wTexts, List.length_map]
  exact wordsF_len s s.size 0
theorem partR_words {s : ByteArray} {i j : Nat} {p : Pt} (h : partR s i = .good p j) : p.ws.length ≤ s.size + 1 := by
  have hw : ∀ {i j : Nat} {p : Pt}, wordR s i = .good p j → p.ws.length ≤ s.size + 1 := by
    intro i j p h
    unfold wordR at h
    split at h
    · cases h
    · split at h
      · split at h
        · injection h with h _; subst h; simp
        · split at h
          · injection h with h _; subst h; simp
          · injection h with h _; subst h; simp
      · injection h with h _; subst h; simp
  unfold partR at h
  split at h
  · split at h
    · unfold phraseR at h
      split at h
      · cases h
      · split at h
        · cases h
        · injection h with h _
          subst h
          refine Nat.le_trans (wTexts_len _) ?_
          rw [ByteArray.size_extract]
          omega
    · exact hw h
  · exact hw h
def PsOk (s : ByteArray) (ps : List Pt) : Prop := ∀ p ∈ ps, p.ws.length ≤ s.size + 1
theorem PsOk.snoc {s : ByteArray} {ps : List Pt} {p : Pt} (h : PsOk s ps) (hp : p.ws.length ≤ s.size + 1) : PsOk s (ps ++ [p]) := fun q hq => by
  rcases List.mem_append.1 hq with hq | hq
  · exact h q hq
  · simp only [List.mem_cons, List.not_mem_nil, or_false] at hq
    subst hq
    exact hp
theorem partsF_ok (s : ByteArray) : ∀ (f i : Nat) (acc ps : List Pt) (j : Nat), PsOk s acc → partsF s f i acc = .good ps j → PsOk s ps
  | 0, i, acc, ps, j, h, he => by injection he with he _; subst he; exact h
  | f + 1, i, acc, ps, j, h, he => by
    rw [partsF] at he
    cases hp : partR s i with
    | bad k => rw [hp] at he; cases he
    | good p k =>
      rw [hp] at he
      have h2 := h.snoc (partR_words hp)
      simp only at he
      split at he
      · exact partsF_ok s f _ _ ps j h2 he
      · split at he
        · cases he
        · injection he with he _; subst he; exact h2
def CsOk (s : ByteArray) (cs : List Cl) : Prop := ∀ c ∈ cs, c.ps.length ≤ s.size ∧ PsOk s c.ps
theorem CsOk.snoc {s : ByteArray} {cs : List Cl} {c : Cl} (h : CsOk s cs) (hc : c.ps.length ≤ s.size ∧ PsOk s c.ps) : CsOk s (cs ++ [c]) := fun q hq => by
  rcases List.mem_append.1 hq with hq | hq
  · exact h q hq
  · simp only [List.mem_cons, List.not_mem_nil, or_false] at hq
    subst hq
    exact hc
theorem queryF_ok (s : ByteArray) : ∀ (f i : Nat) (acc cs : List Cl), CsOk s acc → queryF s f i acc = .good cs → CsOk s cs ∧ cs.length ≤ acc.length + f
  | 0, i, acc, cs, h, he => by injection he with he; subst he; exact ⟨h, by omega⟩
  | f + 1, i, acc, cs, h, he => by
    rw [queryF] at he
    split at he
    · rename_i hi
      split at he
      · have := queryF_ok s f _ acc cs h he
        exact ⟨this.1, by omega⟩
      · cases hp : partsR s (startOf s i) [] with
        | bad k => rw [hp] at he; cases he
        | good ps j =>
          rw [hp] at he
          have hn := partsR_next (startOf_bd hi).2 hp
          have := queryF_ok s f j _ cs (h.snoc (c := ⟨(sb s i).toNat == 45, ps⟩) ⟨by show ps.length ≤ _; omega, partsF_ok s _ _ [] ps j (fun _ h => absurd h (by simp)) hp⟩) he
          rw [List.length_append, List.length_cons, List.length_nil] at this
          exact ⟨this.1, by omega⟩
    · injection he with he; subst he; exact ⟨h, by omega⟩
theorem ansR_ok (s : ByteArray) : (ansR s).1.length ≤ 400 ∧ ∀ c ∈ (ansR s).1, c.ps.length ≤ 400 ∧ ∀ p ∈ c.ps, p.ws.length ≤ 401 := by
  unfold ansR
  split
  · simp
  · rename_i hs
    cases hq : queryR s 0 [] with
    | bad k => simp
    | good cs =>
      simp only
      split
      · simp
      · have := queryF_ok s _ 0 [] cs (fun _ h => absurd h (by simp)) hq
        refine ⟨by have := this.2; simp at this; show cs.length ≤ 400; omega, fun c hc => ⟨by have := (this.1 c hc).1; omega, fun p hp => by have := (this.1 c hc).2 p hp; omega⟩⟩

end Go.Proofs.Ytfklaahakibljaa
