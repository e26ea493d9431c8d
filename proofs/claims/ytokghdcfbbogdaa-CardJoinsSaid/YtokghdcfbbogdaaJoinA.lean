/-
  PLAIN: what Join computes.
-/
import Derived.Test.YtokghdcfbbogdaaKeepA
namespace Go.Proofs.Ytokghdcfbbogdaa
open Go.RowKit

/-- A later state of the same card. -/
def newer (x y : St) : Bool := decide (or2 (cmp3 x.la y.la) (cmp3 x.ti y.ti) < 0)
theorem newer_turned (x y : St) : decide (0 < or2 (cmp3 y.la x.la) (cmp3 y.ti x.ti)) = newer x y := by
  unfold newer
  rw [decide_eq_decide]
  have h : ∀ a b : Int, cmp3 b a = - cmp3 a b := fun a b => by
    unfold cmp3
    by_cases h1 : a < b
    · have : ¬ b < a := by omega
      simp [h1, this]
    · by_cases h2 : b < a
      · simp [h1, h2]
      · simp [h1, h2]
  rw [h x.la y.la, h x.ti y.ti]
  unfold or2
  split <;> split <;> omega
def joinOne (out : List St) (y : St) : List St := match out.findIdx? (named (y.bl, y.no)) with
  | none => out ++ [y]
  | some i => match out[i]? with
    | none => out
    | some x => if newer x y then out.set i y else out
def joinGo (out : List St) : List St → List St
  | [] => out
  | y :: ys => joinGo (joinOne out y) ys
theorem joinOne_none {out : List St} {y : St} (h : out.findIdx? (named (y.bl, y.no)) = none) : joinOne out y = out ++ [y] := by simp [joinOne, h]
theorem joinOne_some {out : List St} {y x : St} {i : Nat} (h : out.findIdx? (named (y.bl, y.no)) = some i) (hx : out[i]? = some x) : joinOne out y = if newer x y then out.set i y else out := by simp [joinOne, h, hx]
theorem joinOne_len (out : List St) (y : St) : out.length ≤ (joinOne out y).length ∧ (joinOne out y).length ≤ out.length + 1 := by
  unfold joinOne
  split
  · simp
  · split
    · omega
    · split <;> simp

/-- The map that holds a list of states. -/
def kvOf (out : List St) : KV := out.map fun x => ((x.bl, x.no), x.val)
theorem kvOf_len (out : List St) : (kvOf out).length = out.length := by simp [kvOf]
theorem kvOf_find (out : List St) (key : Key) : kvFind key (kvOf out) = (out.find? (named key)).map St.val := by
  induction out with
  | nil => rfl
  | cons x xs ih =>
    simp only [kvOf, List.map_cons, kvFind] at ih ⊢
    by_cases h : key = (x.bl, x.no)
    · rw [if_pos h, List.find?_cons_of_pos (by simp [named, h])]; rfl
    · rw [if_neg h, List.find?_cons_of_neg (by simp only [named, decide_eq_true_eq]; exact fun e => h e.symm)]; exact ih
theorem kvOf_put_new (out : List St) (y : St) (h : out.findIdx? (named (y.bl, y.no)) = none) : kvPut (y.bl, y.no) y.val (kvOf out) = kvOf (out ++ [y]) := by
  induction out with
  | nil => rfl
  | cons x xs ih =>
    rw [List.findIdx?_cons] at h
    split at h
    · cases h
    · rename_i hn
      simp only [Option.map_eq_none_iff] at h
      have hne : ¬ (y.bl, y.no) = (x.bl, x.no) := fun e => hn (by simp [named, e])
      have := ih h
      simp only [kvOf, List.map_cons, List.cons_append, kvPut] at this ⊢
      rw [if_neg hne, this]
theorem kvOf_put_old (out : List St) (y : St) : ∀ i, out.findIdx? (named (y.bl, y.no)) = some i → kvPut (y.bl, y.no) y.val (kvOf out) = kvOf (out.set i y) := by
  induction out with
  | nil => intro i h; simp at h
  | cons x xs ih =>
    intro i h
    rw [List.findIdx?_cons] at h
    split at h
    · rename_i hn
      injection h with h
      subst h
      have he : (x.bl, x.no) = (y.bl, y.no) := by simpa [named] using hn
      simp only [kvOf, List.map_cons, kvPut, List.set_cons_zero]
      rw [if_pos he.symm, he]
    · rename_i hn
      simp only [Option.map_eq_some_iff] at h
      obtain ⟨j, hj, rfl⟩ := h
      have hne : ¬ (y.bl, y.no) = (x.bl, x.no) := fun e => hn (by simp [named, e])
      have := ih j hj
      simp only [kvOf, List.map_cons, kvPut, List.set_cons_succ] at this ⊢
      rw [if_neg hne, this]
theorem find_of_idx_none {out : List St} {key : Key} (h : out.findIdx? (named key) = none) : out.find? (named key) = none := by
  rw [List.find?_eq_none]
  intro x hx hn
  have := List.findIdx?_eq_none_iff.1 h x hx
  simp [this] at hn
theorem find_of_idx_some {out : List St} {key : Key} {i : Nat} (h : out.findIdx? (named key) = some i) : ∃ hi : i < out.length, out.find? (named key) = some out[i] ∧ named key out[i] = true := by
  obtain ⟨hi, h1, h2⟩ := List.findIdx?_eq_some_iff_getElem.1 h
  refine ⟨hi, ?_, h1⟩
  rw [List.find?_eq_some_iff_getElem]
  exact ⟨h1, i, hi, rfl, fun j hj => by have := h2 j hj; simpa using this⟩

/-! ### No name stands twice -/
def Apart2 (out : List St) : Prop := out.Pairwise fun x y => (x.bl, x.no) ≠ (y.bl, y.no)
theorem apart2_of_lt {xs : List St} (h : xs.Pairwise St.lt) : Apart2 xs := h.imp (fun {x y} hl e => by injection e with e1 e2; unfold St.lt at hl; omega)
theorem apart2_one {out : List St} {y : St} (h : Apart2 out) : Apart2 (joinOne out y) := by
  unfold joinOne
  split
  · rename_i hn
    unfold Apart2
    rw [List.pairwise_append]
    refine ⟨h, by simp, fun x hx z hz => ?_⟩
    simp only [List.mem_singleton] at hz
    subst hz
    have := List.findIdx?_eq_none_iff.1 hn x hx
    unfold named at this
    simpa using this
  · rename_i i hs
    split
    · exact h
    · rename_i x hx
      split
      · obtain ⟨hi, _, hn⟩ := find_of_idx_some hs
        have he : (out[i].bl, out[i].no) = (y.bl, y.no) := by simpa [named] using hn
        unfold Apart2 at h ⊢
        rw [List.pairwise_iff_getElem] at h ⊢
        intro a b ha hb hab
        rw [List.length_set] at ha hb
        have := h a b ha hb hab
        rw [List.getElem_set, List.getElem_set]
        split
        · rename_i e; subst e
          rw [if_neg (by omega), ← he]; exact this
        · split
          · rename_i e; subst e; rw [← he]; exact this
          · exact this
      · exact h
theorem apart2_go : ∀ (ys out : List St), Apart2 out → Apart2 (joinGo out ys) := by
  intro ys
  induction ys with
  | nil => intro out h; exact h
  | cons y ys ih => intro out h; exact ih _ (apart2_one h)

/-! ### The order of names leaves no choice -/
theorem sortSt_perm2 (xs : List St) : (sortSt xs).Perm xs := by
  obtain ⟨h1, _, h3⟩ := (sortSt_perm xs).1
  unfold sortSt
  generalize Sort.pdq (ltOf byName) xs.toArray 0 xs.length (Lib.bitLen xs.length) true true = D at h1 h3 ⊢
  have hD : D.size = xs.length := by rw [h1]; simp
  rw [← hD, Array.extract_size] at h3
  have e2 : (xs.toArray.extract 0 D.size).toList = xs := by rw [hD]; simp
  rw [e2] at h3
  exact h3
theorem sortSt_sorted (xs : List St) : (sortSt xs).Pairwise fun x y => ¬ y.lt x := by
  have h := (sortSt_perm xs).2
  have hl := sortSt_len xs
  rw [List.pairwise_iff_getElem]
  intro i j hi hj hij
  have h2 := h i j (Nat.zero_le _) hij (by omega)
  rw [lt_byName] at h2
  simp only [decide_eq_false_iff_not] at h2
  unfold sortSt at hi hj ⊢
  rw [getElem!_pos _ j (by simpa using hj), getElem!_pos _ i (by simpa using hi)] at h2
  simpa using h2
theorem sortSt_same {xs ys : List St} (hp : xs.Perm ys) (ha : Apart2 ys) : sortSt xs = sortSt ys := by
  have p1 := (sortSt_perm2 xs).trans hp
  have p2 := sortSt_perm2 ys
  refine List.Perm.eq_of_pairwise (le := fun x y => ¬ y.lt x) (fun a b hma hmb h1 h2 => ?_) (sortSt_sorted xs) (sortSt_sorted ys) (p1.trans p2.symm)
  have ha' : a ∈ ys := p1.mem_iff.1 hma
  have hb' : b ∈ ys := p2.mem_iff.1 hmb
  have hn : (a.bl, a.no) = (b.bl, b.no) := by
    unfold St.lt at h1 h2
    have e1 : a.bl = b.bl := by omega
    have e2 : a.no = b.no := by omega
    rw [e1, e2]
  obtain ⟨i, hi, rfl⟩ := List.getElem_of_mem ha'
  obtain ⟨j, hj, rfl⟩ := List.getElem_of_mem hb'
  unfold Apart2 at ha
  rw [List.pairwise_iff_getElem] at ha
  rcases Nat.lt_trichotomy i j with h | h | h
  · exact absurd hn (ha i j hi hj h)
  · subst h; rfl
  · exact absurd hn.symm (ha j i hj hi h)

def joinR (R : List St) : List St × Int := if 5000 < R.length then ([], 4) else (sortSt R, 0)
def join (xs bs : List St) : List St × Int :=
  if statesErr xs = 0 then (if statesErr bs = 0 then joinR (joinGo xs bs) else ([], statesErr bs)) else ([], statesErr xs)

end Go.Proofs.Ytokghdcfbbogdaa
