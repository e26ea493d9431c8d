/-
  PLAIN: what Keep computes.
-/
import Derived.Test.YtokghdcfbbogdaaSrtB
import Derived.Test.YtokghdcfbbogdaaToday
namespace Go.Proofs.Ytokghdcfbbogdaa
open Go.RowKit

theorem kvFind_put (key k : Key) (v : Value) : ∀ kv : KV, kvFind key (kvPut k v kv) = if key = k then some v else kvFind key kv := by
  intro kv
  induction kv with
  | nil => simp [kvPut, kvFind]
  | cons p ps ih =>
    by_cases h : k = p.1
    · subst h
      simp only [kvPut, if_true, kvFind]
      split <;> rfl
    · simp only [kvPut, if_neg h, kvFind, ih]
      by_cases h2 : key = p.1
      · rw [if_pos h2, if_neg (fun e => h (e.symm.trans h2)), if_pos h2]
      · rw [if_neg h2, if_neg h2]

/-- The states by their names. -/
def knownKV (xs : List St) : Nat → KV
  | 0 => []
  | k + 1 => match xs[k]? with
    | none => knownKV xs k
    | some x => kvPut (x.bl, x.no) x.val (knownKV xs k)
theorem knownKV_succ {xs : List St} {k : Nat} {x : St} (h : xs[k]? = some x) : knownKV xs (k + 1) = kvPut (x.bl, x.no) x.val (knownKV xs k) := by simp [knownKV, h]
def named (k : Key) (y : St) : Bool := decide ((y.bl, y.no) = k)

theorem lt_trans_st {x y z : St} (h1 : x.lt y) (h2 : y.lt z) : x.lt z := by unfold St.lt at *; omega
theorem statesFrom_pair : ∀ (xs : List St) (p : Option St), statesFrom p xs = 0 → (∀ q, p = some q → ∀ x ∈ xs, q.lt x) ∧ xs.Pairwise St.lt := by
  intro xs
  induction xs with
  | nil => intro p _; exact ⟨fun _ _ x hx => (by cases hx), List.Pairwise.nil⟩
  | cons x xs ih =>
    intro p h
    simp only [statesFrom] at h
    split at h
    · split at h
      · cases h
      · rename_i hq
        obtain ⟨h1, h2⟩ := ih _ h
        have h3 := h1 x rfl
        refine ⟨fun q hp y hy => ?_, List.pairwise_cons.2 ⟨h3, h2⟩⟩
        have hx : q.lt x := by
          by_cases hl : q.lt x
          · exact hl
          · exact absurd ⟨q, hp, hl⟩ hq
        rcases List.mem_cons.1 hy with rfl | hy
        · exact hx
        · exact lt_trans_st hx (h3 y hy)
    · rename_i hx; exact absurd h hx
theorem statesErr_pair {xs : List St} (h : statesErr xs = 0) : xs.Pairwise St.lt := by
  have hl := len_of_statesErr h
  unfold statesErr at h
  rw [if_neg (by omega)] at h
  exact (statesFrom_pair xs none h).2

theorem known_take {xs : List St} (h : xs.Pairwise St.lt) (key : Key) : ∀ k, k ≤ xs.length → kvFind key (knownKV xs k) = ((xs.take k).find? (named key)).map St.val := by
  intro k
  induction k with
  | zero => intro _; rfl
  | succ k ih =>
    intro hk
    have hx : xs[k]? = some xs[k] := List.getElem?_eq_getElem (by omega)
    rw [knownKV_succ hx, kvFind_put, ih (by omega), List.take_succ_eq_append_getElem (by omega), List.find?_append]
    by_cases hn : key = (xs[k].bl, xs[k].no)
    · rw [if_pos hn]
      have h0 : (xs.take k).find? (named key) = none := by
        rw [List.find?_eq_none]
        intro y hy
        obtain ⟨j, hj, rfl⟩ := List.getElem_of_mem hy
        rw [List.length_take] at hj
        rw [List.getElem_take]
        have := List.pairwise_iff_getElem.1 h j k (by omega) (by omega) (by omega)
        unfold named
        simp only [decide_eq_true_eq, hn, Prod.mk.injEq]
        unfold St.lt at this
        omega
      rw [h0]
      simp [named, hn]
    · rw [if_neg hn]
      have h0 : [xs[k]].find? (named key) = none := by
        rw [List.find?_eq_none]
        intro y hy
        simp only [List.mem_singleton] at hy
        subst hy
        unfold named
        simp only [decide_eq_true_eq]
        exact fun e => hn e.symm
      rw [h0]
      simp
theorem known_find {xs : List St} (h : statesErr xs = 0) (key : Key) : kvFind key (knownKV xs xs.length) = (xs.find? (named key)).map St.val := by
  rw [known_take (statesErr_pair h) key _ (Nat.le_refl _), List.take_length]

/-- The state of a card: the one that is known, or a fresh one. -/
def pickName (xs : List St) (k : Key) : St := (xs.find? (named k)).getD (St.fresh k.1 k.2)
def cardFar (k : Key) : Bool := decide ((k.1 < 1 ∨ 1000000 < k.1) ∨ (k.2 < 1 ∨ 20 < k.2))
theorem fresh_err (k : Key) : (St.fresh k.1 k.2).err = if cardFar k then 2 else 0 := by
  unfold St.err cardFar
  have h1 : (St.fresh k.1 k.2).far = decide ((k.1 < 1 ∨ 1000000 < k.1) ∨ (k.2 < 1 ∨ 20 < k.2)) := by
    unfold St.far St.fresh
    simp only
    rw [decide_eq_decide]
    omega
  have h2 : (St.fresh k.1 k.2).ill = false := by
    unfold St.ill St.fresh
    simp
  rw [h1, h2]
  simp
/-- Card by card. -/
def keepGo (xs : List St) : List Key → KV → List St → Option (List St × KV) × Int
  | [], kv, out => (some (out, kv), 0)
  | k :: ks, kv, out => if cardFar k then (none, 2) else if kvHas k kv then (none, 6) else keepGo xs ks (kvPut k (.bool true) kv) (out ++ [pickName xs k])
theorem keepGo_far {xs : List St} {k : Key} {ks : List Key} {kv : KV} {out : List St} (h : cardFar k = true) : keepGo xs (k :: ks) kv out = (none, 2) := by simp [keepGo, h]
theorem keepGo_twice {xs : List St} {k : Key} {ks : List Key} {kv : KV} {out : List St} (h : cardFar k = false) (h2 : kvHas k kv = true) : keepGo xs (k :: ks) kv out = (none, 6) := by simp [keepGo, h, h2]
theorem keepGo_step {xs : List St} {k : Key} {ks : List Key} {kv : KV} {out : List St} (h : cardFar k = false) (h2 : kvHas k kv = false) : keepGo xs (k :: ks) kv out = keepGo xs ks (kvPut k (.bool true) kv) (out ++ [pickName xs k]) := by simp [keepGo, h, h2]
/-- Not among the cards. -/
def goneOf (kv : KV) : List St → List St
  | [] => []
  | x :: xs => if kvHas (x.bl, x.no) kv then goneOf kv xs else x :: goneOf kv xs
theorem goneOf_snoc (kv : KV) (x : St) : ∀ xs, goneOf kv (xs ++ [x]) = if kvHas (x.bl, x.no) kv then goneOf kv xs else goneOf kv xs ++ [x] := by
  intro xs
  induction xs with
  | nil => simp [goneOf]
  | cons y ys ih =>
    simp only [List.cons_append, goneOf, ih]
    split <;> split <;> simp
theorem goneOf_take (kv : KV) (xs : List St) (k : Nat) (h : k < xs.length) : goneOf kv (xs.take (k + 1)) = if kvHas (xs[k].bl, xs[k].no) kv then goneOf kv (xs.take k) else goneOf kv (xs.take k) ++ [xs[k]] := by
  rw [List.take_succ_eq_append_getElem h, goneOf_snoc]
theorem goneOf_len (kv : KV) : ∀ xs, (goneOf kv xs).length ≤ xs.length := by
  intro xs
  induction xs with
  | nil => exact Nat.le_refl _
  | cons y ys ih => simp only [goneOf]; split <;> simp <;> omega
theorem keepGo_len (xs : List St) : ∀ (ks : List Key) (kv : KV) (out out' : List St) (kv' : KV) (r : Int), keepGo xs ks kv out = (some (out', kv'), r) → out'.length = out.length + ks.length ∧ r = 0 := by
  intro ks
  induction ks with
  | nil => intro kv out out' kv' r h; simp only [keepGo, Prod.mk.injEq, Option.some.injEq] at h; simp [h.1.1, h.2]
  | cons k ks ih =>
    intro kv out out' kv' r h
    simp only [keepGo] at h
    split at h
    · cases h
    · split at h
      · cases h
      · have := ih _ _ _ _ _ h
        simp at this ⊢; omega
def keep (xs : List St) (cs : List Key) : (List St × List St) × Int :=
  if statesErr xs = 0 then (if 5000 < cs.length then (([], []), 4) else match keepGo xs cs [] [] with
    | (some (out, kv), _) => ((sortSt out, goneOf kv xs), 0)
    | (none, e) => (([], []), e)) else (([], []), statesErr xs)
def keepR (xs : List St) : Option (List St × KV) × Int → (List St × List St) × Int
  | (some (out, kv), _) => ((sortSt out, goneOf kv xs), 0)
  | (none, e) => (([], []), e)
theorem keep_eq {xs : List St} {cs : List Key} (h : statesErr xs = 0) (hc : cs.length ≤ 5000) : keep xs cs = keepR xs (keepGo xs cs [] []) := by
  unfold keep
  rw [if_pos h, if_neg (by omega)]
  rcases keepGo xs cs [] [] with ⟨_ | ⟨out, kv⟩, e⟩ <;> rfl
theorem sortSt_len (xs : List St) : (sortSt xs).length = xs.length := by
  have h1 := (sortSt_perm xs).1.1
  unfold sortSt
  simpa using h1

end Go.Proofs.Ytokghdcfbbogdaa
