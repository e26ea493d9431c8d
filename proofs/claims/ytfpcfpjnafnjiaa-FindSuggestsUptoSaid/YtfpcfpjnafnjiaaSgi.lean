/-
  PLAIN: the words that are near a word, by distance, times and letters: the program's and the reference's way are one.
-/
import Derived.Test.YtfpcfpjnafnjiaaSgd
import Derived.Test.YtfpcfpjnafnjiaaSgh
import Derived.Test.YtfpcfpjnafnjiaaSmg
import Derived.Test.YtfpcfpjnafnjiaaCmb
import Derived.Test.YtfpcfpjnafnjiaaDistE
import Derived.Sort.AssemblyPlain
import Derived.Shelf.SlSortCmp.Insertion
set_option linter.all false
namespace Go.Proofs.Ytfpcfpjnafnjiaa
open Go.RowKit Go.Lib Go.Sort Go.Shelf Osa

/-- A word, in how many blocks it is, how often. -/
structure Og where
  t : ByteArray
  b : Int
  n : Int
  h : t.size ≤ 1900000
instance : Inhabited Og := ⟨⟨⟨#[]⟩, 0, 0, by decide⟩⟩
def timesF (l : List Po) : Int := l.foldl (fun n p => IntKind.i64.wrap (n + (p.ns.length : Int))) 0
theorem timesF_snoc (l : List Po) (p : Po) : timesF (l ++ [p]) = IntKind.i64.wrap (timesF l + (p.ns.length : Int)) := by
  unfold timesF
  rw [List.foldl_append]
  rfl
def ogOf (t : Te) : Og := if h : t.t.size ≤ 1900000 then ⟨t.t, t.l.length, timesF t.l, h⟩ else default
theorem ogOf_is {t : Te} (h : t.t.size ≤ 1900000) : ogOf t = ⟨t.t, t.l.length, timesF t.l, h⟩ := dif_pos h
def SizedT (T : List Te) : Prop := ∀ t ∈ T, t.t.size ≤ 1900000
def nearB (P y : ByteArray) : Bool := (distR P y (slackR P.size)).2
def dst (P y : ByteArray) : Int := (distR P y (slackR P.size)).1
def dfull (P y : ByteArray) : Int := D (sb P) (sb y) P.size y.size
theorem dst_near {P y : ByteArray} (h : nearB P y = true) : dst P y = dfull P y := by
  unfold nearB distR at h
  unfold dst distR dfull
  split
  · rfl
  · rename_i hn
    rw [if_neg hn] at h
    cases h
def nearL (P : ByteArray) (T : List Te) : List Og := (T.filter (fun t => nearB P t.t)).map ogOf
theorem nearL_nil (P : ByteArray) : nearL P [] = [] := rfl
theorem nearL_yes {P : ByteArray} {T : List Te} {t : Te} (h : nearB P t.t = true) : nearL P (T ++ [t]) = nearL P T ++ [ogOf t] := by
  unfold nearL
  rw [List.filter_append, List.map_append, List.filter_cons_of_pos (by exact h), List.filter_nil]
  rfl
theorem nearL_no {P : ByteArray} {T : List Te} {t : Te} (h : nearB P t.t = false) : nearL P (T ++ [t]) = nearL P T := by
  unfold nearL
  rw [List.filter_append, List.map_append, List.filter_cons_of_neg (by rw [h]; exact Bool.false_ne_true), List.filter_nil, List.map_nil, List.append_nil]
theorem nearL_len (P : ByteArray) (T : List Te) : (nearL P T).length ≤ T.length := by
  unfold nearL
  rw [List.length_map]
  exact List.length_filter_le _ _
theorem nearL_mem {P : ByteArray} {T : List Te} (hs : SizedT T) : ∀ x ∈ nearL P T, nearB P x.t = true ∧ ∃ t ∈ T, x.t = t.t := fun x hx => by
  unfold nearL at hx
  obtain ⟨t, h1, rfl⟩ := List.mem_map.1 hx
  obtain ⟨h2, h3⟩ := List.mem_filter.1 h1
  rw [ogOf_is (hs t h2)]
  exact ⟨h3, t, h2, rfl⟩

/-! ### The two orders -/
def or3 (p q r : Int) : Int := if p = 0 then (if q = 0 then r else q) else p
theorem or3_or2 (p q r : Int) : or3 p q r = or2 p (or2 q r) := rfl
def cmpW (x y : ByteArray) : Int := compareBytes x.data.toList y.data.toList
def cfP (P : ByteArray) (x y : Og) : Int := or3 (cmp3 (dst P x.t) (dst P y.t)) (cmp3 y.n x.n) (cmpW x.t y.t)
def cfR (P : ByteArray) (x y : Og) : Int := or3 (cmp3 (dfull P x.t) (dfull P y.t)) (cmp3 y.n x.n) (cmpW x.t y.t)
/-- The order is before, in plain words. -/
def Bef (P : ByteArray) (x y : Og) : Prop := dfull P x.t < dfull P y.t ∨ (dfull P x.t = dfull P y.t ∧ (y.n < x.n ∨ (y.n = x.n ∧ cmpW x.t y.t < 0)))
theorem cmp3_cases (a b : Int) : (a < b ∧ cmp3 a b = -1) ∨ (a = b ∧ cmp3 a b = 0) ∨ (b < a ∧ cmp3 a b = 1) := by
  unfold cmp3
  split
  · exact .inl ⟨by assumption, rfl⟩
  · split
    · exact .inr (.inr ⟨by assumption, rfl⟩)
    · exact .inr (.inl ⟨by omega, rfl⟩)
theorem cfR_neg {P : ByteArray} {x y : Og} : cfR P x y < 0 ↔ Bef P x y := by
  unfold cfR Bef or3
  generalize dfull P x.t = a
  generalize dfull P y.t = b
  generalize cmpW x.t y.t = c
  rcases cmp3_cases a b with ⟨h, e⟩ | ⟨h, e⟩ | ⟨h, e⟩
  · rw [e]
    simp only [Int.reduceNeg, Int.reduceEq, if_false]
    omega
  · rw [e]
    simp only [if_true]
    rcases cmp3_cases y.n x.n with ⟨g, e2⟩ | ⟨g, e2⟩ | ⟨g, e2⟩
    · rw [e2]
      simp only [Int.reduceNeg, Int.reduceEq, if_false]
      omega
    · rw [e2]
      simp only [if_true]
      omega
    · rw [e2]
      simp only [Int.reduceEq, if_false]
      omega
  · rw [e]
    simp only [Int.reduceEq, if_false]
    omega
theorem cmpW_swap (x y : ByteArray) : cmpW y x = - cmpW x y := cmpB_swap _ _
theorem cmpW_zero {x y : ByteArray} (h : cmpW x y = 0) : x = y := byteArray_ext (cmpB_eq h)
theorem cmpW_trans {x y z : ByteArray} (h1 : cmpW x y < 0) (h2 : cmpW y z < 0) : cmpW x z < 0 := by
  have h3 := cmpB_trans x.data.toList y.data.toList z.data.toList (by unfold cmpW at h1; omega) (by unfold cmpW at h2; omega)
  rcases Int.lt_or_eq_of_le h3 with h | h
  · exact h
  · have he := cmpB_eq h
    unfold cmpW at h1 h2
    rw [he] at h1
    have := cmpB_swap y.data.toList z.data.toList
    omega
theorem bef_trans (P : ByteArray) (x y z : Og) (h1 : Bef P x y) (h2 : Bef P y z) : Bef P x z := by
  have h3 := @cmpW_trans x.t y.t z.t
  unfold Bef at *
  omega
theorem bef_asym (P : ByteArray) (x y : Og) (h1 : Bef P x y) : ¬ Bef P y x := by
  have h3 := cmpW_swap x.t y.t
  unfold Bef at *
  omega
theorem bef_total (P : ByteArray) (x y : Og) (h : x.t ≠ y.t) : Bef P x y ∨ Bef P y x := by
  have h3 := cmpW_swap x.t y.t
  have h4 : cmpW x.t y.t ≠ 0 := fun e => h (cmpW_zero e)
  unfold Bef at *
  omega
theorem swo_cfR (P : ByteArray) : SWO (ltOf (cfR P)) where
  irrefl x := by
    unfold ltOf
    rw [decide_eq_false_iff_not, cfR_neg]
    exact fun h => bef_asym P x x h h
  trans x y z h1 h2 := by
    unfold ltOf at *
    rw [decide_eq_true_eq, cfR_neg] at *
    exact bef_trans P x y z h1 h2
  ntrans x y z h1 h2 := by
    unfold ltOf at *
    rw [decide_eq_false_iff_not, cfR_neg] at *
    have s1 := cmpW_swap x.t y.t
    have s2 := cmpW_swap y.t z.t
    have s3 := cmpW_swap x.t z.t
    have t1 := cmpB_trans z.t.data.toList y.t.data.toList x.t.data.toList
    unfold Bef cmpW at *
    omega
theorem cfP_near {P : ByteArray} {x y : Og} (hx : nearB P x.t = true) (hy : nearB P y.t = true) : cfP P x y = cfR P x y := by
  unfold cfP cfR
  rw [dst_near hx, dst_near hy]

/-! ### Words that rise -/
theorem leB_false {a b : ByteArray} (h : leB a b = false) : cmpW b a < 0 := by
  unfold leB at h
  rw [toList_data, toList_data] at h
  unfold cmpW
  rcases less_cmp a.data.toList b.data.toList with ⟨h1, h2, h3, h4⟩ | ⟨h1, h2, h3, h4⟩ | ⟨h1, h2, h3, h4⟩
  · rw [h2] at h; cases h
  · have := cmpB_swap a.data.toList b.data.toList
    omega
  · rw [h4] at h; simp at h
theorem words_rise {E : List En} {T : List Te} (h : ∀ j, j < T.length → termErr E T j = 0) : ∀ i j (hi : i < T.length) (hj : j < T.length), i < j → cmpW T[i].t T[j].t < 0 := by
  have hs : ∀ j (hj : j + 1 < T.length), cmpW T[j].t T[j + 1].t < 0 := fun j hj => by
    have h2 := h (j + 1) hj
    rcases termErr_cases (E := E) hj with ⟨_, h3⟩ | ⟨_, ⟨_, h3⟩ | ⟨_, ⟨_, _, h3⟩ | ⟨h3, _⟩⟩⟩
    · omega
    · omega
    · omega
    · have h4 := h3 (by omega)
      rw [show j + 1 - 1 = j from rfl, gT_eq (show j < T.length by omega)] at h4
      exact leB_false h4
  intro i j
  induction j with
  | zero => intro _ _ h; omega
  | succ j ih =>
    intro hi hj hlt
    rcases Nat.lt_or_ge i j with g | g
    · exact cmpW_trans (ih hi (by omega) g) (hs j hj)
    · obtain rfl : i = j := by omega
      exact hs i hj
theorem near_apart {E : List En} {P : ByteArray} {T : List Te} (hs : SizedT T) (h : ∀ j, j < T.length → termErr E T j = 0) : (nearL P T).Pairwise (fun x y => x.t ≠ y.t) := by
  have h1 : T.Pairwise (fun x y => (ogOf x).t ≠ (ogOf y).t) := by
    rw [List.pairwise_iff_getElem]
    intro i j hi hj hlt e
    rw [ogOf_is (hs _ (List.getElem_mem hi)), ogOf_is (hs _ (List.getElem_mem hj))] at e
    simp only at e
    have h2 := words_rise h i j hi hj hlt
    rw [e] at h2
    have := cmpW_swap T[j].t T[j].t
    omega
  unfold nearL
  rw [List.pairwise_map]
  exact h1.sublist List.filter_sublist

/-! ### Both ways -/
def sortR (P : ByteArray) (xs : List Og) : List Og := (pdq (ltOf (cfR P)) xs.toArray 0 xs.length (Lib.bitLen xs.length) true true).toList
theorem sortR_in (P : ByteArray) (xs : List Og) : PermIn 0 xs.length xs.toArray (pdq (ltOf (cfR P)) xs.toArray 0 xs.length (Lib.bitLen xs.length) true true) ∧ SortedIn (ltOf (cfR P)) 0 xs.length (pdq (ltOf (cfR P)) xs.toArray 0 xs.length (Lib.bitLen xs.length) true true) := by
  have h := pdq_sorts (ltOf (cfR P)) (swo_cfR P) xs.toArray 0 xs.toArray.size (Lib.bitLen xs.toArray.size) true true (Nat.zero_le _) (Nat.le_refl _) (Or.inl rfl)
  simpa using h
theorem sortR_perm (P : ByteArray) (xs : List Og) : (sortR P xs).Perm xs := by
  obtain ⟨h1, _, h3⟩ := (sortR_in P xs).1
  unfold sortR
  generalize pdq (ltOf (cfR P)) xs.toArray 0 xs.length (Lib.bitLen xs.length) true true = E at h1 h3 ⊢
  have hD : E.size = xs.length := by rw [h1]; simp
  rw [← hD, Array.extract_size] at h3
  have e2 : (xs.toArray.extract 0 E.size).toList = xs := by rw [hD]; simp
  rw [e2] at h3
  exact h3
theorem sortR_sorted (P : ByteArray) (xs : List Og) : (sortR P xs).Pairwise fun x y => ¬ Bef P y x := by
  have h := (sortR_in P xs).2
  have hl : (sortR P xs).length = xs.length := (sortR_perm P xs).length_eq
  rw [List.pairwise_iff_getElem]
  intro i j hi hj hij
  have h2 := h i j (Nat.zero_le _) hij (by omega)
  rw [show ∀ a b, ltOf (cfR P) a b = decide (cfR P a b < 0) from fun _ _ => rfl, decide_eq_false_iff_not, cfR_neg] at h2
  unfold sortR at hi hj ⊢
  rw [getElem!_pos _ j (by simpa using hj), getElem!_pos _ i (by simpa using hi)] at h2
  simpa using h2
def sortP (P : ByteArray) (xs : List Og) : List Og := (stableF (ltOf (cfP P)) xs.toArray).toList
theorem sortP_len (P : ByteArray) (xs : List Og) : (sortP P xs).length = xs.length := by
  unfold sortP
  rw [Array.length_toList, stableF_size]
  simp
theorem sortR_len (P : ByteArray) (xs : List Og) : (sortR P xs).length = xs.length := (sortR_perm P xs).length_eq
/-- Both sorts lay the words alike. -/
theorem sorts_same {P : ByteArray} {xs : List Og} (hd : xs.Pairwise (fun x y => x.t ≠ y.t)) (hn : ∀ x ∈ xs, nearB P x.t = true) : sortP P xs = sortR P xs := by
  have hne : ∀ i j, i < j → j < xs.toArray.size → nearB P (xs.toArray[i]!).t = true ∧ nearB P (xs.toArray[j]!).t = true ∧ (xs.toArray[i]!).t ≠ (xs.toArray[j]!).t := fun i j hij hj => by
    have hj2 : j < xs.length := by simpa using hj
    rw [getElem!_pos _ i (by omega), getElem!_pos _ j hj]
    rw [List.pairwise_iff_getElem] at hd
    exact ⟨by simpa using hn xs[i] (List.getElem_mem (by omega)), by simpa using hn xs[j] (List.getElem_mem hj2), by simpa using hd i j (by omega) hj2 hij⟩
  refine stableF_is (R := Bef P) (bef_trans P) (bef_asym P) (fun i j hij hj => ?_) (by simpa using sortR_perm P xs) ?_
  · obtain ⟨n1, n2, n3⟩ := hne i j hij hj
    unfold OrdP ltOf
    rw [cfP_near n2 n1, decide_eq_false_iff_not, decide_eq_true_eq, cfR_neg]
    exact ⟨fun h => (bef_total P _ _ n3).resolve_right h, fun h => h⟩
  · have hs := sortR_sorted P xs
    have hp : (sortR P xs).Pairwise (fun x y => x.t ≠ y.t) := (sortR_perm P xs).symm.pairwise hd (fun h e => h e.symm)
    exact (hs.and hp).imp fun h => (bef_total P _ _ h.2).resolve_right h.1
def sugP (P : ByteArray) (T : List Te) (m : Nat) : List ByteArray := ((sortP P (nearL P T)).take m).map Og.t
def sugR (P : ByteArray) (T : List Te) (m : Nat) : List ByteArray := ((sortR P (nearL P T)).take m).map Og.t
theorem sug_same {E : List En} {P : ByteArray} {T : List Te} {m : Nat} (hs : SizedT T) (h : ∀ j, j < T.length → termErr E T j = 0) : sugP P T m = sugR P T m := by
  unfold sugP sugR
  rw [sorts_same (near_apart hs h) (fun x hx => (nearL_mem hs x hx).1)]
end Go.Proofs.Ytfpcfpjnafnjiaa
