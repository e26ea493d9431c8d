/-
  PLAIN: a query that comes in: where it lies; what is wrong with it; its text.
-/
import Derived.Test.YtfpcfpjnafnjiaaWordE
import Derived.Lib.Join
set_option linter.all false
namespace Go.Proofs.Ytfpcfpjnafnjiaa
open Go.RowKit Go.Lib

/-- The first number that is not 0. -/
def firstE (f : Nat → Int) : Nat → Int
  | 0 => 0
  | n + 1 => if firstE f n ≠ 0 then firstE f n else f n
theorem firstE_none {f : Nat → Int} : ∀ {n : Nat}, (∀ j, j < n → f j = 0) → firstE f n = 0
  | 0, _ => rfl
  | n + 1, h => by
    have ih := firstE_none (f := f) (n := n) (fun j hj => h j (by omega))
    rw [firstE, if_neg (by rw [ih]; decide), h n (by omega)]
theorem firstE_first {f : Nat → Int} {k : Nat} (h : ∀ j, j < k → f j = 0) (hk : f k ≠ 0) : ∀ {n : Nat}, k < n → firstE f n = f k
  | 0, hn => by omega
  | n + 1, hn => by
    by_cases hkn : k < n
    · have ih := firstE_first h hk hkn
      rw [firstE, if_pos (by rw [ih]; exact hk), ih]
    · obtain rfl : k = n := by omega
      rw [firstE, if_neg (by rw [firstE_none h]; decide)]
theorem firstE_zero {f : Nat → Int} : ∀ {n : Nat}, firstE f n = 0 → ∀ j, j < n → f j = 0
  | 0, _, j, hj => by omega
  | n + 1, h, j, hj => by
    rw [firstE] at h
    by_cases h0 : firstE f n = 0
    · rw [if_neg (by rw [h0]; decide)] at h
      rcases Nat.lt_or_ge j n with hl | hl
      · exact firstE_zero h0 j hl
      · obtain rfl : j = n := by omega
        exact h
    · rw [if_pos h0] at h
      exact absurd h h0

/-- Where strings lie. -/
def SsAt (w : World) (A : Option Addr) (ss : List ByteArray) : Prop :=
  ss.length ≤ maxLen ∧ (0 < ss.length → ∃ b' o', A = some ⟨b', o', none⟩ ∧ b' < w.heap.size ∧ ∀ j (h : j < ss.length), w.cell? ⟨b', o' + j, none⟩ = some (.string ss[j]))
theorem SsAt.below {w w' : World} {A : Option Addr} {l : List ByteArray} (h : SsAt w A l) (hb : Below w.heap.size w w') : SsAt w' A l :=
  ⟨h.1, fun hl => by
    obtain ⟨b', o', hA, hb', hj⟩ := h.2 hl
    exact ⟨b', o', hA, Nat.lt_of_lt_of_le hb' hb.size, fun j h => (hb.cell (p := ⟨b', o' + j, none⟩) hb').trans (hj j h)⟩⟩

/-- A part, and a clause, of a query. -/
structure Pq where
  k : Int
  ws : List ByteArray
structure Cq where
  neg : Bool
  ps : List Pq
def PqAt (w : World) (p : Pq) (b o : Nat) : Prop :=
  w.cell? ⟨b, o, none⟩ = some (.int .i64 p.k) ∧ ∃ A c, w.cell? ⟨b, o + 1, none⟩ = some (.slice A p.ws.length c) ∧ p.ws.length ≤ c ∧ SsAt w A p.ws
def PqsAt (w : World) (A : Option Addr) (ps : List Pq) : Prop :=
  ps.length ≤ maxLen ∧ (0 < ps.length → ∃ b o, A = some ⟨b, o, none⟩ ∧ b < w.heap.size ∧ ∀ j (h : j < ps.length), PqAt w ps[j] b (o + j * 2))
def CqAt (w : World) (c : Cq) (b o : Nat) : Prop :=
  w.cell? ⟨b, o, none⟩ = some (.bool c.neg) ∧ ∃ A cap, w.cell? ⟨b, o + 1, none⟩ = some (.slice A c.ps.length cap) ∧ PqsAt w A c.ps
def CqsAt (w : World) (A : Option Addr) (cs : List Cq) : Prop :=
  cs.length ≤ maxLen ∧ (0 < cs.length → ∃ b o, A = some ⟨b, o, none⟩ ∧ b < w.heap.size ∧ ∀ j (h : j < cs.length), CqAt w cs[j] b (o + j * 2))
section
variable {w w' : World}
theorem PqAt.below {p : Pq} {b o : Nat} (h : PqAt w p b o) (hb : Below w.heap.size w w') (hlt : b < w.heap.size) : PqAt w' p b o := by
  obtain ⟨h1, A, c, h2, h3, h4⟩ := h
  exact ⟨(hb.cell (p := ⟨b, o, none⟩) hlt).trans h1, A, c, (hb.cell (p := ⟨b, o + 1, none⟩) hlt).trans h2, h3, h4.below hb⟩
theorem PqsAt.below {A : Option Addr} {ps : List Pq} (h : PqsAt w A ps) (hb : Below w.heap.size w w') : PqsAt w' A ps :=
  ⟨h.1, fun hl => by
    obtain ⟨b, o, hA, hlt, hj⟩ := h.2 hl
    exact ⟨b, o, hA, Nat.lt_of_lt_of_le hlt hb.size, fun j h => (hj j h).below hb hlt⟩⟩
theorem CqAt.below {c : Cq} {b o : Nat} (h : CqAt w c b o) (hb : Below w.heap.size w w') (hlt : b < w.heap.size) : CqAt w' c b o := by
  obtain ⟨h1, A, c2, h2, h4⟩ := h
  exact ⟨(hb.cell (p := ⟨b, o, none⟩) hlt).trans h1, A, c2, (hb.cell (p := ⟨b, o + 1, none⟩) hlt).trans h2, h4.below hb⟩
theorem CqsAt.below {A : Option Addr} {cs : List Cq} (h : CqsAt w A cs) (hb : Below w.heap.size w w') : CqsAt w' A cs :=
  ⟨h.1, fun hl => by
    obtain ⟨b, o, hA, hlt, hj⟩ := h.2 hl
    exact ⟨b, o, hA, Nat.lt_of_lt_of_le hlt hb.size, fun j h => (hj j h).below hb hlt⟩⟩
end

/-- Is a string one word, in small letters? -/
def isWordS (x : ByteArray) : Bool := match wordsAt x 0 with
  | [y] => y.t.toList == x.toList
  | _ => false
/-- What is wrong with a part. -/
def Pq.err (p : Pq) : Int := if p.k < 0 ∨ 3 < p.k then 10 else if p.ws.length = 0 ∨ (p.k ≠ 3 ∧ p.ws.length ≠ 1) ∨ p.ws.any (fun x => !isWordS x) = true then 1 else 0
def perrAt (ps : List Pq) (j : Nat) : Int := match ps[j]? with
  | some p => p.err
  | none => 0
theorem perrAt_at {ps : List Pq} {j : Nat} (h : j < ps.length) : perrAt ps j = ps[j].err := by
  unfold perrAt
  rw [List.getElem?_eq_getElem h]
/-- What is wrong with a clause. -/
def Cq.err (c : Cq) : Int := if c.ps.length = 0 then 1 else firstE (perrAt c.ps) c.ps.length
def cerrAt (cs : List Cq) (j : Nat) : Int := match cs[j]? with
  | some c => c.err
  | none => 0
theorem cerrAt_at {cs : List Cq} {j : Nat} (h : j < cs.length) : cerrAt cs j = cs[j].err := by
  unfold cerrAt
  rw [List.getElem?_eq_getElem h]
/-- How many parts there are. -/
def nParts (cs : List Cq) : Nat := (cs.map (fun c => c.ps.length)).sum
theorem nParts_snoc (cs : List Cq) (c : Cq) : nParts (cs ++ [c]) = nParts cs + c.ps.length := by
  unfold nParts
  simp
theorem nParts_take (cs : List Cq) (k : Nat) : nParts (cs.take k) ≤ nParts cs := by
  have h : nParts cs = nParts (cs.take k) + nParts (cs.drop k) := by
    unfold nParts
    rw [← List.sum_append, ← List.map_append, List.take_append_drop]
  omega
theorem nParts_at {cs : List Cq} {j : Nat} (h : j < cs.length) : cs[j].ps.length ≤ nParts cs := by
  have h1 := nParts_take cs (j + 1)
  rw [List.take_succ_eq_append_getElem h, nParts_snoc] at h1
  omega
/-- The text of a part, of a clause, of a query. -/
def Pq.txt (p : Pq) : List UInt8 := if p.k = 3 then 34 :: (join (p.ws.map (·.data.toList)) [32] ++ [34]) else join (p.ws.map (·.data.toList)) [32] ++ (if p.k = 1 then [42] else if p.k = 2 then [126] else [])
def Cq.txt (c : Cq) : List UInt8 := (if c.neg then [45] else []) ++ join (c.ps.map Pq.txt) [124]
def qTxt (cs : List Cq) : List UInt8 := join (cs.map Cq.txt) [32]
/-- What is wrong with a query. -/
def qErr (cs : List Cq) : Int := if 20 < nParts cs then 4 else if firstE (cerrAt cs) cs.length ≠ 0 then firstE (cerrAt cs) cs.length else if 400 < (qTxt cs).length then 4 else 0
theorem qErr_many {cs : List Cq} (h : 20 < nParts cs) : qErr cs = 4 := if_pos h
theorem qErr_first {cs : List Cq} (h : ¬ 20 < nParts cs) {k : Nat} (hk : k < cs.length) (h0 : ∀ j, j < k → cerrAt cs j = 0) (hne : cerrAt cs k ≠ 0) : qErr cs = cerrAt cs k := by
  unfold qErr
  rw [if_neg h, firstE_first h0 hne hk, if_pos hne]
theorem qErr_last {cs : List Cq} (h : ¬ 20 < nParts cs) (h0 : ∀ j, j < cs.length → cerrAt cs j = 0) : qErr cs = if 400 < (qTxt cs).length then 4 else 0 := by
  unfold qErr
  rw [if_neg h, firstE_none h0, if_neg (by decide)]
theorem cErr_none {c : Cq} (h : c.ps.length = 0) : c.err = 1 := if_pos h
theorem cErr_first {c : Cq} {k : Nat} (hk : k < c.ps.length) (h0 : ∀ j, j < k → perrAt c.ps j = 0) (hne : perrAt c.ps k ≠ 0) : c.err = perrAt c.ps k := by
  unfold Cq.err
  rw [if_neg (by omega), firstE_first h0 hne hk]
theorem cErr_ok {c : Cq} (h : ¬ c.ps.length = 0) (h0 : ∀ j, j < c.ps.length → perrAt c.ps j = 0) : c.err = 0 := by
  unfold Cq.err
  rw [if_neg h, firstE_none h0]
theorem qErr_parts {cs : List Cq} (h : qErr cs = 0) : nParts cs ≤ 20 ∧ ∀ c ∈ cs, c.ps.length ≠ 0 ∧ ∀ p ∈ c.ps, p.err = 0 := by
  unfold qErr at h
  by_cases h1 : 20 < nParts cs
  · rw [if_pos h1] at h; cases h
  rw [if_neg h1] at h
  by_cases h2 : firstE (cerrAt cs) cs.length = 0
  · refine ⟨by omega, fun c hc => ?_⟩
    obtain ⟨j, hj, rfl⟩ := List.mem_iff_getElem.1 hc
    have h3 := firstE_zero h2 j hj
    rw [cerrAt_at hj] at h3
    unfold Cq.err at h3
    by_cases h4 : cs[j].ps.length = 0
    · rw [if_pos h4] at h3; cases h3
    rw [if_neg h4] at h3
    refine ⟨h4, fun p hp => ?_⟩
    obtain ⟨i, hi, rfl⟩ := List.mem_iff_getElem.1 hp
    have h5 := firstE_zero h3 i hi
    rwa [perrAt_at hi] at h5
  · rw [if_pos h2] at h
    exact absurd h h2

theorem lowS_size (s : ByteArray) : (lowS s).size = s.size := by
  unfold lowS strOfNums
  show (List.toArray _).size = s.data.size
  rw [List.size_toArray, List.length_map, List.length_map, Array.length_toList]
/-- The words of a string lie in order; each is short. -/
theorem wEnd_le (s : ByteArray) : ∀ (n k : Nat), s.size - k ≤ n → k ≤ s.size → k ≤ wEnd s k ∧ wEnd s k ≤ s.size
  | n, k, hn, hk => by
    by_cases h : k < s.size
    · cases hw : isWI s[k].toNat with
      | true =>
        rw [wEnd_step h hw]
        obtain ⟨m, rfl⟩ : ∃ m, n = m + 1 := ⟨n - 1, by omega⟩
        have := wEnd_le s m (k + 1) (by omega) (by omega)
        omega
      | false => rw [wEnd_stop h hw]; omega
    · rw [wEnd_over (by omega)]; omega
theorem wordsF_in (s : ByteArray) : ∀ (f i : Nat), i ≤ s.size → ∀ y ∈ wordsF s f i, i ≤ y.f ∧ y.f < y.u ∧ y.u ≤ y.f + 30 ∧ y.u ≤ s.size ∧ y.t.size = y.u - y.f
  | 0, i, _, y, hy => by simp [wordsF] at hy
  | f + 1, i, hi, y, hy => by
    rw [wordsF] at hy
    by_cases h : i < s.size
    · rw [if_pos h] at hy
      have he := wEnd_le s _ i (Nat.le_refl _) hi
      rcases List.mem_append.1 hy with hy | hy
      · unfold wdHere at hy
        by_cases hc : i < wEnd s i ∧ wEnd s i ≤ i + 30
        · rw [if_pos hc] at hy
          simp only [List.mem_singleton] at hy
          subst hy
          refine ⟨Nat.le_refl _, hc.1, hc.2, he.2, ?_⟩
          rw [lowS_size, ByteArray.size_extract]
          simp only
          omega
        · rw [if_neg hc] at hy; cases hy
      · have := wordsF_in s f (max (wEnd s i) (i + 1)) (by omega) y hy
        omega
    · rw [if_neg h] at hy; cases hy
theorem wordsF_order (s : ByteArray) : ∀ (f i : Nat), i ≤ s.size → (wordsF s f i).Pairwise (fun a b => a.u ≤ b.f)
  | 0, i, _ => by simp [wordsF]
  | f + 1, i, hi => by
    rw [wordsF]
    by_cases h : i < s.size
    · rw [if_pos h]
      have he := wEnd_le s _ i (Nat.le_refl _) hi
      refine List.pairwise_append.2 ⟨?_, wordsF_order s f _ (by omega), fun a ha b hb => ?_⟩
      · unfold wdHere
        split <;> simp
      · have h2 := wordsF_in s f _ (by omega) b hb
        unfold wdHere at ha
        split at ha
        · simp only [List.mem_singleton] at ha
          subst ha
          simp only
          omega
        · cases ha
    · rw [if_neg h]
      simp
theorem wordsAt_in (s : ByteArray) : ∀ y ∈ wordsAt s 0, y.f < y.u ∧ y.u ≤ y.f + 30 ∧ y.u ≤ s.size ∧ y.t.size ≤ 30 := fun y hy => by
  have := wordsF_in s _ 0 (Nat.zero_le _) y hy
  omega
theorem wordsAt_order (s : ByteArray) : (wordsAt s 0).Pairwise (fun a b => a.u ≤ b.f) := wordsF_order s _ 0 (Nat.zero_le _)
theorem wordsF_count (s : ByteArray) : ∀ (f i : Nat), (wordsF s f i).length ≤ f
  | 0, i => Nat.le_refl _
  | f + 1, i => by
    rw [wordsF]
    split
    · have h := wordsF_count s f (max (wEnd s i) (i + 1))
      have h2 : (wdHere s i (wEnd s i)).length ≤ 1 := by unfold wdHere; split <;> simp
      rw [List.length_append]; omega
    · simp
theorem wordsAt_count (s : ByteArray) : (wordsAt s 0).length ≤ s.size := wordsF_count s s.size 0
theorem isWordS_size {x : ByteArray} (h : isWordS x = true) : x.size ≤ 30 := by
  unfold isWordS at h
  have hin := wordsAt_in x
  split at h
  · rename_i y hy
    have h1 := (hin y (by rw [hy]; simp)).2.2.2
    have h2 : y.t.toList.length = x.toList.length := by rw [eq_of_beq h]
    rw [Lib.toList_data, Lib.toList_data, ← Lib.size_eq, ← Lib.size_eq] at h2
    omega
  · cases h

theorem isWordS_cases (x : ByteArray) : (∃ y, wordsAt x 0 = [y] ∧ isWordS x = (y.t.toList == x.toList)) ∨ ((wordsAt x 0).length ≠ 1 ∧ isWordS x = false) := by
  unfold isWordS
  cases h : wordsAt x 0 with
  | nil => exact .inr ⟨by simp, rfl⟩
  | cons y l =>
    cases l with
    | nil => exact .inl ⟨y, rfl, rfl⟩
    | cons z l => exact .inr ⟨by simp, rfl⟩

end Go.Proofs.Ytfpcfpjnafnjiaa
