/-
  PLAIN: a base of blocks: where it lies in memory; what is wrong with it; how deep its blocks are.
-/
import Derived.Test.YtidpfjdlchffcaaDoorPpd
import Derived.Test.YtidpfjdlchffcaaDoorInts
set_option linter.all false
namespace Go.Proofs.YtidpfjdlchffcaaDoor
open Go.RowKit Go.Lib

/-- A block. -/
structure BK where
  id : Int
  par : Int
  kids : List Int
  txt : ByteArray
  ps : List PR

/-- .. in memory: five cells. -/
def BKAt (w : World) (x : BK) (b o : Nat) : Prop :=
  w.cell? ⟨b, o, none⟩ = some (.int .i64 x.id) ∧ w.cell? ⟨b, o + 1, none⟩ = some (.int .i64 x.par) ∧ w.cell? ⟨b, o + 3, none⟩ = some (.string x.txt) ∧
    ∃ A c A2 c2, w.cell? ⟨b, o + 2, none⟩ = some (.slice A x.kids.length c) ∧ IntsAt w A x.kids ∧ w.cell? ⟨b, o + 4, none⟩ = some (.slice A2 x.ps.length c2) ∧ PsAt w A2 x.ps ∧ x.kids.length ≤ c

def BsAt (w : World) (A : Option Addr) (l : List BK) : Prop :=
  l.length ≤ maxLen ∧ (0 < l.length → ∃ b' o', A = some ⟨b', o', none⟩ ∧ b' < w.heap.size ∧ ∀ j (h : j < l.length), BKAt w l[j] b' (o' + j * 5))

theorem BKAt.below {w w' : World} {x : BK} {b o : Nat} (h : BKAt w x b o) (hb : Below w.heap.size w w') (hlt : b < w.heap.size) : BKAt w' x b o := by
  obtain ⟨h0, h1, h3, A, c, A2, c2, h2, h5, h4, h6⟩ := h
  exact ⟨(hb.cell (p := ⟨b, o, none⟩) hlt).trans h0, (hb.cell (p := ⟨b, o + 1, none⟩) hlt).trans h1, (hb.cell (p := ⟨b, o + 3, none⟩) hlt).trans h3, A, c, A2, c2, (hb.cell (p := ⟨b, o + 2, none⟩) hlt).trans h2, h5.below hb, (hb.cell (p := ⟨b, o + 4, none⟩) hlt).trans h4, h6.1.below hb, h6.2⟩

theorem BsAt.below {w w' : World} {A : Option Addr} {l : List BK} (h : BsAt w A l) (hb : Below w.heap.size w w') : BsAt w' A l :=
  ⟨h.1, fun hl => by
    obtain ⟨b', o', hA, hb', hj⟩ := h.2 hl
    exact ⟨b', o', hA, Nat.lt_of_lt_of_le hb' hb.size, fun j h => (hj j h).below hb hb'⟩⟩

/-- A byte that cannot be there. -/
def badB (c : UInt8) : Bool := decide (c.toNat < 32) || decide (c.toNat = 127)

def badT (s : ByteArray) : Bool := s.data.toList.any badB

def textErr (s : ByteArray) : Int := if 2000 < s.size then 4 else if badT s = true then 9 else 0

/-- The number of a block's place. -/
def idAt (l : List BK) (i : Nat) : Int := (l[i]?.map (·.id)).getD 0

theorem idAt_get {l : List BK} {i : Nat} (h : i < l.length) : idAt l i = l[i].id := by
  unfold idAt
  rw [List.getElem?_eq_getElem h]
  rfl

def blkErrs (i : Nat) (prev : Int) (b : BK) : Int :=
  if (i = 0 ∧ b.id ≠ 0) ∨ (0 < i ∧ (b.id < 1 ∨ 1000000 < b.id)) then 2 else if 0 < i ∧ b.id ≤ prev then 5 else if i = 0 ∧ (b.txt.size ≠ 0 ∨ 0 < b.ps.length ∨ b.par ≠ 0) then 1
  else if textErr b.txt ≠ 0 then textErr b.txt else if 500 < b.kids.length then 4 else propsErr b.ps

def blkErr (l : List BK) (i : Nat) : Int := match l[i]? with
  | none => 0
  | some b => blkErrs i (idAt l (i - 1)) b

theorem blkErr_at {l : List BK} {i : Nat} (h : i < l.length) : blkErr l i = blkErrs i (idAt l (i - 1)) l[i] := by
  unfold blkErr
  rw [List.getElem?_eq_getElem h]

/-- Where a number is. -/
def isId (l : List BK) (k : Int) (j : Nat) : Bool := idAt l j == k

def ixOf (l : List BK) (k : Int) : Option Nat := firstIdx (isId l k) l.length

def parAt (l : List BK) (i : Nat) : Int := (l[i]?.map (·.par)).getD 0

theorem parAt_get {l : List BK} {i : Nat} (h : i < l.length) : parAt l i = l[i].par := by
  unfold parAt
  rw [List.getElem?_eq_getElem h]
  rfl

def kidErrs (l : List BK) (b : BK) (k : Int) (before : List Int) : Int := match ixOf l k with
  | none => 7
  | some n => if parAt l n ≠ b.id ∨ n = 0 then 1 else if k ∈ before then 6 else 0

def kidErr (l : List BK) (b : BK) (i : Nat) : Int := match b.kids[i]? with
  | none => 0
  | some k => kidErrs l b k (b.kids.take i)

theorem kidErr_at {l : List BK} {b : BK} {i : Nat} (h : i < b.kids.length) : kidErr l b i = kidErrs l b b.kids[i] (b.kids.take i) := by
  unfold kidErr
  rw [List.getElem?_eq_getElem h]

def kidsErrs (l : List BK) (b : BK) : Int := firstErr (kidErr l b) b.kids.length

def kidsAt (l : List BK) (j : Nat) : Int := match l[j]? with
  | none => 0
  | some b => kidsErrs l b

theorem kidsAt_at {l : List BK} {j : Nat} (h : j < l.length) : kidsAt l j = kidsErrs l l[j] := by
  unfold kidsAt
  rw [List.getElem?_eq_getElem h]

def kidsErr (l : List BK) : Int := firstErr (kidsAt l) l.length

/-- How deep a block is that the root reaches. -/
inductive Dp (l : List BK) : Int → Nat → Prop
  | root : Dp l 0 0
  | kid {b : BK} {d : Nat} {k : Int} : b ∈ l → Dp l b.id d → k ∈ b.kids → Dp l k (d + 1)
open Classical in
noncomputable def depErrs (l : List BK) (k : Int) : Int := if h : ∃ d, Dp l k d then (if 40 < Classical.choose h then 13 else 0) else 12
noncomputable def depErr (l : List BK) (i : Nat) : Int := depErrs l (idAt l i)
noncomputable def baseErr (l : List BK) : Int := if l.length = 0 then 1 else if 2000 < l.length then 4 else if firstErr (blkErr l) l.length ≠ 0 then firstErr (blkErr l) l.length else if kidsErr l ≠ 0 then kidsErr l else firstErr (depErr l) l.length

theorem firstErr_all {f : Nat → Int} {n : Nat} (h : firstErr f n = 0) : ∀ j, j < n → f j = 0 := by
  intro j
  induction j using Nat.strongRecOn with
  | ind j ih =>
    intro hj
    by_cases hz : f j = 0
    · exact hz
    · rw [firstErr_first (fun i hi => ih i hi (by omega)) hz hj] at h
      exact h

/-- Blocks that are right one by one: their numbers rise. -/
structure Ids (l : List BK) : Prop where
  zero : ∀ h : 0 < l.length, l[0].id = 0
  rise : ∀ i j (hi : i < j) (hj : j < l.length), l[i].id < l[j].id
  pos : ∀ i (_ : 0 < i) (h : i < l.length), 1 ≤ l[i].id ∧ l[i].id ≤ 1000000

theorem ids_of {l : List BK} (h : firstErr (blkErr l) l.length = 0) : Ids l := by
  have ha := firstErr_all h
  have h0 : ∀ h : 0 < l.length, l[0].id = 0 := fun h => by
    have h1 := ha 0 h
    rw [blkErr_at h] at h1
    unfold blkErrs at h1
    split at h1
    · omega
    · rename_i h2
      exact Classical.not_not.1 fun e => h2 (.inl ⟨rfl, e⟩)
  have hs : ∀ i (_ : 0 < i) (h : i < l.length), (1 ≤ l[i].id ∧ l[i].id ≤ 1000000) ∧ idAt l (i - 1) < l[i].id := fun i hi h => by
    have h1 := ha i h
    rw [blkErr_at h] at h1
    unfold blkErrs at h1
    split at h1
    · omega
    · rename_i h2
      split at h1
      · omega
      · rename_i h3
        refine ⟨⟨?_, ?_⟩, ?_⟩
        · refine Int.not_lt.1 fun e => h2 (.inr ⟨hi, .inl e⟩)
        · refine Int.not_lt.1 fun e => h2 (.inr ⟨hi, .inr e⟩)
        · refine Int.not_le.1 fun e => h3 ⟨hi, e⟩
  have key : ∀ (m i : Nat) (hj : i + 1 + m < l.length), (l[i]'(by omega)).id < l[i + 1 + m].id := by
    intro m
    induction m with
    | zero =>
      intro i hj
      have := (hs (i + 1) (by omega) hj).2
      rwa [Nat.add_sub_cancel, idAt_get (by omega)] at this
    | succ m ih =>
      intro i hj
      have h1 := ih i (by omega)
      have h2 := (hs (i + 1 + (m + 1)) (by omega) hj).2
      rw [show i + 1 + (m + 1) - 1 = i + 1 + m by omega, idAt_get (by omega)] at h2
      omega
  refine ⟨h0, fun i j hij hj => ?_, fun i hi h => (hs i hi h).1⟩
  obtain ⟨m, rfl⟩ : ∃ m, j = i + 1 + m := ⟨j - (i + 1), by omega⟩
  exact key m i hj

theorem Ids.inj {l : List BK} (h : Ids l) {i j : Nat} (hi : i < l.length) (hj : j < l.length) (e : l[i].id = l[j].id) : i = j := by
  rcases Nat.lt_trichotomy i j with h1 | h1 | h1
  · have := h.rise i j h1 hj; omega
  · exact h1
  · have := h.rise j i h1 hi; omega

theorem ixOf_some {l : List BK} {k : Int} {n : Nat} (h : ixOf l k = some n) : n < l.length ∧ idAt l n = k := by
  obtain ⟨h1, h2⟩ := firstIdx_lt h
  unfold isId at h2
  exact ⟨h1, by simpa using h2⟩

theorem Ids.ix {l : List BK} (h : Ids l) {n : Nat} (hn : n < l.length) : ixOf l l[n].id = some n := by
  refine firstIdx_some (fun j hj => ?_) ?_ hn
  · unfold isId
    rw [idAt_get (by omega)]
    have := h.rise j n hj hn
    simp only [beq_eq_false_iff_ne, ne_eq]
    omega
  · unfold isId
    rw [idAt_get hn]
    simp

/-- A base whose blocks are right, and whose kids are. -/
structure Good (l : List BK) : Prop where
  ids : Ids l
  kid : ∀ b ∈ l, ∀ k ∈ b.kids, ∃ n, ∃ h : n < l.length, 0 < n ∧ l[n].id = k ∧ l[n].par = b.id

theorem good_of {l : List BK} (h : firstErr (blkErr l) l.length = 0) (hk : kidsErr l = 0) : Good l := by
  refine ⟨ids_of h, fun b hb k hkb => ?_⟩
  obtain ⟨j, hj, rfl⟩ := List.getElem_of_mem hb
  obtain ⟨i, hi, rfl⟩ := List.getElem_of_mem hkb
  have h1 := firstErr_all hk j hj
  rw [kidsAt_at hj] at h1
  have h2 := firstErr_all h1 i hi
  rw [kidErr_at hi] at h2
  unfold kidErrs at h2
  cases hx : ixOf l l[j].kids[i] with
  | none => rw [hx] at h2; simp at h2
  | some n =>
    rw [hx] at h2
    simp only at h2
    obtain ⟨hn, hid⟩ := ixOf_some hx
    split at h2
    · omega
    · rename_i h3
      refine ⟨n, hn, ?_, ?_, ?_⟩
      · exact Nat.pos_of_ne_zero fun e => h3 (.inr e)
      · rw [← idAt_get hn]; exact hid
      · rw [← parAt_get hn]; exact Classical.not_not.1 fun e => h3 (.inl e)

theorem Good.not_zero {l : List BK} (G : Good l) {b : BK} (hb : b ∈ l) {k : Int} (hk : k ∈ b.kids) : k ≠ 0 := by
  obtain ⟨n, hn, h0, hid, -⟩ := G.kid b hb k hk
  have := G.ids.pos n h0 hn
  omega

theorem Dp.uniq {l : List BK} (G : Good l) {k : Int} {d : Nat} (h : Dp l k d) : ∀ {d'}, Dp l k d' → d = d' := by
  induction h with
  | root =>
    intro d' h2
    cases h2 with
    | root => rfl
    | kid hb _ hk => exact absurd rfl (G.not_zero hb hk)
  | @kid b d k hb hd hk ih =>
    intro d' h2
    cases h2 with
    | root => exact absurd rfl (G.not_zero hb hk)
    | @kid b' d'' _ hb' hd' hk' =>
      obtain ⟨n, hn, -, hid, hp⟩ := G.kid b hb k hk
      obtain ⟨n', hn', -, hid', hp'⟩ := G.kid b' hb' k hk'
      obtain rfl := G.ids.inj hn hn' (hid.trans hid'.symm)
      have e : b.id = b'.id := hp.symm.trans hp'
      rw [e] at ih
      rw [ih hd']

theorem Dp.at {l : List BK} (G : Good l) {k : Int} {d : Nat} (h : Dp l k d) (h0 : 0 < l.length) : ∃ n, ∃ h : n < l.length, l[n].id = k := by
  cases h with
  | root => exact ⟨0, h0, G.ids.zero h0⟩
  | kid hb _ hk =>
    obtain ⟨n, hn, -, hid, -⟩ := G.kid _ hb _ hk
    exact ⟨n, hn, hid⟩

theorem depErrs_some {l : List BK} (G : Good l) {k : Int} {d : Nat} (h : Dp l k d) : depErrs l k = if 40 < d then 13 else 0 := by
  have hx : ∃ d, Dp l k d := ⟨d, h⟩
  unfold depErrs
  rw [dif_pos hx, Dp.uniq G (Classical.choose_spec hx) h]

theorem depErrs_none {l : List BK} {k : Int} (h : ∀ d, ¬ Dp l k d) : depErrs l k = 12 := by
  unfold depErrs
  rw [dif_neg (fun ⟨d, hd⟩ => h d hd)]

/-- A set of marks that is right, and that no kid leaves: all that the root reaches. -/
theorem Dp.closed {l : List BK} {f : Int → Option Nat} (h0 : ∃ d, f 0 = some d) (hc : ∀ b ∈ l, (∃ d, f b.id = some d) → ∀ k ∈ b.kids, ∃ d, f k = some d) {k : Int} {d : Nat} (h : Dp l k d) : ∃ d, f k = some d := by
  induction h with
  | root => exact h0
  | kid hb _ hk ih => exact hc _ hb ih _ hk

theorem depErrs_marks {l : List BK} (G : Good l) {f : Int → Option Nat} (h0 : ∃ d, f 0 = some d) (hc : ∀ b ∈ l, (∃ d, f b.id = some d) → ∀ k ∈ b.kids, ∃ d, f k = some d) (hd : ∀ k d, f k = some d → Dp l k d) (k : Int) :
    depErrs l k = match f k with | none => 12 | some d => if 40 < d then 13 else 0 := by
  cases hf : f k with
  | none =>
    refine depErrs_none fun d h => ?_
    obtain ⟨d', h'⟩ := Dp.closed h0 hc h
    rw [hf] at h'; cases h'
  | some d => exact depErrs_some G (hd k d hf)

end Go.Proofs.YtidpfjdlchffcaaDoor
