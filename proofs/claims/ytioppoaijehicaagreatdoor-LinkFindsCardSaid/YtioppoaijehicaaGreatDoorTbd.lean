/-
  PLAIN: a base of blocks: where it lies in memory; what is wrong with it; how deep its blocks are.
-/
import Derived.Test.YtioppoaijehicaaGreatDoorPpb
import Derived.Test.YtioppoaijehicaaGreatDoorInts
import Derived.Deep.LoopGhost
set_option linter.all false
namespace Go.Proofs.YtioppoaijehicaaGreatDoor
open Go.RowKit Go.Lib

/-- A block. -/
structure BK where
  id : Int
  par : Int
  kids : List Int
  txt : ByteArray
  ps : List PR

/-- .. in memory: five cells. -/
def BKAt (w : World) (x : BK) (b o : Nat) : Prop :=
  w.cell? ⟨b, o, none⟩ = some (.int .i64 x.id) ∧ w.cell? ⟨b, o + 1, none⟩ = some (.int .i64 x.par) ∧ w.cell? ⟨b, o + 3, none⟩ = some (.string x.txt) ∧
    ∃ A c A2 c2, w.cell? ⟨b, o + 2, none⟩ = some (.slice A x.kids.length c) ∧ IntsAt w A x.kids ∧ w.cell? ⟨b, o + 4, none⟩ = some (.slice A2 x.ps.length c2) ∧ PsAt w A2 x.ps ∧ x.kids.length ≤ c

def BsAt (w : World) (A : Option Addr) (l : List BK) : Prop :=
  l.length ≤ maxLen ∧ (0 < l.length → ∃ b' o', A = some ⟨b', o', none⟩ ∧ b' < w.heap.size ∧ ∀ j (h : j < l.length), BKAt w l[j] b' (o' + j * 5))

theorem BKAt.below {w w' : World} {x : BK} {b o : Nat} (h : BKAt w x b o) (hb : Below w.heap.size w w') (hlt : b < w.heap.size) : BKAt w' x b o := by
  obtain ⟨h0, h1, h3, A, c, A2, c2, h2, h5, h4, h6⟩ := h
  exact ⟨(hb.cell (p := ⟨b, o, none⟩) hlt).trans h0, (hb.cell (p := ⟨b, o + 1, none⟩) hlt).trans h1, (hb.cell (p := ⟨b, o + 3, none⟩) hlt).trans h3, A, c, A2, c2, (hb.cell (p := ⟨b, o + 2, none⟩) hlt).trans h2, h5.below hb, (hb.cell (p := ⟨b, o + 4, none⟩) hlt).trans h4, h6.1.below hb, h6.2⟩

theorem BsAt.below {w w' : World} {A : Option Addr} {l : List BK} (h : BsAt w A l) (hb : Below w.heap.size w w') : BsAt w' A l :=
  ⟨h.1, fun hl => by
    obtain ⟨b', o', hA, hb', hj⟩ := h.2 hl
    exact ⟨b', o', hA, Nat.lt_of_lt_of_le hb' hb.size, fun j h => (hj j h).below hb hb'⟩⟩

/-- A byte that cannot be there. -/
def badB (c : UInt8) : Bool := decide (c.toNat < 32) || decide (c.toNat = 127)

def badT (s : ByteArray) : Bool := s.data.toList.any badB

def textErr (s : ByteArray) : Int := if 2000 < s.size then 4 else if badT s = true then 9 else 0

/-- The number of a block's place. -/
def idAt (l : List BK) (i : Nat) : Int := (l[i]?.map (·.id)).getD 0

theorem idAt_get {l : List BK} {i : Nat} (h : i < l.length) : idAt l i = l[i].id := by
  unfold idAt
  rw [List.getElem?_eq_getElem h]
  rfl

def blkErrs (i : Nat) (prev : Int) (b : BK) : Int :=
  if (i = 0 ∧ b.id ≠ 0) ∨ (0 < i ∧ (b.id < 1 ∨ 1000000 < b.id)) then 2 else if 0 < i ∧ b.id ≤ prev then 5 else if i = 0 ∧ (b.txt.size ≠ 0 ∨ 0 < b.ps.length ∨ b.par ≠ 0) then 1
  else if textErr b.txt ≠ 0 then textErr b.txt else if 500 < b.kids.length then 4 else propsErr b.ps

def blkErr (l : List BK) (i : Nat) : Int := match l[i]? with
  | none => 0
  | some b => blkErrs i (idAt l (i - 1)) b

theorem blkErr_at {l : List BK} {i : Nat} (h : i < l.length) : blkErr l i = blkErrs i (idAt l (i - 1)) l[i] := by
  unfold blkErr
  rw [List.getElem?_eq_getElem h]

/-- Where a number is. -/
def isId (l : List BK) (k : Int) (j : Nat) : Bool := idAt l j == k

def ixOf (l : List BK) (k : Int) : Option Nat := firstIdx (isId l k) l.length

def parAt (l : List BK) (i : Nat) : Int := (l[i]?.map (·.par)).getD 0

theorem parAt_get {l : List BK} {i : Nat} (h : i < l.length) : parAt l i = l[i].par := by
  unfold parAt
  rw [List.getElem?_eq_getElem h]
  rfl

def kidErrs (l : List BK) (b : BK) (k : Int) (before : List Int) : Int := match ixOf l k with
  | none => 7
  | some n => if parAt l n ≠ b.id ∨ n = 0 then 1 else if k ∈ before then 6 else 0

def kidErr (l : List BK) (b : BK) (i : Nat) : Int := match b.kids[i]? with
  | none => 0
  | some k => kidErrs l b k (b.kids.take i)

theorem kidErr_at {l : List BK} {b : BK} {i : Nat} (h : i < b.kids.length) : kidErr l b i = kidErrs l b b.kids[i] (b.kids.take i) := by
  unfold kidErr
  rw [List.getElem?_eq_getElem h]

def kidsErrs (l : List BK) (b : BK) : Int := firstErr (kidErr l b) b.kids.length

def kidsAt (l : List BK) (j : Nat) : Int := match l[j]? with
  | none => 0
  | some b => kidsErrs l b

theorem kidsAt_at {l : List BK} {j : Nat} (h : j < l.length) : kidsAt l j = kidsErrs l l[j] := by
  unfold kidsAt
  rw [List.getElem?_eq_getElem h]

def kidsErr (l : List BK) : Int := firstErr (kidsAt l) l.length

/-- How deep a block is that the root reaches. -/
inductive Dp (l : List BK) : Int → Nat → Prop
  | root : Dp l 0 0
  | kid {b : BK} {d : Nat} {k : Int} : b ∈ l → Dp l b.id d → k ∈ b.kids → Dp l k (d + 1)
open Classical in
noncomputable def depErrs (l : List BK) (k : Int) : Int := if h : ∃ d, Dp l k d then (if 40 < Classical.choose h then 13 else 0) else 12
noncomputable def depErr (l : List BK) (i : Nat) : Int := depErrs l (idAt l i)
noncomputable def baseErr (l : List BK) : Int := if l.length = 0 then 1 else if 2000 < l.length then 4 else if firstErr (blkErr l) l.length ≠ 0 then firstErr (blkErr l) l.length else if kidsErr l ≠ 0 then kidsErr l else firstErr (depErr l) l.length

theorem firstErr_all {f : Nat → Int} {n : Nat} (h : firstErr f n = 0) : ∀ j, j < n → f j = 0 := by
  intro j
  induction j using Nat.strongRecOn with
  | ind j ih =>
    intro hj
    by_cases hz : f j = 0
    · exact hz
    · rw [firstErr_first (fun i hi => ih i hi (by omega)) hz hj] at h
      exact h

/-- Blocks that are right one by one: their numbers rise. -/
structure Ids (l : List BK) : Prop where
  zero : ∀ h : 0 < l.length, l[0].id = 0
  rise : ∀ i j (hi : i < j) (hj : j < l.length), l[i].id < l[j].id
  pos : ∀ i (_ : 0 < i) (h : i < l.length), 1 ≤ l[i].id ∧ l[i].id ≤ 1000000

theorem ids_of {l : List BK} (h : firstErr (blkErr l) l.length = 0) : Ids l := by
  have ha := firstErr_all h
  have h0 : ∀ h : 0 < l.length, l[0].id = 0 := fun h => by
    have h1 := ha 0 h
    rw [blkErr_at h] at h1
    unfold blkErrs at h1
    split at h1
    · omega
    · rename_i h2
      exact Classical.not_not.1 fun e => h2 (.inl ⟨rfl, e⟩)
  have hs : ∀ i (_ : 0 < i) (h : i < l.length), (1 ≤ l[i].id ∧ l[i].id ≤ 1000000) ∧ idAt l (i - 1) < l[i].id := fun i hi h => by
    have h1 := ha i h
    rw [blkErr_at h] at h1
    unfold blkErrs at h1
    split at h1
    · omega
    · rename_i h2
      split at h1
      · omega
      · rename_i h3
        refine ⟨⟨?_, ?_⟩, ?_⟩
        · refine Int.not_lt.1 fun e => h2 (.inr ⟨hi, .inl e⟩)
        · refine Int.not_lt.1 fun e => h2 (.inr ⟨hi, .inr e⟩)
        · refine Int.not_le.1 fun e => h3 ⟨hi, e⟩
  have key : ∀ (m i : Nat) (hj : i + 1 + m < l.length), (l[i]'(by omega)).id < l[i + 1 + m].id := by
    intro m
    induction m with
    | zero =>
      intro i hj
      have := (hs (i + 1) (by omega) hj).2
      rwa [Nat.add_sub_cancel, idAt_get (by omega)] at this
    | succ m ih =>
      intro i hj
      have h1 := ih i (by omega)
      have h2 := (hs (i + 1 + (m + 1)) (by omega) hj).2
      rw [show i + 1 + (m + 1) - 1 = i + 1 + m by omega, idAt_get (by omega)] at h2
      omega
  refine ⟨h0, fun i j hij hj => ?_, fun i hi h => (hs i hi h).1⟩
  obtain ⟨m, rfl⟩ : ∃ m, j = i + 1 + m := ⟨j - (i + 1), by omega⟩
  exact key m i hj

theorem Ids.inj {l : List BK} (h : Ids l) {i j : Nat} (hi : i < l.length) (hj : j < l.length) (e : l[i].id = l[j].id) : i = j := by
  rcases Nat.lt_trichotomy i j with h1 | h1 | h1
  · have := h.rise i j h1 hj; omega
  · exact h1
  · have := h.rise j i h1 hi; omega

theorem ixOf_some {l : List BK} {k : Int} {n : Nat} (h : ixOf l k = some n) : n < l.length ∧ idAt l n = k := by
  obtain ⟨h1, h2⟩ := firstIdx_lt h
  unfold isId at h2
  exact ⟨h1, by simpa using h2⟩

theorem Ids.ix {l : List BK} (h : Ids l) {n : Nat} (hn : n < l.length) : ixOf l l[n].id = some n := by
  refine firstIdx_some (fun j hj => ?_) ?_ hn
  · unfold isId
    rw [idAt_get (by omega)]
    have := h.rise j n hj hn
    simp only [beq_eq_false_iff_ne, ne_eq]
    omega
  · unfold isId
    rw [idAt_get hn]
    simp

/-- A base whose blocks are right, and whose kids are. -/
structure Good (l : List BK) : Prop where
  ids : Ids l
  kid : ∀ b ∈ l, ∀ k ∈ b.kids, ∃ n, ∃ h : n < l.length, 0 < n ∧ l[n].id = k ∧ l[n].par = b.id

theorem good_of {l : List BK} (h : firstErr (blkErr l) l.length = 0) (hk : kidsErr l = 0) : Good l := by
  refine ⟨ids_of h, fun b hb k hkb => ?_⟩
  obtain ⟨j, hj, rfl⟩ := List.getElem_of_mem hb
  obtain ⟨i, hi, rfl⟩ := List.getElem_of_mem hkb
  have h1 := firstErr_all hk j hj
  rw [kidsAt_at hj] at h1
  have h2 := firstErr_all h1 i hi
  rw [kidErr_at hi] at h2
  unfold kidErrs at h2
  cases hx : ixOf l l[j].kids[i] with
  | none => rw [hx] at h2; simp at h2
  | some n =>
    rw [hx] at h2
    simp only at h2
    obtain ⟨hn, hid⟩ := ixOf_some hx
    split at h2
    · omega
    · rename_i h3
      refine ⟨n, hn, ?_, ?_, ?_⟩
      · exact Nat.pos_of_ne_zero fun e => h3 (.inr e)
      · rw [← idAt_get hn]; exact hid
      · rw [← parAt_get hn]; exact Classical.not_not.1 fun e => h3 (.inl e)

theorem Good.not_zero {l : List BK} (G : Good l) {b : BK} (hb : b ∈ l) {k : Int} (hk : k ∈ b.kids) : k ≠ 0 := by
  obtain ⟨n, hn, h0, hid, -⟩ := G.kid b hb k hk
  have := G.ids.pos n h0 hn
  omega

theorem Dp.uniq {l : List BK} (G : Good l) {k : Int} {d : Nat} (h : Dp l k d) : ∀ {d'}, Dp l k d' → d = d' := by
  induction h with
  | root =>
    intro d' h2
    cases h2 with
    | root => rfl
    | kid hb _ hk => exact absurd rfl (G.not_zero hb hk)
  | @kid b d k hb hd hk ih =>
    intro d' h2
    cases h2 with
    | root => exact absurd rfl (G.not_zero hb hk)
    | @kid b' d'' _ hb' hd' hk' =>
      obtain ⟨n, hn, -, hid, hp⟩ := G.kid b hb k hk
      obtain ⟨n', hn', -, hid', hp'⟩ := G.kid b' hb' k hk'
      obtain rfl := G.ids.inj hn hn' (hid.trans hid'.symm)
      have e : b.id = b'.id := hp.symm.trans hp'
      rw [e] at ih
      rw [ih hd']

theorem Dp.at {l : List BK} (G : Good l) {k : Int} {d : Nat} (h : Dp l k d) (h0 : 0 < l.length) : ∃ n, ∃ h : n < l.length, l[n].id = k := by
  cases h with
  | root => exact ⟨0, h0, G.ids.zero h0⟩
  | kid hb _ hk =>
    obtain ⟨n, hn, -, hid, -⟩ := G.kid _ hb _ hk
    exact ⟨n, hn, hid⟩

theorem depErrs_some {l : List BK} (G : Good l) {k : Int} {d : Nat} (h : Dp l k d) : depErrs l k = if 40 < d then 13 else 0 := by
  have hx : ∃ d, Dp l k d := ⟨d, h⟩
  unfold depErrs
  rw [dif_pos hx, Dp.uniq G (Classical.choose_spec hx) h]

theorem depErrs_none {l : List BK} {k : Int} (h : ∀ d, ¬ Dp l k d) : depErrs l k = 12 := by
  unfold depErrs
  rw [dif_neg (fun ⟨d, hd⟩ => h d hd)]

/-- A set of marks that is right, and that no kid leaves: all that the root reaches. -/
theorem Dp.closed {l : List BK} {f : Int → Option Nat} (h0 : ∃ d, f 0 = some d) (hc : ∀ b ∈ l, (∃ d, f b.id = some d) → ∀ k ∈ b.kids, ∃ d, f k = some d) {k : Int} {d : Nat} (h : Dp l k d) : ∃ d, f k = some d := by
  induction h with
  | root => exact h0
  | kid hb _ hk ih => exact hc _ hb ih _ hk

theorem depErrs_marks {l : List BK} (G : Good l) {f : Int → Option Nat} (h0 : ∃ d, f 0 = some d) (hc : ∀ b ∈ l, (∃ d, f b.id = some d) → ∀ k ∈ b.kids, ∃ d, f k = some d) (hd : ∀ k d, f k = some d → Dp l k d) (k : Int) :
    depErrs l k = match f k with | none => 12 | some d => if 40 < d then 13 else 0 := by
  cases hf : f k with
  | none =>
    refine depErrs_none fun d h => ?_
    obtain ⟨d', h'⟩ := Dp.closed h0 hc h
    rw [hf] at h'; cases h'
  | some d => exact depErrs_some G (hd k d hf)

end Go.Proofs.YtioppoaijehicaaGreatDoor
/-
  WALKS: is a text right?
-/
namespace Go.Proofs.YtioppoaijehicaaGreatDoor
open Go.RowKit

theorem below_chainT {w W W2 : World} (h : Below w.heap.size w W) (h2 : Below W.heap.size W W2) : Below w.heap.size w W2 := h.trans (h2.mono h.size)

theorem badB_yes {c : UInt8} (h : badB c = true) : ((c.toNat : Int) < 32) ∨ (¬ ((c.toNat : Int) < 32) ∧ ((c.toNat : Int) == 127) = true) := by
  unfold badB at h
  simp only [Bool.or_eq_true, decide_eq_true_eq] at h
  simp only [beq_iff_eq]
  omega

theorem badB_no {c : UInt8} (h : badB c = false) : ¬ ((c.toNat : Int) < 32) ∧ ((c.toNat : Int) == 127) = false := by
  unfold badB at h
  simp only [Bool.or_eq_false_iff, decide_eq_false_iff_not] at h
  simp only [beq_eq_false_iff_ne, ne_eq]
  omega

theorem byte_at (s : ByteArray) (k : Nat) (h : k < s.size) : s[k] ∈ s.data.toList := by
  rw [Array.mem_toList_iff]
  exact Array.getElem_mem h

theorem badT_yes (s : ByteArray) (k : Nat) (h : k < s.size) (hb : badB s[k] = true) : badT s = true := List.any_eq_true.2 ⟨s[k], byte_at s k h, hb⟩

theorem badT_no (s : ByteArray) (h : ∀ j (h : j < s.size), badB s[j] = false) : badT s = false := by
  unfold badT
  rw [List.any_eq_false]
  intro x hx
  rw [Array.mem_toList_iff] at hx
  obtain ⟨i, hi, rfl⟩ := Array.getElem_of_mem hx
  have := h i hi
  rw [show s.data[i] = s[i] from rfl, this]
  exact Bool.false_ne_true

set_option maxHeartbeats 3200000 in
set_option maxRecDepth 100000 in
theorem hasControlT_any (s : ByteArray) (w : World) (hs : s.size ≤ 2000) : Calls Tryz.prog 138 #[.string s] w fun e w' => e = .returned (.bool (badT s)) ∧ Below w.heap.size w w' := by
  have HY := hide (badT_yes s)
  have HN := hide (badT_no s)
  go_enter Tryz.func138, Tryz.ntmps138
  go_wp2
  go_loopw [6] (fun i wr => ∃ (k : Nat), k ≤ s.size ∧ i = .int .i64 k ∧ Hid (∀ j (h : j < s.size), j < k → badB s[j] = false) ∧ Hid (Below w.heap.size w wr)) (fun i _ => s.size - (intOf i).toNat)
  case atStart => exact ⟨0, Nat.zero_le _, rfl, hide (fun j h hj => absurd hj (by omega)), hide (by repeat (first | with_reducible exact Below.refl _ _ | with_reducible refine bl_plus ?_ | with_reducible refine bl_alloc ?_ _ | with_reducible refine bl_drew ?_ | with_reducible refine bl_drewN ?_ _))⟩
  case round =>
    obtain ⟨k, hk, rfl, HA, HB⟩ := hrel
    by_cases hlt : k < s.size
    · have i1 : (k : Int) < (s.size : Int) := by omega
      have HS := hide (fun (h : badB s[k] = false) => (fun (j : Nat) (hj : j < s.size) (hk : j < k + 1) => (if e : j = k then (by subst e; exact h) else HA.out j hj (by omega) : badB s[j] = false)))
      cases hb : badB s[k] with
      | true =>
        have HR := hide (HY.out k hlt hb)
        have hc := badB_yes hb
        clear hb HS
        rcases hc with h1 | ⟨h1, h2⟩
        · go_wp2
          go_ret
          rw [HR.out]
          exact ⟨rfl, HB.out⟩
        · go_wp2
          go_ret
          rw [HR.out]
          exact ⟨rfl, HB.out⟩
      | false =>
        have HS2 := hide (HS.out hb)
        obtain ⟨h1, h2⟩ := badB_no hb
        clear hb HS
        go_wp2
        go_roundw
        case rel => exact ⟨k + 1, hlt, by go_num, hide (fun j h hj => HS2.out j h hj), hide (below_chainT HB.out (by repeat (first | with_reducible exact Below.refl _ _ | with_reducible refine bl_plus ?_ | with_reducible refine bl_alloc ?_ _ | with_reducible refine bl_drew ?_ | with_reducible refine bl_drewN ?_ _)))⟩
        case measure => simp [intOf]; omega
    · obtain rfl : k = s.size := by omega
      have HR := hide (HN.out (fun j h => HA.out j h h))
      go_wp2
      go_ret
      rw [HR.out]
      exact ⟨rfl, HB.out⟩

set_option maxHeartbeats 3200000 in
set_option maxRecDepth 100000 in
theorem belowR_any (s : ByteArray) (w : World) (hs : s.size ≤ 2000) : Calls Tryz.prog 98 #[.string s] w fun e w' => e = .returned (.bool (badT s)) ∧ Below w.heap.size w w' := by
  have HY := hide (badT_yes s)
  have HN := hide (badT_no s)
  go_enter Tryz.func98, Tryz.ntmps98
  go_wp2
  go_loopw [3] (fun i wr => ∃ (k : Nat), k ≤ s.size ∧ i = .int .i64 k ∧ Hid (∀ j (h : j < s.size), j < k → badB s[j] = false) ∧ Hid (Below w.heap.size w wr)) (fun i _ => s.size - (intOf i).toNat)
  case atStart => exact ⟨0, Nat.zero_le _, rfl, hide (fun j h hj => absurd hj (by omega)), hide (by repeat (first | with_reducible exact Below.refl _ _ | with_reducible refine bl_plus ?_ | with_reducible refine bl_alloc ?_ _ | with_reducible refine bl_drew ?_ | with_reducible refine bl_drewN ?_ _))⟩
  case round =>
    obtain ⟨k, hk, rfl, HA, HB⟩ := hrel
    by_cases hlt : k < s.size
    · have i1 : (k : Int) < (s.size : Int) := by omega
      have HS := hide (fun (h : badB s[k] = false) => (fun (j : Nat) (hj : j < s.size) (hk : j < k + 1) => (if e : j = k then (by subst e; exact h) else HA.out j hj (by omega) : badB s[j] = false)))
      cases hb : badB s[k] with
      | true =>
        have HR := hide (HY.out k hlt hb)
        have hc := badB_yes hb
        clear hb HS
        rcases hc with h1 | ⟨h1, h2⟩
        · go_wp2
          go_ret
          rw [HR.out]
          exact ⟨rfl, HB.out⟩
        · go_wp2
          go_ret
          rw [HR.out]
          exact ⟨rfl, HB.out⟩
      | false =>
        have HS2 := hide (HS.out hb)
        obtain ⟨h1, h2⟩ := badB_no hb
        clear hb HS
        go_wp2
        go_roundw
        case rel => exact ⟨k + 1, hlt, by go_num, hide (fun j h hj => HS2.out j h hj), hide (below_chainT HB.out (by repeat (first | with_reducible exact Below.refl _ _ | with_reducible refine bl_plus ?_ | with_reducible refine bl_alloc ?_ _ | with_reducible refine bl_drew ?_ | with_reducible refine bl_drewN ?_ _)))⟩
        case measure => simp [intOf]; omega
    · obtain rfl : k = s.size := by omega
      have HR := hide (HN.out (fun j h => HA.out j h h))
      go_wp2
      go_ret
      rw [HR.out]
      exact ⟨rfl, HB.out⟩

set_option maxHeartbeats 3200000 in
set_option maxRecDepth 100000 in
theorem textCheck_any (s : ByteArray) (w : World) : Calls Tryz.prog 93 #[.string s] w fun e w' => e = .returned (.int .i64 (textErr s)) ∧ Below w.heap.size w w' := by
  unfold textErr
  by_cases h0 : 2000 < s.size
  · rw [if_pos h0]
    have i1 : (2000 : Int) < (s.size : Int) := by omega
    clear h0
    go_enter Tryz.func93, Tryz.ntmps93
    go_wp2
    go_ret
    exact ⟨rfl, (by repeat (first | with_reducible exact Below.refl _ _ | with_reducible refine bl_plus ?_ | with_reducible refine bl_alloc ?_ _ | with_reducible refine bl_drew ?_ | with_reducible refine bl_drewN ?_ _))⟩
  · rw [if_neg h0]
    have i1 : ¬ (2000 : Int) < (s.size : Int) := by omega
    have HC := hide (fun W => hasControlT_any s W (by omega))
    clear h0
    generalize badT s = b at *
    cases b with
    | true =>
      go_enter Tryz.func93, Tryz.ntmps93
      go_wp2_with (go_at_call 138; (refine (HC.out _).mono ?_); rintro e w' ⟨rfl, hbl⟩; obtain ⟨os1, n1, rfl⟩ := below_plus hbl; clear hbl)
      go_ret
      exact ⟨rfl, (by repeat (first | with_reducible exact Below.refl _ _ | with_reducible refine bl_plus ?_ | with_reducible refine bl_alloc ?_ _ | with_reducible refine bl_drew ?_ | with_reducible refine bl_drewN ?_ _))⟩
    | false =>
      go_enter Tryz.func93, Tryz.ntmps93
      go_wp2_with (go_at_call 138; (refine (HC.out _).mono ?_); rintro e w' ⟨rfl, hbl⟩; obtain ⟨os1, n1, rfl⟩ := below_plus hbl; clear hbl)
      go_ret
      exact ⟨rfl, (by repeat (first | with_reducible exact Below.refl _ _ | with_reducible refine bl_plus ?_ | with_reducible refine bl_alloc ?_ _ | with_reducible refine bl_drew ?_ | with_reducible refine bl_drewN ?_ _))⟩

set_option maxHeartbeats 3200000 in
set_option maxRecDepth 100000 in
theorem textError_any (s : ByteArray) (w : World) : Calls Tryz.prog 63 #[.string s] w fun e w' => e = .returned (.int .i64 (textErr s)) ∧ Below w.heap.size w w' := by
  unfold textErr
  by_cases h0 : 2000 < s.size
  · rw [if_pos h0]
    have i1 : (2000 : Int) < (s.size : Int) := by omega
    clear h0
    go_enter Tryz.func63, Tryz.ntmps63
    go_wp2
    go_ret
    exact ⟨rfl, (by repeat (first | with_reducible exact Below.refl _ _ | with_reducible refine bl_plus ?_ | with_reducible refine bl_alloc ?_ _ | with_reducible refine bl_drew ?_ | with_reducible refine bl_drewN ?_ _))⟩
  · rw [if_neg h0]
    have i1 : ¬ (2000 : Int) < (s.size : Int) := by omega
    have HC := hide (fun W => belowR_any s W (by omega))
    clear h0
    generalize badT s = b at *
    cases b with
    | true =>
      go_enter Tryz.func63, Tryz.ntmps63
      go_wp2_with (go_at_call 98; (refine (HC.out _).mono ?_); rintro e w' ⟨rfl, hbl⟩; obtain ⟨os1, n1, rfl⟩ := below_plus hbl; clear hbl)
      go_ret
      exact ⟨rfl, (by repeat (first | with_reducible exact Below.refl _ _ | with_reducible refine bl_plus ?_ | with_reducible refine bl_alloc ?_ _ | with_reducible refine bl_drew ?_ | with_reducible refine bl_drewN ?_ _))⟩
    | false =>
      go_enter Tryz.func63, Tryz.ntmps63
      go_wp2_with (go_at_call 98; (refine (HC.out _).mono ?_); rintro e w' ⟨rfl, hbl⟩; obtain ⟨os1, n1, rfl⟩ := below_plus hbl; clear hbl)
      go_ret
      exact ⟨rfl, (by repeat (first | with_reducible exact Below.refl _ _ | with_reducible refine bl_plus ?_ | with_reducible refine bl_alloc ?_ _ | with_reducible refine bl_drew ?_ | with_reducible refine bl_drewN ?_ _))⟩

end Go.Proofs.YtioppoaijehicaaGreatDoor
/-
  PLAIN: marks that two ways of going down from the root lay.
-/
namespace Go.Proofs.YtioppoaijehicaaGreatDoor
open Go.RowKit Go.Lib

/-- How many places hold 0. -/
def zeros : List Int → Nat
  | [] => 0
  | x :: l => (if x = 0 then 1 else 0) + zeros l

theorem zeros_le : ∀ l : List Int, zeros l ≤ l.length
  | [] => Nat.le_refl _
  | x :: l => by
    have := zeros_le l
    unfold zeros
    rw [List.length_cons]
    split <;> omega

theorem zeros_set : ∀ {l : List Int} {n : Nat} {v : Int} (h : n < l.length), l[n] = 0 → v ≠ 0 → zeros (l.set n v) + 1 = zeros l
  | x :: l, 0, v, _, h0, hv => by
    have h0 : x = 0 := h0
    rw [List.set_cons_zero]
    unfold zeros
    rw [if_neg hv, if_pos h0]
    omega
  | x :: l, n + 1, v, h, h0, hv => by
    have ih := zeros_set (l := l) (n := n) (v := v) (by simpa using h) (by simpa using h0) hv
    rw [List.set_cons_succ]
    unfold zeros
    omega

/-- The mark at a place. -/
def mkd (ds : List Int) (j : Nat) : Int := ds.getD j 0

theorem mkd_get {ds : List Int} {j : Nat} (h : j < ds.length) : mkd ds j = ds[j] := by
  unfold mkd
  rw [List.getD_eq_getElem?_getD, List.getElem?_eq_getElem h]
  rfl

theorem mkd_out {ds : List Int} {j : Nat} (h : ds.length ≤ j) : mkd ds j = 0 := by
  unfold mkd
  rw [List.getD_eq_getElem?_getD, List.getElem?_eq_none h]
  rfl

theorem mkd_set {ds : List Int} {n : Nat} (v : Int) (h : n < ds.length) (j : Nat) : mkd (ds.set n v) j = if j = n then v else mkd ds j := by
  unfold mkd
  rw [List.getD_eq_getElem?_getD, List.getD_eq_getElem?_getD, List.getElem?_set]
  by_cases e : j = n
  · subst e
    simp [h]
  · rw [if_neg (fun e2 => e e2.symm), if_neg e]

/-- Is the block of a number marked? -/
def mkId (l : List BK) (ds : List Int) (k : Int) : Prop := ∃ n, ixOf l k = some n ∧ mkd ds n ≠ 0

def kidsMk (l : List BK) (ds : List Int) (j : Nat) : Prop := ∀ b, l[j]? = some b → ∀ k ∈ b.kids, mkId l ds k

/-- Marks that are right. -/
structure MkOk (l : List BK) (ds : List Int) : Prop where
  len : ds.length = l.length
  ok : ∀ j, mkd ds j ≠ 0 → ∃ d : Nat, mkd ds j = (d : Int) ∧ Dp l (idAt l j) d

/-- More marks; what is new has its kids marked. -/
structure Mo (l : List BK) (ds ds' : List Int) : Prop where
  ok : MkOk l ds'
  keep : ∀ j, mkd ds j ≠ 0 → mkd ds' j = mkd ds j
  new : ∀ j, mkd ds' j ≠ 0 → mkd ds j = 0 → kidsMk l ds' j

theorem Mo.refl {l : List BK} {ds : List Int} (h : MkOk l ds) : Mo l ds ds := ⟨h, fun _ _ => rfl, fun j h1 h2 => absurd h2 h1⟩

theorem mkId_keep {l : List BK} {ds ds' : List Int} (h : ∀ j, mkd ds j ≠ 0 → mkd ds' j = mkd ds j) {k : Int} (hm : mkId l ds k) : mkId l ds' k := by
  obtain ⟨n, hn, h0⟩ := hm
  exact ⟨n, hn, by rw [h n h0]; exact h0⟩

theorem Mo.trans {l : List BK} {a b c : List Int} (h1 : Mo l a b) (h2 : Mo l b c) : Mo l a c := by
  refine ⟨h2.ok, fun j hj => ?_, fun j hc ha => ?_⟩
  · rw [h2.keep j (by rw [h1.keep j hj]; exact hj), h1.keep j hj]
  · by_cases hb : mkd b j = 0
    · exact h2.new j hc hb
    · exact fun x hx k hk => mkId_keep h2.keep (h1.new j hb ha x hx k hk)

/-- A kid is marked, and then all below it. -/
theorem Mo.step {l : List BK} {ds ds2 : List Int} {n : Nat} {v : Int} (h : MkOk l ds) (hn : n < ds.length) (h0 : mkd ds n = 0) (hm : Mo l (ds.set n v) ds2) (hk : kidsMk l ds2 n) : Mo l ds ds2 := by
  refine ⟨hm.ok, fun j hj => ?_, fun j hj h1 => ?_⟩
  · have hne : j ≠ n := fun e => hj (by rw [e]; exact h0)
    have e := mkd_set v hn j
    rw [if_neg hne] at e
    rw [hm.keep j (by rw [e]; exact hj), e]
  · by_cases hne : j = n
    · subst hne; exact hk
    · have e := mkd_set v hn j
      rw [if_neg hne] at e
      exact hm.new j hj (by rw [e]; exact h1)

theorem MkOk.set {l : List BK} {ds : List Int} {n d : Nat} (h : MkOk l ds) (hn : n < ds.length) (hd : Dp l (idAt l n) d) : MkOk l (ds.set n (d : Int)) := by
  refine ⟨by rw [List.length_set]; exact h.len, fun j hj => ?_⟩
  rw [mkd_set _ hn] at hj ⊢
  by_cases e : j = n
  · rw [if_pos e] at hj ⊢
    subst e
    exact ⟨d, rfl, hd⟩
  · rw [if_neg e] at hj ⊢
    exact h.ok j hj

theorem mkOk_zero (l : List BK) : MkOk l (List.replicate l.length 0) := by
  refine ⟨List.length_replicate, fun j hj => absurd ?_ hj⟩
  unfold mkd
  rw [List.getD_eq_getElem?_getD, List.getElem?_replicate]
  split <;> rfl

theorem mkd_zero (n j : Nat) : mkd (List.replicate n 0) j = 0 := by
  unfold mkd
  rw [List.getD_eq_getElem?_getD, List.getElem?_replicate]
  split <;> rfl

/-- What the marks say at the end. -/
theorem depErr_marks {l : List BK} (G : Good l) {ds : List Int} (h : Mo l (List.replicate l.length 0) ds) (h0 : kidsMk l ds 0) (hl : 0 < l.length) (i : Nat) (hi : i < l.length) :
    depErr l i = if i = 0 then 0 else if mkd ds i = 0 then 12 else if 40 < mkd ds i then 13 else 0 := by
  let f : Int → Option Nat := fun k => match ixOf l k with
    | none => none
    | some n => if n = 0 then some 0 else if mkd ds n = 0 then none else some (mkd ds n).toNat
  have hf0 : f 0 = some 0 := by
    have h1 := G.ids.ix hl
    rw [G.ids.zero hl] at h1
    show (match ixOf l 0 with | none => none | some n => if n = 0 then some 0 else if mkd ds n = 0 then none else some (mkd ds n).toNat) = some 0
    rw [h1]
    rfl
  have hfm : ∀ k, mkId l ds k → ∃ d, f k = some d := fun k ⟨n, hn, hm⟩ => by
    show ∃ d, (match ixOf l k with | none => none | some n => if n = 0 then some 0 else if mkd ds n = 0 then none else some (mkd ds n).toNat) = some d
    rw [hn]
    simp only
    by_cases e : n = 0
    · exact ⟨0, by rw [if_pos e]⟩
    · exact ⟨_, by rw [if_neg e, if_neg hm]⟩
  have hc : ∀ b ∈ l, (∃ d, f b.id = some d) → ∀ k ∈ b.kids, ∃ d, f k = some d := by
    intro b hb ⟨d, hd⟩ k hk
    obtain ⟨j, hj, rfl⟩ := List.getElem_of_mem hb
    refine hfm k ?_
    have hd : (match ixOf l l[j].id with | none => none | some n => if n = 0 then some 0 else if mkd ds n = 0 then none else some (mkd ds n).toNat) = some d := hd
    rw [G.ids.ix hj] at hd
    simp only at hd
    by_cases e : j = 0
    · subst e
      exact h0 _ (List.getElem?_eq_getElem hj) k hk
    · rw [if_neg e] at hd
      by_cases hz : mkd ds j = 0
      · rw [if_pos hz] at hd; cases hd
      · exact h.new j hz (mkd_zero _ _) _ (List.getElem?_eq_getElem hj) k hk
  have hd : ∀ k d, f k = some d → Dp l k d := by
    intro k d hk
    have hk : (match ixOf l k with | none => none | some n => if n = 0 then some 0 else if mkd ds n = 0 then none else some (mkd ds n).toNat) = some d := hk
    cases hx : ixOf l k with
    | none => rw [hx] at hk; cases hk
    | some n =>
      rw [hx] at hk
      simp only at hk
      obtain ⟨hn, hid⟩ := ixOf_some hx
      by_cases e : n = 0
      · subst e
        rw [if_pos rfl] at hk
        obtain rfl := Option.some.inj hk
        rw [← hid, idAt_get hl, G.ids.zero hl]
        exact .root
      · rw [if_neg e] at hk
        by_cases hz : mkd ds n = 0
        · rw [if_pos hz] at hk; cases hk
        · rw [if_neg hz] at hk
          obtain ⟨d', e1, e2⟩ := h.ok.ok n hz
          rw [e1] at hk
          obtain rfl := Option.some.inj hk
          rw [hid] at e2
          simpa using e2
  unfold depErr
  rw [depErrs_marks G ⟨0, hf0⟩ hc hd]
  rw [idAt_get hi]
  show (match (match ixOf l l[i].id with | none => none | some n => if n = 0 then some 0 else if mkd ds n = 0 then none else some (mkd ds n).toNat) with | none => (12 : Int) | some d => if 40 < d then 13 else 0) = _
  rw [G.ids.ix hi]
  simp only
  by_cases e : i = 0
  · rw [if_pos e, if_pos e]
    rfl
  · rw [if_neg e, if_neg e]
    by_cases hz : mkd ds i = 0
    · rw [if_pos hz, if_pos hz]
    · rw [if_neg hz, if_neg hz]
      obtain ⟨d', e1, -⟩ := h.ok.ok i hz
      rw [e1]
      simp only [Int.toNat_natCast]
      by_cases h40 : 40 < d'
      · rw [if_pos h40, if_pos (by omega)]
      · rw [if_neg h40, if_neg (by omega)]

/-- Marks laid one more. -/
def updF (f : Int → Option Nat) (k : Int) (d : Nat) : Int → Option Nat := fun x => if x = k then some d else f x

theorem updF_same (f : Int → Option Nat) (k : Int) (d : Nat) : updF f k d k = some d := by simp [updF]

theorem updF_other (f : Int → Option Nat) {k x : Int} (d : Nat) (h : x ≠ k) : updF f k d x = f x := by simp [updF, h]

/-- How many blocks bear no mark. -/
def unm (f : Int → Option Nat) : List BK → Nat
  | [] => 0
  | b :: l => (if f b.id = none then 1 else 0) + unm f l

theorem unm_le (f : Int → Option Nat) : ∀ l : List BK, unm f l ≤ l.length
  | [] => Nat.le_refl _
  | b :: l => by
    have := unm_le f l
    unfold unm
    rw [List.length_cons]
    split <;> omega

theorem unm_mono (f : Int → Option Nat) (k : Int) (d : Nat) : ∀ l : List BK, unm (updF f k d) l ≤ unm f l
  | [] => Nat.le_refl _
  | b :: l => by
    have ih := unm_mono f k d l
    unfold unm
    by_cases e : b.id = k
    · rw [e, updF_same, if_neg (by simp)]
      split <;> omega
    · rw [updF_other f d e]
      omega

theorem unm_upd {f : Int → Option Nat} {k : Int} (d : Nat) (hf : f k = none) : ∀ {l : List BK}, (∃ b ∈ l, b.id = k) → unm (updF f k d) l + 1 ≤ unm f l
  | [], h => by obtain ⟨b, hb, -⟩ := h; cases hb
  | b :: l, h => by
    unfold unm
    by_cases e : b.id = k
    · have := unm_mono f k d l
      rw [e, updF_same, if_neg (by simp), if_pos hf]
      omega
    · obtain ⟨x, hx, hxk⟩ := h
      have hx2 : x ∈ l := by
        rcases List.mem_cons.1 hx with rfl | hx
        · exact absurd hxk e
        · exact hx
      have ih := unm_upd d hf ⟨x, hx2, hxk⟩
      rw [updF_other f d e]
      omega

/-- The marks of the first way: what is right, and what is still to be looked at. -/
structure Bf (l : List BK) (f : Int → Option Nat) (todo : List Int) : Prop where
  ok : ∀ k d, f k = some d → Dp l k d
  root : ∃ d, f 0 = some d
  tds : ∀ k ∈ todo, ∃ d, f k = some d
  done : ∀ b ∈ l, (∃ d, f b.id = some d) → b.id ∈ todo ∨ ∀ k ∈ b.kids, ∃ d, f k = some d

theorem bf_start (l : List BK) : Bf l (updF (fun _ => none) 0 0) [0] := by
  refine ⟨fun k d h => ?_, ⟨0, updF_same _ _ _⟩, fun k hk => ?_, fun b _ ⟨d, hd⟩ => ?_⟩
  · by_cases e : k = 0
    · subst e
      rw [updF_same] at h
      obtain rfl := Option.some.inj h
      exact .root
    · rw [updF_other _ _ e] at h; cases h
  · rw [List.mem_singleton.1 hk]; exact ⟨0, updF_same _ _ _⟩
  · by_cases e : b.id = 0
    · rw [e]; exact .inl (List.mem_singleton.2 rfl)
    · rw [updF_other _ _ e] at hd; cases hd

/-- One block is looked at: its first kids have been. -/
structure Bg (l : List BK) (f : Int → Option Nat) (b : BK) (j : Nat) (todo : List Int) : Prop where
  ok : ∀ k d, f k = some d → Dp l k d
  root : ∃ d, f 0 = some d
  self : ∃ d, f b.id = some d
  tds : ∀ k ∈ todo, ∃ d, f k = some d
  kids : ∀ k ∈ b.kids.take j, ∃ d, f k = some d
  done : ∀ x ∈ l, (∃ d, f x.id = some d) → x.id ∈ todo ∨ x.id = b.id ∨ ∀ k ∈ x.kids, ∃ d, f k = some d

theorem Bf.pop {l : List BK} {f : Int → Option Nat} {b : BK} {t : List Int} (h : Bf l f (b.id :: t)) : Bg l f b 0 t :=
  ⟨h.ok, h.root, h.tds _ (by simp), fun k hk => h.tds k (by simp [hk]), fun k hk => by simp at hk, fun x hx hm => by
    rcases h.done x hx hm with h1 | h1
    · rcases List.mem_cons.1 h1 with h1 | h1
      · exact .inr (.inl h1)
      · exact .inl h1
    · exact .inr (.inr h1)⟩

theorem Bg.skip {l : List BK} {f : Int → Option Nat} {b : BK} {j : Nat} {t : List Int} (h : Bg l f b j t) (hj : j < b.kids.length) (hm : ∃ d, f b.kids[j] = some d) : Bg l f b (j + 1) t :=
  ⟨h.ok, h.root, h.self, h.tds, fun k hk => by
    rw [List.take_succ_eq_append_getElem hj, List.mem_append] at hk
    rcases hk with hk | hk
    · exact h.kids k hk
    · rw [List.mem_singleton.1 hk]; exact hm, h.done⟩

theorem updF_keep {f : Int → Option Nat} {k x : Int} (e : Nat) (h : ∃ d, f x = some d) : ∃ d, updF f k e x = some d := by
  by_cases hx : x = k
  · rw [hx]; exact ⟨e, updF_same _ _ _⟩
  · rw [updF_other _ _ hx]; exact h

theorem Bg.mark {l : List BK} {f : Int → Option Nat} {b : BK} {j d : Nat} {t : List Int} (h : Bg l f b j t) (hb : b ∈ l) (hj : j < b.kids.length) (hd : f b.id = some d) (hn : f b.kids[j] = none) : Bg l (updF f b.kids[j] (d + 1)) b (j + 1) (t ++ [b.kids[j]]) := by
  have hkb : b.kids[j] ∈ b.kids := List.getElem_mem hj
  refine ⟨fun k e he => ?_, updF_keep _ h.root, updF_keep _ h.self, fun k hk => ?_, fun k hk => ?_, fun x hx hm => ?_⟩
  · by_cases hk : k = b.kids[j]
    · rw [hk, updF_same] at he
      obtain rfl := Option.some.inj he
      rw [hk]
      exact .kid hb (h.ok _ _ hd) hkb
    · rw [updF_other _ _ hk] at he
      exact h.ok k e he
  · rcases List.mem_append.1 hk with hk | hk
    · exact updF_keep _ (h.tds k hk)
    · rw [List.mem_singleton.1 hk]; exact ⟨_, updF_same _ _ _⟩
  · rw [List.take_succ_eq_append_getElem hj, List.mem_append] at hk
    rcases hk with hk | hk
    · exact updF_keep _ (h.kids k hk)
    · rw [List.mem_singleton.1 hk]; exact ⟨_, updF_same _ _ _⟩
  · by_cases hxk : x.id = b.kids[j]
    · exact .inl (by rw [hxk]; simp)
    · obtain ⟨e, he⟩ := hm
      rw [updF_other _ _ hxk] at he
      rcases h.done x hx ⟨e, he⟩ with h1 | h1 | h1
      · exact .inl (List.mem_append.2 (.inl h1))
      · exact .inr (.inl h1)
      · exact .inr (.inr fun k hk => updF_keep _ (h1 k hk))

theorem Bg.end_ {l : List BK} (I : Ids l) {f : Int → Option Nat} {b : BK} {t : List Int} (hb : b ∈ l) (h : Bg l f b b.kids.length t) : Bf l f t :=
  ⟨h.ok, h.root, h.tds, fun x hx hm => by
    rcases h.done x hx hm with h1 | h1 | h1
    · exact .inl h1
    · obtain ⟨i, hi, rfl⟩ := List.getElem_of_mem hx
      obtain ⟨j, hj, rfl⟩ := List.getElem_of_mem hb
      obtain rfl := I.inj hi hj h1
      refine .inr fun k hk => h.kids k ?_
      rw [List.take_length]; exact hk
    · exact .inr h1⟩

theorem Bf.end_ {l : List BK} (G : Good l) {f : Int → Option Nat} (h : Bf l f []) (k : Int) : depErrs l k = match f k with | none => 12 | some d => if 40 < d then 13 else 0 :=
  depErrs_marks G h.root (fun b hb hm => (h.done b hb hm).resolve_left (by simp)) h.ok k

end Go.Proofs.YtioppoaijehicaaGreatDoor
/-
  WALKS: where a block with a number is: looked for from the front, and by halves.
-/
namespace Go.Proofs.YtioppoaijehicaaGreatDoor
open Go.RowKit

/-- A place, or -1. -/
def ixI (l : List BK) (k : Int) : Int := match ixOf l k with
  | some n => n
  | none => -1

/-- The cells of a block. -/
theorem BsAt.get {w : World} {A : Option Addr} {l : List BK} (h : BsAt w A l) {q : Nat} (hq : q < l.length) : ∃ b o A1 c1 A2 c2, A = some ⟨b, o, none⟩ ∧ b < w.heap.size ∧ w.cell? ⟨b, o + q * 5, none⟩ = some (.int .i64 l[q].id) ∧ w.cell? ⟨b, o + q * 5 + 1, none⟩ = some (.int .i64 l[q].par) ∧
    w.cell? ⟨b, o + q * 5 + 2, none⟩ = some (.slice A1 l[q].kids.length c1) ∧ w.cell? ⟨b, o + q * 5 + 3, none⟩ = some (.string l[q].txt) ∧ w.cell? ⟨b, o + q * 5 + 4, none⟩ = some (.slice A2 l[q].ps.length c2) ∧ IntsAt w A1 l[q].kids ∧ PsAt w A2 l[q].ps := by
  obtain ⟨b, o, hA, hb, hj⟩ := h.2 (by omega)
  obtain ⟨h0, h1, h3, A1, c1, A2, c2, h2, h5, h4, h6⟩ := hj q hq
  exact ⟨b, o, A1, c1, A2, c2, hA, hb, h0, h1, h2, h3, h4, h5, h6.1⟩

/-- .. now, with the capacity of its kids; its lists, as they came in. -/
theorem BsAt.getC {w W : World} {A : Option Addr} {l : List BK} (h : BsAt w A l) (hb : Below w.heap.size w W) {q : Nat} (hq : q < l.length) : ∃ b o A1 c1 A2 c2, A = some ⟨b, o, none⟩ ∧ b < W.heap.size ∧ W.cell? ⟨b, o + q * 5, none⟩ = some (.int .i64 l[q].id) ∧ W.cell? ⟨b, o + q * 5 + 1, none⟩ = some (.int .i64 l[q].par) ∧
    W.cell? ⟨b, o + q * 5 + 2, none⟩ = some (.slice A1 l[q].kids.length c1) ∧ W.cell? ⟨b, o + q * 5 + 3, none⟩ = some (.string l[q].txt) ∧ W.cell? ⟨b, o + q * 5 + 4, none⟩ = some (.slice A2 l[q].ps.length c2) ∧ IntsAt w A1 l[q].kids ∧ PsAt w A2 l[q].ps ∧ l[q].kids.length ≤ c1 := by
  obtain ⟨b, o, hA, hlt, hj⟩ := h.2 (by omega)
  obtain ⟨h0, h1, h3, A1, c1, A2, c2, h2, h5, h4, h6, h7⟩ := hj q hq
  exact ⟨b, o, A1, c1, A2, c2, hA, Nat.lt_of_lt_of_le hlt hb.size, (hb.cell (p := ⟨b, o + q * 5, none⟩) hlt).trans h0, (hb.cell (p := ⟨b, o + q * 5 + 1, none⟩) hlt).trans h1, (hb.cell (p := ⟨b, o + q * 5 + 2, none⟩) hlt).trans h2, (hb.cell (p := ⟨b, o + q * 5 + 3, none⟩) hlt).trans h3, (hb.cell (p := ⟨b, o + q * 5 + 4, none⟩) hlt).trans h4, h5, h6, h7⟩

/-- A block as a value. -/
def BK.val (x : BK) (A1 : Option Addr) (c1 : Nat) (A2 : Option Addr) (c2 : Nat) : Value := .agg #[.int .i64 x.id, .int .i64 x.par, .slice A1 x.kids.length c1, .string x.txt, .slice A2 x.ps.length c2]

set_option maxHeartbeats 3200000 in
set_option maxRecDepth 100000 in
theorem atR_any (l : List BK) (A : Option Addr) (c : Nat) (k : Int) (w : World) (hA : BsAt w A l) :
    Calls Tryz.prog 65 #[.slice A l.length c, .int .i64 k] w fun e w' => e = .returned (.int .i64 (ixI l k)) ∧ Below w.heap.size w w' := by
  have hm := hA.1
  unfold maxLen at hm
  have HA := hide hA
  clear hA
  go_enter Tryz.func65, Tryz.ntmps65
  go_wp2
  go_loopw [9] (fun i wr => ∃ (q : Nat), q ≤ l.length ∧ i = .int .i64 q ∧ Hid (∀ j, j < q → isId l k j = false) ∧ Hid (Below w.heap.size w wr)) (fun i _ => l.length - (intOf i).toNat)
  case atStart => exact ⟨0, Nat.zero_le _, rfl, hide (fun j hj => absurd hj (by omega)), hide (by repeat (first | with_reducible exact Below.refl _ _ | with_reducible refine bl_plus ?_ | with_reducible refine bl_alloc ?_ _ | with_reducible refine bl_drew ?_ | with_reducible refine bl_drewN ?_ _))⟩
  case round =>
    obtain ⟨q, hq, rfl, HN, HB⟩ := hrel
    by_cases hlt : q < l.length
    · obtain ⟨b, o, A1, c1, A2, c2, rfl, hb, y0, y1, y2, y3, y4, -, -⟩ := (HA.out.below HB.out).get hlt
      have i1 : (q : Int) < (l.length : Int) := by omega
      have HID := hide (show isId l k q = (l[q].id == k) by unfold isId; rw [idAt_get hlt])
      generalize l[q] = x at *
      obtain ⟨xi, xp, xk, xt, xs⟩ := x
      simp only at *
      cases hk : (xi == k) with
      | true =>
        have HR := hide (show (q : Int) = ixI l k by unfold ixI ixOf; rw [firstIdx_some HN.out (by rw [HID.out, hk]) hlt])
        go_wp2
        go_ret
        rw [← HR.out]
        exact ⟨rfl, below_chainT HB.out (by repeat (first | with_reducible exact Below.refl _ _ | with_reducible refine bl_plus ?_ | with_reducible refine bl_alloc ?_ _ | with_reducible refine bl_drew ?_ | with_reducible refine bl_drewN ?_ _))⟩
      | false =>
        go_wp2
        go_roundw
        case rel => exact ⟨q + 1, hlt, by go_num, hide (fun j hj => by
          by_cases e : j = q
          · subst e; rw [HID.out, hk]
          · exact HN.out j (by omega)), hide (below_chainT HB.out (by repeat (first | with_reducible exact Below.refl _ _ | with_reducible refine bl_plus ?_ | with_reducible refine bl_alloc ?_ _ | with_reducible refine bl_drew ?_ | with_reducible refine bl_drewN ?_ _)))⟩
        case measure => simp [intOf]; omega
    · obtain rfl : q = l.length := by omega
      have HR := hide (show (-1 : Int) = ixI l k by unfold ixI ixOf; rw [firstIdx_none HN.out])
      go_wp2
      go_ret
      rw [← HR.out]
      exact ⟨rfl, below_chainT HB.out (by repeat (first | with_reducible exact Below.refl _ _ | with_reducible refine bl_plus ?_ | with_reducible refine bl_alloc ?_ _ | with_reducible refine bl_drew ?_ | with_reducible refine bl_drewN ?_ _))⟩

set_option maxHeartbeats 3200000 in
set_option maxRecDepth 100000 in
theorem cmpI_any (x : BK) (A1 A2 : Option Addr) (c1 c2 : Nat) (k : Int) (w : World) :
    Calls Tryz.prog 140 #[x.val A1 c1 A2 c2, .int .i64 k] w fun e w' => e = .returned (.int .i64 (wrap64 (x.id - k))) ∧ Below w.heap.size w w' := by
  obtain ⟨xi, xp, xk, xt, xs⟩ := x
  unfold BK.val
  go_enter Tryz.func140, Tryz.ntmps140
  go_wp2
  go_ret
  exact ⟨rfl, (by repeat (first | with_reducible exact Below.refl _ _ | with_reducible refine bl_plus ?_ | with_reducible refine bl_alloc ?_ _ | with_reducible refine bl_drew ?_ | with_reducible refine bl_drewN ?_ _))⟩

theorem wrap_diff {a k : Int} (h0 : 0 ≤ a) (h1 : a ≤ 1000000) (hk0 : 0 ≤ k) (hk1 : k ≤ 1000000) : wrap64 (a - k) = a - k := by unfold wrap64; omega

theorem wrap_zero {a k : Int} (h0 : 0 ≤ a) (h1 : a ≤ 1000000) (hk0 : -9223372036854775808 ≤ k) (hk1 : k ≤ 9223372036854775807) (h : wrap64 (a - k) = 0) : a = k := by
  unfold wrap64 at h
  omega

/-- Numbers that rise, and are small. -/
theorem Ids.bound {l : List BK} (I : Ids l) {q : Nat} (h : q < l.length) : 0 ≤ l[q].id ∧ l[q].id ≤ 1000000 := by
  by_cases e : q = 0
  · subst e
    have := I.zero h
    omega
  · have := I.pos q (by omega) h
    omega

set_option maxHeartbeats 3200000 in
set_option maxRecDepth 100000 in
theorem binS_any (l : List BK) (A : Option Addr) (c : Nat) (k : Int) (w : World) (hA : BsAt w A l) (I : Ids l) (hn : l.length ≤ 2000) (hk : -9223372036854775808 ≤ k ∧ k ≤ 9223372036854775807) :
    Calls Tryz.prog 139 #[.slice A l.length c, .int .i64 k, .func (.func 140) #[] #[]] w fun e w' => ∃ (i : Nat) (f : Bool), e = .returned (.tuple #[.int .i64 i, .bool f]) ∧ (f = true → ixOf l k = some i) ∧ (f = false → ixOf l k = none) ∧ Below w.heap.size w w' := by
  have HA := hide hA
  have HI := hide I
  have HK := hide hk
  have ent : ∀ args w, (callFunc 140 args).run Tryz.prog w = .ok (.enter 140 args) w := fun args w => Go.Proofs.enters_of Tryz.func140 (by kernel_rfl) rfl args w
  have HPO : Hid (∀ (i : Nat) (f : Bool) (w' : World), (f = true → ixOf l k = some i) → (f = false → ixOf l k = none) → Below w.heap.size w w' → (fun e w' => ∃ (i : Nat) (f : Bool), e = Ending.returned (.tuple #[.int .i64 i, .bool f]) ∧ (f = true → ixOf l k = some i) ∧ (f = false → ixOf l k = none) ∧ Below w.heap.size w w') (.returned (.tuple #[.int .i64 i, .bool f])) w') := hide fun i f w' h1 h2 h3 => ⟨i, f, rfl, h1, h2, h3⟩
  generalize (fun e w' => ∃ (i : Nat) (f : Bool), e = Ending.returned (.tuple #[.int .i64 i, .bool f]) ∧ (f = true → ixOf l k = some i) ∧ (f = false → ixOf l k = none) ∧ Below w.heap.size w w') = PO at *
  clear hA I hk
  go_enter Tryz.func139, Tryz.ntmps139
  go_wp2
  go_loopg [9, 10] l.length (fun kx s9 s10 wr => ∃ lo hi : Nat, s9 = .int .i64 lo ∧ s10 = .int .i64 hi ∧ lo ≤ hi ∧ hi ≤ l.length ∧ hi - lo ≤ kx ∧ Hid (Below w.heap.size w wr) ∧ Hid (∀ p (h : p < l.length), l[p].id = k → lo ≤ p ∧ p ≤ hi))
  case atStart => exact ⟨0, l.length, rfl, rfl, Nat.zero_le _, Nat.le_refl _, by omega, hide (by repeat (first | with_reducible exact Below.refl _ _ | with_reducible refine bl_plus ?_ | with_reducible refine bl_alloc ?_ _ | with_reducible refine bl_drew ?_ | with_reducible refine bl_drewN ?_ _)), hide (fun p h _ => ⟨Nat.zero_le _, by omega⟩)⟩
  case round =>
    obtain ⟨lo, hi, rfl, rfl, hlh, hin, hg, HB, HP⟩ := hrel
    by_cases hlt : lo < hi
    · have hm : (lo + hi) / 2 < l.length := by omega
      obtain ⟨b, o, A1, c1, A2, c2, rfl, hb, y0, y1, y2, y3, y4, -, -⟩ := (HA.out.below HB.out).get hm
      have HL := hide (show ∀ p (h : p < l.length), l[p].id = k → wrap64 (l[(lo + hi) / 2].id - k) = l[(lo + hi) / 2].id - k ∧ (l[(lo + hi) / 2].id < l[p].id → (lo + hi) / 2 < p) ∧ (¬ l[(lo + hi) / 2].id < l[p].id → p ≤ (lo + hi) / 2) from fun p h hpk => by
        have h1 := HI.out.bound h
        have h2 := HI.out.bound hm
        refine ⟨wrap_diff h2.1 h2.2 (by omega) (by omega), fun h3 => ?_, fun h3 => ?_⟩
        · refine Nat.lt_of_not_le fun h4 => ?_
          rcases Nat.lt_or_ge p ((lo + hi) / 2) with h5 | h5
          · have := HI.out.rise p _ h5 hm; omega
          · have : p = (lo + hi) / 2 := by omega
            subst this; omega
        · refine Nat.le_of_not_lt fun h4 => h3 (HI.out.rise _ p h4 h))
      have HC := hide (fun W => cmpI_any l[(lo + hi) / 2] A1 A2 c1 c2 k W)
      unfold BK.val at HC
      generalize l[(lo + hi) / 2] = x at *
      obtain ⟨xi, xp, xk, xt, xs⟩ := x
      simp only at *
      generalize hd : wrap64 (xi - k) = D at *
      have HD := hide hd
      clear hd
      by_cases hyx : D < 0
      · have HP2 := hide (show ∀ p (h : p < l.length), l[p].id = k → (lo + hi) / 2 + 1 ≤ p ∧ p ≤ hi from fun p h hpk => by
          obtain ⟨h1, h2, h3⟩ := HL.out p h hpk
          have := h2 (by omega)
          exact ⟨this, (HP.out p h hpk).2⟩)
        clear HL HP
        go_wp2_with (go_at_fn 140; refine (HC.out _).mono ?_; rintro e w' ⟨rfl, hbl⟩; have HB2 := hide (below_chainT HB.out (below_chainT (w := wr) (by repeat (first | with_reducible exact Below.refl _ _ | with_reducible refine bl_plus ?_ | with_reducible refine bl_alloc ?_ _ | with_reducible refine bl_drew ?_ | with_reducible refine bl_drewN ?_ _)) hbl)); clear hbl)
        go_roundg (hi - ((lo + hi) / 2 + 1))
        case measure => omega
        case rel => exact ⟨(lo + hi) / 2 + 1, hi, by rw [show ((lo : Int) + (hi : Int)) / 2 + 1 = (((lo + hi) / 2 + 1 : Nat) : Int) by omega], rfl, by omega, hin, Nat.le_refl _, HB2, HP2⟩
      · have HP2 := hide (show ∀ p (h : p < l.length), l[p].id = k → lo ≤ p ∧ p ≤ (lo + hi) / 2 from fun p h hpk => by
          obtain ⟨h1, h2, h3⟩ := HL.out p h hpk
          have := h3 (by omega)
          exact ⟨(HP.out p h hpk).1, this⟩)
        clear HL HP
        go_wp2_with (go_at_fn 140; refine (HC.out _).mono ?_; rintro e w' ⟨rfl, hbl⟩; have HB2 := hide (below_chainT HB.out (below_chainT (w := wr) (by repeat (first | with_reducible exact Below.refl _ _ | with_reducible refine bl_plus ?_ | with_reducible refine bl_alloc ?_ _ | with_reducible refine bl_drew ?_ | with_reducible refine bl_drewN ?_ _)) hbl)); clear hbl)
        go_roundg ((lo + hi) / 2 - lo)
        case measure => omega
        case rel => exact ⟨lo, (lo + hi) / 2, rfl, by rw [show ((lo : Int) + (hi : Int)) / 2 = (((lo + hi) / 2 : Nat) : Int) by omega], by omega, by omega, Nat.le_refl _, HB2, HP2⟩
    · obtain rfl : hi = lo := by omega
      by_cases hn2 : hi < l.length
      · obtain ⟨b, o, A1, c1, A2, c2, rfl, hb, y0, y1, y2, y3, y4, -, -⟩ := (HA.out.below HB.out).get hn2
        have HC := hide (fun W => cmpI_any l[hi] A1 A2 c1 c2 k W)
        have i1 : (hi : Int) < (l.length : Int) := by omega
        have HT := hide (show wrap64 (l[hi].id - k) = 0 → ixOf l k = some hi from fun h => by
          have h1 := HI.out.bound hn2
          have := wrap_zero h1.1 h1.2 HK.out.1 HK.out.2 h
          rw [← this]
          exact HI.out.ix hn2)
        have HF := hide (show ¬ wrap64 (l[hi].id - k) = 0 → ixOf l k = none from fun h => by
          cases hx : ixOf l k with
          | none => rfl
          | some p =>
            obtain ⟨hp, hid⟩ := ixOf_some hx
            rw [idAt_get hp] at hid
            have h9 := HP.out p hp hid
            obtain rfl : p = hi := by omega
            exfalso
            apply h
            rw [hid]
            unfold wrap64
            omega)
        clear HP
        unfold BK.val at HC
        generalize l[hi] = x at *
        obtain ⟨xi, xp, xk, xt, xs⟩ := x
        simp only at *
        generalize wrap64 (xi - k) = D at *
        by_cases hyx : D = 0
        · have HR := hide (HT.out hyx)
          have e1 : (D == 0) = true := by simpa using hyx
          clear hyx HT HF
          go_wp2_with (go_at_fn 140; refine (HC.out _).mono ?_; rintro e w' ⟨rfl, hbl⟩; have HB2 := hide (below_chainT HB.out (below_chainT (w := wr) (by repeat (first | with_reducible exact Below.refl _ _ | with_reducible refine bl_plus ?_ | with_reducible refine bl_alloc ?_ _ | with_reducible refine bl_drew ?_ | with_reducible refine bl_drewN ?_ _)) hbl)); clear hbl)
          exact HPO.out hi true _ (fun _ => HR.out) (fun h => by cases h) HB2.out
        · have HR := hide (HF.out hyx)
          have e1 : (D == 0) = false := by simpa using hyx
          clear hyx HT HF
          go_wp2_with (go_at_fn 140; refine (HC.out _).mono ?_; rintro e w' ⟨rfl, hbl⟩; have HB2 := hide (below_chainT HB.out (below_chainT (w := wr) (by repeat (first | with_reducible exact Below.refl _ _ | with_reducible refine bl_plus ?_ | with_reducible refine bl_alloc ?_ _ | with_reducible refine bl_drew ?_ | with_reducible refine bl_drewN ?_ _)) hbl)); clear hbl)
          exact HPO.out hi false _ (fun h => by cases h) (fun _ => HR.out) HB2.out
      · have i1 : ¬ (hi : Int) < (l.length : Int) := by omega
        have HR := hide (show ixOf l k = none by
          cases hx : ixOf l k with
          | none => rfl
          | some p =>
            obtain ⟨hp, hid⟩ := ixOf_some hx
            rw [idAt_get hp] at hid
            have h9 := HP.out p hp hid
            omega)
        clear HP
        go_wp2
        exact HPO.out hi false _ (fun h => by cases h) (fun _ => HR.out) HB.out

set_option maxHeartbeats 3200000 in
set_option maxRecDepth 100000 in
theorem index_any (l : List BK) (A : Option Addr) (c : Nat) (k : Int) (w : World) (hA : BsAt w A l) (I : Ids l) (hn : l.length ≤ 2000) (hk : -9223372036854775808 ≤ k ∧ k ≤ 9223372036854775807) :
    Calls Tryz.prog 94 #[.slice A l.length c, .int .i64 k] w fun e w' => e = .returned (.int .i64 (ixI l k)) ∧ Below w.heap.size w w' := by
  have HC := hide (fun W (hb : Below w.heap.size w W) => binS_any l A c k W (hA.below hb) I hn hk)
  have HT : Hid (∀ i : Nat, ixOf l k = some i → ixI l k = i) := hide fun i h => by unfold ixI; rw [h]
  have HF : Hid (ixOf l k = none → ixI l k = -1) := hide fun h => by unfold ixI; rw [h]
  clear hA I hn hk
  go_enter Tryz.func94, Tryz.ntmps94
  go_upto_region 2 with (go_at_call 139; (refine (HC.out _ (by repeat (first | with_reducible exact Below.refl _ _ | with_reducible refine bl_plus ?_ | with_reducible refine bl_alloc ?_ _ | with_reducible refine bl_drew ?_ | with_reducible refine bl_drewN ?_ _))).mono ?_); rintro e w' ⟨i, f, rfl, h1, h2, hbl⟩; have H1 := hide h1; have H2 := hide h2; have HB := hide (below_chainT (w := w) (by repeat (first | with_reducible exact Below.refl _ _ | with_reducible refine bl_plus ?_ | with_reducible refine bl_alloc ?_ _ | with_reducible refine bl_drew ?_ | with_reducible refine bl_drewN ?_ _)) hbl); clear h1 h2 hbl)
  cases f with
  | true =>
    have HR := hide (HT.out i (H1.out rfl))
    go_wp2
    go_ret
    rw [HR.out]
    exact ⟨rfl, HB.out⟩
  | false =>
    have HR := hide (HF.out (H2.out rfl))
    go_wp2
    go_ret
    rw [HR.out]
    exact ⟨rfl, HB.out⟩

end Go.Proofs.YtioppoaijehicaaGreatDoor
