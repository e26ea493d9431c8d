/-
  PLAIN: marks that two ways of going down from the root lay.
-/
import Derived.Test.YtidpfjdlchffcaaDoorTba
set_option linter.all false
namespace Go.Proofs.YtidpfjdlchffcaaDoor
open Go.RowKit Go.Lib

/-- How many places hold 0. -/
def zeros : List Int → Nat
  | [] => 0
  | x :: l => (if x = 0 then 1 else 0) + zeros l

theorem zeros_le : ∀ l : List Int, zeros l ≤ l.length
  | [] => Nat.le_refl _
  | x :: l => by
    have := zeros_le l
    unfold zeros
    rw [List.length_cons]
    split <;> omega

theorem zeros_set : ∀ {l : List Int} {n : Nat} {v : Int} (h : n < l.length), l[n] = 0 → v ≠ 0 → zeros (l.set n v) + 1 = zeros l
  | x :: l, 0, v, _, h0, hv => by
    have h0 : x = 0 := h0
    rw [List.set_cons_zero]
    unfold zeros
    rw [if_neg hv, if_pos h0]
    omega
  | x :: l, n + 1, v, h, h0, hv => by
    have ih := zeros_set (l := l) (n := n) (v := v) (by simpa using h) (by simpa using h0) hv
    rw [List.set_cons_succ]
    unfold zeros
    omega

/-- The mark at a place. -/
def mkd (ds : List Int) (j : Nat) : Int := ds.getD j 0

theorem mkd_get {ds : List Int} {j : Nat} (h : j < ds.length) : mkd ds j = ds[j] := by
  unfold mkd
  rw [List.getD_eq_getElem?_getD, List.getElem?_eq_getElem h]
  rfl

theorem mkd_out {ds : List Int} {j : Nat} (h : ds.length ≤ j) : mkd ds j = 0 := by
  unfold mkd
  rw [List.getD_eq_getElem?_getD, List.getElem?_eq_none h]
  rfl

theorem mkd_set {ds : List Int} {n : Nat} (v : Int) (h : n < ds.length) (j : Nat) : mkd (ds.set n v) j = if j = n then v else mkd ds j := by
  unfold mkd
  rw [List.getD_eq_getElem?_getD, List.getD_eq_getElem?_getD, List.getElem?_set]
  by_cases e : j = n
  · subst e
    simp [h]
  · rw [if_neg (fun e2 => e e2.symm), if_neg e]

/-- Is the block of a number marked? -/
def mkId (l : List BK) (ds : List Int) (k : Int) : Prop := ∃ n, ixOf l k = some n ∧ mkd ds n ≠ 0

def kidsMk (l : List BK) (ds : List Int) (j : Nat) : Prop := ∀ b, l[j]? = some b → ∀ k ∈ b.kids, mkId l ds k

/-- Marks that are right. -/
structure MkOk (l : List BK) (ds : List Int) : Prop where
  len : ds.length = l.length
  ok : ∀ j, mkd ds j ≠ 0 → ∃ d : Nat, mkd ds j = (d : Int) ∧ Dp l (idAt l j) d

/-- More marks; what is new has its kids marked. -/
structure Mo (l : List BK) (ds ds' : List Int) : Prop where
  ok : MkOk l ds'
  keep : ∀ j, mkd ds j ≠ 0 → mkd ds' j = mkd ds j
  new : ∀ j, mkd ds' j ≠ 0 → mkd ds j = 0 → kidsMk l ds' j

theorem Mo.refl {l : List BK} {ds : List Int} (h : MkOk l ds) : Mo l ds ds := ⟨h, fun _ _ => rfl, fun j h1 h2 => absurd h2 h1⟩

theorem mkId_keep {l : List BK} {ds ds' : List Int} (h : ∀ j, mkd ds j ≠ 0 → mkd ds' j = mkd ds j) {k : Int} (hm : mkId l ds k) : mkId l ds' k := by
  obtain ⟨n, hn, h0⟩ := hm
  exact ⟨n, hn, by rw [h n h0]; exact h0⟩

theorem Mo.trans {l : List BK} {a b c : List Int} (h1 : Mo l a b) (h2 : Mo l b c) : Mo l a c := by
  refine ⟨h2.ok, fun j hj => ?_, fun j hc ha => ?_⟩
  · rw [h2.keep j (by rw [h1.keep j hj]; exact hj), h1.keep j hj]
  · by_cases hb : mkd b j = 0
    · exact h2.new j hc hb
    · exact fun x hx k hk => mkId_keep h2.keep (h1.new j hb ha x hx k hk)

/-- A kid is marked, and then all below it. -/
theorem Mo.step {l : List BK} {ds ds2 : List Int} {n : Nat} {v : Int} (h : MkOk l ds) (hn : n < ds.length) (h0 : mkd ds n = 0) (hm : Mo l (ds.set n v) ds2) (hk : kidsMk l ds2 n) : Mo l ds ds2 := by
  refine ⟨hm.ok, fun j hj => ?_, fun j hj h1 => ?_⟩
  · have hne : j ≠ n := fun e => hj (by rw [e]; exact h0)
    have e := mkd_set v hn j
    rw [if_neg hne] at e
    rw [hm.keep j (by rw [e]; exact hj), e]
  · by_cases hne : j = n
    · subst hne; exact hk
    · have e := mkd_set v hn j
      rw [if_neg hne] at e
      exact hm.new j hj (by rw [e]; exact h1)

theorem MkOk.set {l : List BK} {ds : List Int} {n d : Nat} (h : MkOk l ds) (hn : n < ds.length) (hd : Dp l (idAt l n) d) : MkOk l (ds.set n (d : Int)) := by
  refine ⟨by rw [List.length_set]; exact h.len, fun j hj => ?_⟩
  rw [mkd_set _ hn] at hj ⊢
  by_cases e : j = n
  · rw [if_pos e] at hj ⊢
    subst e
    exact ⟨d, rfl, hd⟩
  · rw [if_neg e] at hj ⊢
    exact h.ok j hj

theorem mkOk_zero (l : List BK) : MkOk l (List.replicate l.length 0) := by
  refine ⟨List.length_replicate, fun j hj => absurd ?_ hj⟩
  unfold mkd
  rw [List.getD_eq_getElem?_getD, List.getElem?_replicate]
  split <;> rfl

theorem mkd_zero (n j : Nat) : mkd (List.replicate n 0) j = 0 := by
  unfold mkd
  rw [List.getD_eq_getElem?_getD, List.getElem?_replicate]
  split <;> rfl

/-- What the marks say at the end. -/
theorem depErr_marks {l : List BK} (G : Good l) {ds : List Int} (h : Mo l (List.replicate l.length 0) ds) (h0 : kidsMk l ds 0) (hl : 0 < l.length) (i : Nat) (hi : i < l.length) :
    depErr l i = if i = 0 then 0 else if mkd ds i = 0 then 12 else if 40 < mkd ds i then 13 else 0 := by
  let f : Int → Option Nat := fun k => match ixOf l k with
    | none => none
    | some n => if n = 0 then some 0 else if mkd ds n = 0 then none else some (mkd ds n).toNat
  have hf0 : f 0 = some 0 := by
    have h1 := G.ids.ix hl
    rw [G.ids.zero hl] at h1
    show (match ixOf l 0 with | none => none | some n => if n = 0 then some 0 else if mkd ds n = 0 then none else some (mkd ds n).toNat) = some 0
    rw [h1]
    rfl
  have hfm : ∀ k, mkId l ds k → ∃ d, f k = some d := fun k ⟨n, hn, hm⟩ => by
    show ∃ d, (match ixOf l k with | none => none | some n => if n = 0 then some 0 else if mkd ds n = 0 then none else some (mkd ds n).toNat) = some d
    rw [hn]
    simp only
    by_cases e : n = 0
    · exact ⟨0, by rw [if_pos e]⟩
    · exact ⟨_, by rw [if_neg e, if_neg hm]⟩
  have hc : ∀ b ∈ l, (∃ d, f b.id = some d) → ∀ k ∈ b.kids, ∃ d, f k = some d := by
    intro b hb ⟨d, hd⟩ k hk
    obtain ⟨j, hj, rfl⟩ := List.getElem_of_mem hb
    refine hfm k ?_
    have hd : (match ixOf l l[j].id with | none => none | some n => if n = 0 then some 0 else if mkd ds n = 0 then none else some (mkd ds n).toNat) = some d := hd
    rw [G.ids.ix hj] at hd
    simp only at hd
    by_cases e : j = 0
    · subst e
      exact h0 _ (List.getElem?_eq_getElem hj) k hk
    · rw [if_neg e] at hd
      by_cases hz : mkd ds j = 0
      · rw [if_pos hz] at hd; cases hd
      · exact h.new j hz (mkd_zero _ _) _ (List.getElem?_eq_getElem hj) k hk
  have hd : ∀ k d, f k = some d → Dp l k d := by
    intro k d hk
    have hk : (match ixOf l k with | none => none | some n => if n = 0 then some 0 else if mkd ds n = 0 then none else some (mkd ds n).toNat) = some d := hk
    cases hx : ixOf l k with
    | none => rw [hx] at hk; cases hk
    | some n =>
      rw [hx] at hk
      simp only at hk
      obtain ⟨hn, hid⟩ := ixOf_some hx
      by_cases e : n = 0
      · subst e
        rw [if_pos rfl] at hk
        obtain rfl := Option.some.inj hk
        rw [← hid, idAt_get hl, G.ids.zero hl]
        exact .root
      · rw [if_neg e] at hk
        by_cases hz : mkd ds n = 0
        · rw [if_pos hz] at hk; cases hk
        · rw [if_neg hz] at hk
          obtain ⟨d', e1, e2⟩ := h.ok.ok n hz
          rw [e1] at hk
          obtain rfl := Option.some.inj hk
          rw [hid] at e2
          simpa using e2
  unfold depErr
  rw [depErrs_marks G ⟨0, hf0⟩ hc hd]
  rw [idAt_get hi]
  show (match (match ixOf l l[i].id with | none => none | some n => if n = 0 then some 0 else if mkd ds n = 0 then none else some (mkd ds n).toNat) with | none => (12 : Int) | some d => if 40 < d then 13 else 0) = _
  rw [G.ids.ix hi]
  simp only
  by_cases e : i = 0
  · rw [if_pos e, if_pos e]
    rfl
  · rw [if_neg e, if_neg e]
    by_cases hz : mkd ds i = 0
    · rw [if_pos hz, if_pos hz]
    · rw [if_neg hz, if_neg hz]
      obtain ⟨d', e1, -⟩ := h.ok.ok i hz
      rw [e1]
      simp only [Int.toNat_natCast]
      by_cases h40 : 40 < d'
      · rw [if_pos h40, if_pos (by omega)]
      · rw [if_neg h40, if_neg (by omega)]

/-- Marks laid one more. -/
def updF (f : Int → Option Nat) (k : Int) (d : Nat) : Int → Option Nat := fun x => if x = k then some d else f x

theorem updF_same (f : Int → Option Nat) (k : Int) (d : Nat) : updF f k d k = some d := by simp [updF]

theorem updF_other (f : Int → Option Nat) {k x : Int} (d : Nat) (h : x ≠ k) : updF f k d x = f x := by simp [updF, h]

/-- How many blocks bear no mark. -/
def unm (f : Int → Option Nat) : List BK → Nat
  | [] => 0
  | b :: l => (if f b.id = none then 1 else 0) + unm f l

theorem unm_le (f : Int → Option Nat) : ∀ l : List BK, unm f l ≤ l.length
  | [] => Nat.le_refl _
  | b :: l => by
    have := unm_le f l
    unfold unm
    rw [List.length_cons]
    split <;> omega

theorem unm_mono (f : Int → Option Nat) (k : Int) (d : Nat) : ∀ l : List BK, unm (updF f k d) l ≤ unm f l
  | [] => Nat.le_refl _
  | b :: l => by
    have ih := unm_mono f k d l
    unfold unm
    by_cases e : b.id = k
    · rw [e, updF_same, if_neg (by simp)]
      split <;> omega
    · rw [updF_other f d e]
      omega

theorem unm_upd {f : Int → Option Nat} {k : Int} (d : Nat) (hf : f k = none) : ∀ {l : List BK}, (∃ b ∈ l, b.id = k) → unm (updF f k d) l + 1 ≤ unm f l
  | [], h => by obtain ⟨b, hb, -⟩ := h; cases hb
  | b :: l, h => by
    unfold unm
    by_cases e : b.id = k
    · have := unm_mono f k d l
      rw [e, updF_same, if_neg (by simp), if_pos hf]
      omega
    · obtain ⟨x, hx, hxk⟩ := h
      have hx2 : x ∈ l := by
        rcases List.mem_cons.1 hx with rfl | hx
        · exact absurd hxk e
        · exact hx
      have ih := unm_upd d hf ⟨x, hx2, hxk⟩
      rw [updF_other f d e]
      omega

/-- The marks of the first way: what is right, and what is still to be looked at. -/
structure Bf (l : List BK) (f : Int → Option Nat) (todo : List Int) : Prop where
  ok : ∀ k d, f k = some d → Dp l k d
  root : ∃ d, f 0 = some d
  tds : ∀ k ∈ todo, ∃ d, f k = some d
  done : ∀ b ∈ l, (∃ d, f b.id = some d) → b.id ∈ todo ∨ ∀ k ∈ b.kids, ∃ d, f k = some d

theorem bf_start (l : List BK) : Bf l (updF (fun _ => none) 0 0) [0] := by
  refine ⟨fun k d h => ?_, ⟨0, updF_same _ _ _⟩, fun k hk => ?_, fun b _ ⟨d, hd⟩ => ?_⟩
  · by_cases e : k = 0
    · subst e
      rw [updF_same] at h
      obtain rfl := Option.some.inj h
      exact .root
    · rw [updF_other _ _ e] at h; cases h
  · rw [List.mem_singleton.1 hk]; exact ⟨0, updF_same _ _ _⟩
  · by_cases e : b.id = 0
    · rw [e]; exact .inl (List.mem_singleton.2 rfl)
    · rw [updF_other _ _ e] at hd; cases hd

/-- One block is looked at: its first kids have been. -/
structure Bg (l : List BK) (f : Int → Option Nat) (b : BK) (j : Nat) (todo : List Int) : Prop where
  ok : ∀ k d, f k = some d → Dp l k d
  root : ∃ d, f 0 = some d
  self : ∃ d, f b.id = some d
  tds : ∀ k ∈ todo, ∃ d, f k = some d
  kids : ∀ k ∈ b.kids.take j, ∃ d, f k = some d
  done : ∀ x ∈ l, (∃ d, f x.id = some d) → x.id ∈ todo ∨ x.id = b.id ∨ ∀ k ∈ x.kids, ∃ d, f k = some d

theorem Bf.pop {l : List BK} {f : Int → Option Nat} {b : BK} {t : List Int} (h : Bf l f (b.id :: t)) : Bg l f b 0 t :=
  ⟨h.ok, h.root, h.tds _ (by simp), fun k hk => h.tds k (by simp [hk]), fun k hk => by simp at hk, fun x hx hm => by
    rcases h.done x hx hm with h1 | h1
    · rcases List.mem_cons.1 h1 with h1 | h1
      · exact .inr (.inl h1)
      · exact .inl h1
    · exact .inr (.inr h1)⟩

theorem Bg.skip {l : List BK} {f : Int → Option Nat} {b : BK} {j : Nat} {t : List Int} (h : Bg l f b j t) (hj : j < b.kids.length) (hm : ∃ d, f b.kids[j] = some d) : Bg l f b (j + 1) t :=
  ⟨h.ok, h.root, h.self, h.tds, fun k hk => by
    rw [List.take_succ_eq_append_getElem hj, List.mem_append] at hk
    rcases hk with hk | hk
    · exact h.kids k hk
    · rw [List.mem_singleton.1 hk]; exact hm, h.done⟩

theorem updF_keep {f : Int → Option Nat} {k x : Int} (e : Nat) (h : ∃ d, f x = some d) : ∃ d, updF f k e x = some d := by
  by_cases hx : x = k
  · rw [hx]; exact ⟨e, updF_same _ _ _⟩
  · rw [updF_other _ _ hx]; exact h

theorem Bg.mark {l : List BK} {f : Int → Option Nat} {b : BK} {j d : Nat} {t : List Int} (h : Bg l f b j t) (hb : b ∈ l) (hj : j < b.kids.length) (hd : f b.id = some d) (hn : f b.kids[j] = none) : Bg l (updF f b.kids[j] (d + 1)) b (j + 1) (t ++ [b.kids[j]]) := by
  have hkb : b.kids[j] ∈ b.kids := List.getElem_mem hj
  refine ⟨fun k e he => ?_, updF_keep _ h.root, updF_keep _ h.self, fun k hk => ?_, fun k hk => ?_, fun x hx hm => ?_⟩
  · by_cases hk : k = b.kids[j]
    · rw [hk, updF_same] at he
      obtain rfl := Option.some.inj he
      rw [hk]
      exact .kid hb (h.ok _ _ hd) hkb
    · rw [updF_other _ _ hk] at he
      exact h.ok k e he
  · rcases List.mem_append.1 hk with hk | hk
    · exact updF_keep _ (h.tds k hk)
    · rw [List.mem_singleton.1 hk]; exact ⟨_, updF_same _ _ _⟩
  · rw [List.take_succ_eq_append_getElem hj, List.mem_append] at hk
    rcases hk with hk | hk
    · exact updF_keep _ (h.kids k hk)
    · rw [List.mem_singleton.1 hk]; exact ⟨_, updF_same _ _ _⟩
  · by_cases hxk : x.id = b.kids[j]
    · exact .inl (by rw [hxk]; simp)
    · obtain ⟨e, he⟩ := hm
      rw [updF_other _ _ hxk] at he
      rcases h.done x hx ⟨e, he⟩ with h1 | h1 | h1
      · exact .inl (List.mem_append.2 (.inl h1))
      · exact .inr (.inl h1)
      · exact .inr (.inr fun k hk => updF_keep _ (h1 k hk))

theorem Bg.end_ {l : List BK} (I : Ids l) {f : Int → Option Nat} {b : BK} {t : List Int} (hb : b ∈ l) (h : Bg l f b b.kids.length t) : Bf l f t :=
  ⟨h.ok, h.root, h.tds, fun x hx hm => by
    rcases h.done x hx hm with h1 | h1 | h1
    · exact .inl h1
    · obtain ⟨i, hi, rfl⟩ := List.getElem_of_mem hx
      obtain ⟨j, hj, rfl⟩ := List.getElem_of_mem hb
      obtain rfl := I.inj hi hj h1
      refine .inr fun k hk => h.kids k ?_
      rw [List.take_length]; exact hk
    · exact .inr h1⟩

theorem Bf.end_ {l : List BK} (G : Good l) {f : Int → Option Nat} (h : Bf l f []) (k : Int) : depErrs l k = match f k with | none => 12 | some d => if 40 < d then 13 else 0 :=
  depErrs_marks G h.root (fun b hb hm => (h.done b hb hm).resolve_left (by simp)) h.ok k

end Go.Proofs.YtidpfjdlchffcaaDoor
