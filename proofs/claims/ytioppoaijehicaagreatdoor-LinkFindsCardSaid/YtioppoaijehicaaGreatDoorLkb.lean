/-
  PLAIN: a right base: what lies below what; the page of a block; what a page is called; to which page a title leads.
-/
import Derived.Test.YtioppoaijehicaaGreatDoorTbh
import Derived.Test.YtioppoaijehicaaGreatDoorCmb
import Derived.Test.YtioppoaijehicaaGreatDoorFta
import Derived.Test.YtioppoaijehicaaGreatDoorPph
import Derived.Test.YtioppoaijehicaaGreatDoorVls
set_option linter.all false
namespace Go.Proofs.YtioppoaijehicaaGreatDoor
open Go.RowKit Go.Lib

/-! ### Names of properties -/
def nameBP (p : PR) : List UInt8 := p.n.data.toList

def NamedP (l : List PR) : Prop := l.Pairwise (fun p q => p.n ≠ q.n)

/-- Properties that are right have names that rise. -/
theorem namedP_of {l : List PR} (h : propsErr l = 0) : NamedP l ∧ l.length ≤ 20 := by
  unfold propsErr at h
  by_cases h20 : 20 < l.length
  · rw [if_pos h20] at h; omega
  · rw [if_neg h20] at h
    have hall : ∀ j, j < l.length → propErrAt l j = 0 := by
      intro j
      induction j using Nat.strongRecOn with
      | ind j ih =>
        intro hj
        by_cases hz : propErrAt l j = 0
        · exact hz
        · rw [firstErr_first (fun i hi => ih i hi (by omega)) hz hj] at h
          exact h
    have hstep : ∀ j (h : j + 1 < l.length), compareBytes (nameBP l[j]) (nameBP l[j + 1]) < 0 := by
      intro j hj
      have h1 := hall (j + 1) hj
      rcases propErr_more hj with ⟨_, h2⟩ | ⟨_, ⟨_, h2⟩ | ⟨h2, _⟩⟩
      · omega
      · omega
      · unfold nameLe at h2
        have hc := less_cmp l[j].n.toList l[j + 1].n.toList
        unfold nameBP
        rw [← ByteArray.toList_eq, ← ByteArray.toList_eq]
        simp only [Bool.or_eq_false_iff] at h2
        rcases hc with ⟨h3, _⟩ | ⟨_, _, h3, _⟩ | ⟨_, _, _, h3⟩
        · omega
        · rw [h2.1] at h3; cases h3
        · have := eq_of_beq h3
          rw [this] at h2
          simp at h2
    refine ⟨?_, by omega⟩
    unfold NamedP
    rw [List.pairwise_iff_getElem]
    have hlt : ∀ d i (h : i + d + 1 < l.length), compareBytes (nameBP l[i]) (nameBP l[i + d + 1]) < 0 := by
      intro d
      induction d with
      | zero => intro i hi; exact hstep i hi
      | succ d ih =>
        intro i hi
        have h1 := ih i (by omega)
        have h2 := hstep (i + d + 1) hi
        have h3 := cmpB_trans (nameBP l[i]) (nameBP l[i + d + 1]) (nameBP l[i + (d + 1) + 1]) (by omega) (by
          have : i + (d + 1) + 1 = i + d + 1 + 1 := by omega
          simp only [this]
          omega)
        rcases Int.lt_or_eq_of_le h3 with h | h
        · exact h
        · have he := cmpB_eq h
          have h4 : compareBytes (nameBP l[i + d + 1]) (nameBP l[i]) < 0 := by
            rw [he]
            have : i + (d + 1) + 1 = i + d + 1 + 1 := by omega
            simp only [this]
            exact h2
          have := cmpB_swap (nameBP l[i]) (nameBP l[i + d + 1])
          omega
    intro i j hi hj hij hn
    have h1 := hlt (j - i - 1) i (by omega)
    have e : i + (j - i - 1) + 1 = j := by omega
    simp only [e] at h1
    unfold nameBP at h1
    rw [hn, cmpB_refl] at h1
    omega


/-! ### A right base -/
structure Right (l : List BK) : Prop where
  good : Good l
  len : l.length ≤ 2000
  pos : 0 < l.length
  kids : ∀ b ∈ l, b.kids.length ≤ 500
  deep : ∀ k d, Dp l k d → d ≤ 40
  reach : ∀ b ∈ l, ∃ d, Dp l b.id d
  txt : ∀ b ∈ l, b.txt.size ≤ 2000
  ps : ∀ b ∈ l, propsErr b.ps = 0
  nodup : ∀ b ∈ l, b.kids.Nodup

theorem blkErrs_zero {i : Nat} {p : Int} {b : BK} (h : blkErrs i p b = 0) : textErr b.txt = 0 ∧ propsErr b.ps = 0 := by
  unfold blkErrs at h
  split at h
  · omega
  · split at h
    · omega
    · split at h
      · omega
      · split at h
        · rename_i h9
          exact absurd h h9
        · rename_i h9
          split at h
          · omega
          · exact ⟨Classical.not_not.1 h9, h⟩

theorem right_of {l : List BK} (h : baseErr l = 0) : Right l := by
  unfold baseErr at h
  by_cases h1 : l.length = 0
  · rw [if_pos h1] at h; omega
  rw [if_neg h1] at h
  by_cases h2 : 2000 < l.length
  · rw [if_pos h2] at h; omega
  rw [if_neg h2] at h
  by_cases h3 : firstErr (blkErr l) l.length ≠ 0
  · rw [if_pos h3] at h; exact absurd h h3
  rw [if_neg h3] at h
  by_cases h4 : kidsErr l ≠ 0
  · rw [if_pos h4] at h; exact absurd h h4
  rw [if_neg h4] at h
  have h3 := Classical.not_not.1 h3
  have h4 := Classical.not_not.1 h4
  have hz := firstErr_all h3
  have G := good_of h3 h4
  have hd := firstErr_all h
  have hpos : 0 < l.length := by omega
  have hb : ∀ b ∈ l, textErr b.txt = 0 ∧ propsErr b.ps = 0 := fun b hb => by
    obtain ⟨j, hj, rfl⟩ := List.getElem_of_mem hb
    have := hz j hj
    rw [blkErr_at hj] at this
    exact blkErrs_zero this
  refine ⟨G, by omega, hpos, kids_500 hz, fun k d hk => ?_, fun b hb => ?_, fun b hx => ?_, fun b hx => (hb b hx).2, fun b hx => ?_⟩
  · obtain ⟨n, hn, rfl⟩ := hk.at G hpos
    have h5 := hd n hn
    unfold depErr at h5
    rw [idAt_get hn, depErrs_some G hk] at h5
    split at h5
    · omega
    · omega
  · obtain ⟨j, hj, rfl⟩ := List.getElem_of_mem hb
    have h5 := hd j hj
    unfold depErr at h5
    rw [idAt_get hj] at h5
    refine Classical.byContradiction fun hne => ?_
    rw [depErrs_none (fun d hd => hne ⟨d, hd⟩)] at h5
    omega
  · have := (hb b hx).1
    unfold textErr at this
    split at this
    · omega
    · omega
  · obtain ⟨j, hj, rfl⟩ := List.getElem_of_mem hx
    have h5 := firstErr_all h4 j hj
    rw [kidsAt_at hj] at h5
    have h6 := firstErr_all h5
    rw [List.Nodup, List.pairwise_iff_getElem]
    intro a b ha hb' hab e
    have h7 := h6 b hb'
    rw [kidErr_at hb'] at h7
    unfold kidErrs at h7
    cases hx : ixOf l l[j].kids[b] with
    | none => rw [hx] at h7; simp at h7
    | some n =>
      rw [hx] at h7
      simp only at h7
      split at h7
      · omega
      · rw [if_pos (List.mem_iff_getElem.2 ⟨a, by rw [List.length_take]; omega, by rw [List.getElem_take]; exact e⟩)] at h7
        omega

theorem Right.bad {l : List BK} (R : Right l) : ∀ b ∈ l, ∀ k ∈ b.kids, 1 ≤ k ∧ k ≤ 1000000 := fun b hb k hk => by
  obtain ⟨n, hn, h0, rfl, -⟩ := R.good.kid b hb k hk
  exact R.good.ids.pos n h0 hn

/-! ### What lies below what -/
inductive Bel (l : List BK) (k : Int) : Int → Prop
  | refl : Bel l k k
  | kid {b : BK} {x : Int} : b ∈ l → Bel l k b.id → x ∈ b.kids → Bel l k x

theorem Bel.trans {l : List BK} {a b c : Int} (h1 : Bel l a b) (h2 : Bel l b c) : Bel l a c := by
  induction h2 with
  | refl => exact h1
  | kid hb _ hx ih => exact .kid hb ih hx

theorem Bel.head {l : List BK} (G : Good l) {k x : Int} {n : Nat} (hn : n < l.length) (hk : l[n].id = k) : Bel l k x ↔ x = k ∨ ∃ y ∈ l[n].kids, Bel l y x := by
  constructor
  · intro h
    induction h with
    | refl => exact .inl rfl
    | @kid b x hb _ hx ih =>
      rcases ih with e | ⟨y, hy, h⟩
      · obtain ⟨i, hi, rfl⟩ := List.getElem_of_mem hb
        obtain rfl := G.ids.inj hi hn (e.trans hk.symm)
        exact .inr ⟨x, hx, .refl⟩
      · exact .inr ⟨y, hy, .kid hb h hx⟩
  · rintro (rfl | ⟨y, hy, h⟩)
    · exact .refl
    · exact Bel.trans (.kid (List.getElem_mem hn) (by rw [hk]; exact .refl) hy) h

theorem Bel.zero {l : List BK} (G : Good l) {k : Int} (h : Bel l k 0) : k = 0 := by
  generalize hx : (0 : Int) = x at h
  cases h with
  | refl => rfl
  | kid hb _ hk => exact absurd hx.symm (G.not_zero hb hk)

/-- The pages. -/
def pgs (l : List BK) : List Int := (l[0]?.map (·.kids)).getD []

theorem pgs_eq {l : List BK} (h : 0 < l.length) : pgs l = l[0].kids := by
  unfold pgs
  rw [List.getElem?_eq_getElem h]
  rfl

theorem Right.pgs_mem {l : List BK} (R : Right l) {k : Int} (hk : k ∈ pgs l) : ∃ n, ∃ h : n < l.length, 0 < n ∧ l[n].id = k ∧ l[n].par = 0 := by
  rw [pgs_eq R.pos] at hk
  obtain ⟨n, hn, h0, h1, h2⟩ := R.good.kid _ (List.getElem_mem R.pos) k hk
  exact ⟨n, hn, h0, h1, by rw [h2]; exact R.good.ids.zero R.pos⟩

theorem Right.pgs_pos {l : List BK} (R : Right l) {k : Int} (hk : k ∈ pgs l) : 1 ≤ k ∧ k ≤ 1000000 := by
  rw [pgs_eq R.pos] at hk
  exact R.bad _ (List.getElem_mem R.pos) k hk

theorem Right.pgs_len {l : List BK} (R : Right l) : (pgs l).length ≤ 500 := by
  rw [pgs_eq R.pos]
  exact R.kids _ (List.getElem_mem R.pos)

theorem Right.pgs_nodup {l : List BK} (R : Right l) : (pgs l).Nodup := by
  rw [pgs_eq R.pos]
  exact R.nodup _ (List.getElem_mem R.pos)

/-- No page lies below another one. -/
theorem Bel.page {l : List BK} (R : Right l) {p q : Int} (hp : p ∈ pgs l) (hq : q ∈ pgs l) (h : Bel l p q) : p = q := by
  cases h with
  | refl => rfl
  | @kid b _ hb hbel hk =>
    obtain ⟨n, hn, h0, hid, hpar⟩ := R.pgs_mem hq
    obtain ⟨n', hn', -, hid', hpar'⟩ := R.good.kid b hb q hk
    obtain rfl := R.good.ids.inj hn hn' (hid.trans hid'.symm)
    rw [← hpar', hpar] at hbel
    have := Bel.zero R.good hbel
    have := R.pgs_pos hp
    omega

/-- A block lies below one page alone. -/
theorem Bel.uniq {l : List BK} (R : Right l) {p q x : Int} (hp : p ∈ pgs l) (hq : q ∈ pgs l) (h : Bel l p x) (h' : Bel l q x) : p = q := by
  induction h with
  | refl => exact (Bel.page R hq hp h').symm
  | @kid b x hb hbel hk ih =>
    cases h' with
    | refl => exact Bel.page R hp hq (.kid hb hbel hk)
    | @kid b' _ hb' hbel' hk' =>
      obtain ⟨n, hn, -, hid, hpar⟩ := R.good.kid b hb x hk
      obtain ⟨n', hn', -, hid', hpar'⟩ := R.good.kid b' hb' x hk'
      obtain rfl := R.good.ids.inj hn hn' (hid.trans hid'.symm)
      rw [← hpar', hpar] at hbel'
      exact ih hbel'

/-! ### Marks -/
/-- All from a block on down bear a page. -/
def MkP (l : List BK) (k : Int) (p : Nat) (f f' : Int → Option Nat) : Prop := ∀ x, (Bel l k x → f' x = some p) ∧ (¬ Bel l k x → f' x = f x)

/-- The block, and all from some of its kids on down. -/
def MkJ (l : List BK) (k : Int) (ks : List Int) (p : Nat) (f f' : Int → Option Nat) : Prop := ∀ x, ((x = k ∨ ∃ y ∈ ks, Bel l y x) → f' x = some p) ∧ (¬ (x = k ∨ ∃ y ∈ ks, Bel l y x) → f' x = f x)

theorem mkJ_start (l : List BK) (k : Int) (p : Nat) (f : Int → Option Nat) : MkJ l k [] p f (updF f k p) := by
  refine fun x => ⟨?_, fun h => updF_other f p fun e => h (.inl e)⟩
  rintro (rfl | ⟨y, hy, -⟩)
  · exact updF_same _ _ _
  · cases hy

theorem mkJ_step {l : List BK} {k y : Int} {ks : List Int} {p : Nat} {f f1 f2 : Int → Option Nat} (h1 : MkJ l k ks p f f1) (h2 : MkP l y p f1 f2) : MkJ l k (ks ++ [y]) p f f2 := by
  refine fun x => ⟨fun h => ?_, fun h => ?_⟩
  · by_cases hb : Bel l y x
    · exact (h2 x).1 hb
    · rw [(h2 x).2 hb]
      refine (h1 x).1 ?_
      rcases h with h | ⟨z, hz, hzx⟩
      · exact .inl h
      · rcases List.mem_append.1 hz with hz | hz
        · exact .inr ⟨z, hz, hzx⟩
        · rw [List.mem_singleton.1 hz] at hzx
          exact absurd hzx hb
  · have hb : ¬ Bel l y x := fun hb => h (.inr ⟨y, by simp, hb⟩)
    rw [(h2 x).2 hb]
    refine (h1 x).2 fun h9 => h ?_
    rcases h9 with h9 | ⟨z, hz, hzx⟩
    · exact .inl h9
    · exact .inr ⟨z, List.mem_append.2 (.inl hz), hzx⟩

theorem mkJ_end {l : List BK} (G : Good l) {k : Int} {n : Nat} (hn : n < l.length) (hk : l[n].id = k) {p : Nat} {f f' : Int → Option Nat} (h : MkJ l k l[n].kids p f f') : MkP l k p f f' := fun x =>
  ⟨fun hb => (h x).1 ((Bel.head G hn hk).1 hb), fun hb => (h x).2 fun e => hb ((Bel.head G hn hk).2 e)⟩

/-- The marks behind some of the pages. -/
structure PgJ (l : List BK) (ks : List Int) (f : Int → Option Nat) : Prop where
  yes : ∀ p ∈ ks, ∀ x, Bel l p x → f x = some p.toNat
  no : ∀ x, (∀ p ∈ ks, ¬ Bel l p x) → f x = none

theorem pgJ_start (l : List BK) : PgJ l [] (fun _ => none) := ⟨fun p hp => (by cases hp), fun _ _ => rfl⟩

theorem PgJ.step {l : List BK} (R : Right l) {ks : List Int} {q : Int} {f f' : Int → Option Nat} (hks : ∀ p ∈ ks, p ∈ pgs l) (hq : q ∈ pgs l) (h : PgJ l ks f) (hm : MkP l q q.toNat f f') : PgJ l (ks ++ [q]) f' := by
  refine ⟨fun p hp x hx => ?_, fun x hx => ?_⟩
  · by_cases hb : Bel l q x
    · rw [(hm x).1 hb]
      have hp' : p ∈ pgs l := by
        rcases List.mem_append.1 hp with hp | hp
        · exact hks p hp
        · rw [List.mem_singleton.1 hp]; exact hq
      rw [Bel.uniq R hp' hq hx hb]
    · rw [(hm x).2 hb]
      rcases List.mem_append.1 hp with hp | hp
      · exact h.yes p hp x hx
      · rw [List.mem_singleton.1 hp] at hx
        exact absurd hx hb
  · rw [(hm x).2 (hx q (by simp))]
    exact h.no x fun p hp => hx p (List.mem_append.2 (.inl hp))

/-- Is a number that of a page? -/
def isPg (l : List BK) (k : Int) : Bool := decide (k ∈ pgs l)

theorem PgJ.isPage {l : List BK} (R : Right l) {f : Int → Option Nat} (h : PgJ l (pgs l) f) (k : Int) : (k ≠ 0 ∧ (((f k).getD 0 : Nat) : Int) = k) ↔ k ∈ pgs l := by
  constructor
  · rintro ⟨h0, h1⟩
    refine Classical.byContradiction fun hn => ?_
    by_cases hx : ∃ p ∈ pgs l, Bel l p k
    · obtain ⟨p, hp, hb⟩ := hx
      rw [h.yes p hp k hb] at h1
      have := R.pgs_pos hp
      have e : p = k := by simp only [Option.getD_some] at h1; omega
      rw [e] at hp
      exact hn hp
    · rw [h.no k fun p hp hb => hx ⟨p, hp, hb⟩] at h1
      simp only [Option.getD_none] at h1
      omega
  · intro hk
    have := R.pgs_pos hk
    refine ⟨by omega, ?_⟩
    rw [h.yes k hk k .refl]
    simp only [Option.getD_some]
    omega

/-! ### Where blocks are -/
/-- The places of the first j blocks. -/
def ixTo (l : List BK) (j : Nat) (x : Int) : Option Nat := (ixOf l x).filter (fun n => decide (n < j))

theorem ixTo_zero (l : List BK) : ixTo l 0 = fun _ => none := by
  funext x
  unfold ixTo
  cases ixOf l x <;> simp [Option.filter]

theorem ixTo_all (l : List BK) : ixTo l l.length = ixOf l := by
  funext x
  unfold ixTo
  cases h : ixOf l x with
  | none => rfl
  | some n => simp [Option.filter, (ixOf_some h).1]

theorem ixTo_succ {l : List BK} (I : Ids l) {j : Nat} (hj : j < l.length) : updF (ixTo l j) l[j].id j = ixTo l (j + 1) := by
  funext x
  by_cases e : x = l[j].id
  · subst e
    rw [updF_same]
    unfold ixTo
    rw [I.ix hj]
    simp [Option.filter]
  · rw [updF_other _ _ e]
    unfold ixTo
    cases h : ixOf l x with
    | none => rfl
    | some n =>
      obtain ⟨hn, hid⟩ := ixOf_some h
      have hne : n ≠ j := fun e2 => by
        subst e2
        rw [idAt_get hn] at hid
        exact e hid.symm
      by_cases h1 : n < j
      · simp [Option.filter, h1, show n < j + 1 by omega]
      · simp [Option.filter, h1, show ¬ n < j + 1 by omega]

end Go.Proofs.YtioppoaijehicaaGreatDoor
/-
  PLAIN: what a page is called: its title and its aliases; to which page a title leads.
-/
namespace Go.Proofs.YtioppoaijehicaaGreatDoor
open Go.RowKit Go.Lib

/-! ### Right values -/
theorem selfErr_zero {v : V} (h : v.selfErr = 0) : (v.k = 3 → v.l = []) ∧ v.s.size ≤ 2000 ∧ v.l.length ≤ 20 := by
  rcases V.self_cases v with ⟨_, e⟩ | ⟨_, ⟨_, e⟩ | ⟨hf, ⟨hn, e⟩ | ⟨_, ⟨ht, e⟩ | ⟨ht, ⟨_, e⟩ | ⟨h20, _⟩⟩⟩⟩⟩
  · omega
  · omega
  · rw [e] at h; exact absurd h hn
  · rw [e] at h; exact absurd h ht
  · omega
  · refine ⟨fun hk => ?_, ?_, h20⟩
    · unfold V.formOk formB at hf
      simp only [Bool.and_eq_true, Bool.or_eq_true, decide_eq_true_eq] at hf
      exact List.length_eq_zero_iff.1 (by omega)
    · unfold V.textErr at ht
      split at ht
      · omega
      · omega

theorem itemsErr_zero {l : List V} (h : itemsErr l = 0) : ∀ x ∈ l, itemErr x = 0 := by
  unfold itemsErr at h
  cases hf : l.find? (fun x => itemErr x != 0) with
  | none =>
    intro x hx
    have := List.find?_eq_none.1 hf x hx
    simpa using this
  | some y =>
    rw [hf] at h
    have := List.find?_some hf
    simp [h] at this

theorem valErr_zero {v : V} (h : v.err = 0) : (v.k = 3 → v.l = []) ∧ v.s.size ≤ 2000 ∧ v.l.length ≤ 20 ∧ ∀ x ∈ v.l, x.s.size ≤ 2000 := by
  unfold V.err at h
  by_cases h1 : v.selfErr ≠ 0
  · rw [if_pos h1] at h; exact absurd h h1
  · rw [if_neg h1] at h
    obtain ⟨a, b, c⟩ := selfErr_zero (Classical.not_not.1 h1)
    refine ⟨a, b, c, fun x hx => ?_⟩
    have h2 := itemsErr_zero h x hx
    unfold itemErr at h2
    split at h2
    · omega
    · exact (selfErr_zero h2).2.1

theorem propsErr_val {ps : List PR} (h : propsErr ps = 0) : ∀ p ∈ ps, p.v.err = 0 := by
  intro p hp
  obtain ⟨j, hj, rfl⟩ := List.getElem_of_mem hp
  unfold propsErr at h
  split at h
  · omega
  · have h1 := firstErr_all h j hj
    unfold propErrAt at h1
    rw [List.getElem?_eq_getElem hj] at h1
    simp only at h1
    split at h1
    · omega
    · split at h1
      · omega
      · split at h1
        · omega
        · split at h1
          · omega
          · exact h1

/-! ### Aliases -/
def aliasS : ByteArray := ⟨#[97, 108, 105, 97, 115]⟩

def isAl (p : PR) : Bool := p.n.toList == aliasS.toList

/-- The texts among values. -/
def strVs (vs : List V) : List ByteArray := (vs.filter (fun v => v.k == 3)).map V.s

/-- .. of properties of that name: the program's way. -/
def alsA (ps : List PR) : List ByteArray := ps.flatMap fun p => if isAl p then strVs (p.v :: p.v.l) else []

/-- .. of the first such property: the reference's way. -/
def alsV (v : V) : List ByteArray := strVs (if v.k == 3 then [v] else v.l)

def alsB (ps : List PR) : List ByteArray := match firstIdx (prIs ps aliasS) ps.length with
  | none => []
  | some k => alsV ((ps[k]?.map PR.v).getD (.mk 0 0 0 .empty []))

theorem strVs_cons (v : V) (vs : List V) : strVs (v :: vs) = (if v.k == 3 then [v.s] else []) ++ strVs vs := by
  unfold strVs
  rw [List.filter_cons]
  split <;> rfl

theorem alsV_same {v : V} (h : v.err = 0) : strVs (v :: v.l) = alsV v := by
  obtain ⟨h1, -⟩ := valErr_zero h
  unfold alsV
  by_cases hk : v.k = 3
  · rw [h1 hk, if_pos (by simpa using hk)]
  · rw [if_neg (by simpa using hk), strVs_cons, if_neg (by simpa using hk)]
    rfl

theorem flatMap_none {α β : Type} {f : α → List β} : ∀ {l : List α}, (∀ x ∈ l, f x = []) → l.flatMap f = []
  | [], _ => rfl
  | x :: l, h => by
    rw [List.flatMap_cons, h x (by simp), flatMap_none (fun y hy => h y (by simp [hy]))]
    rfl

theorem als_same {ps : List PR} (h : propsErr ps = 0) : alsB ps = alsA ps := by
  have hn := (namedP_of h).1
  unfold alsB
  cases hf : firstIdx (prIs ps aliasS) ps.length with
  | none =>
    symm
    refine flatMap_none fun p hp => ?_
    obtain ⟨j, hj, rfl⟩ := List.getElem_of_mem hp
    rw [if_neg]
    intro e
    have hp : prIs ps aliasS j = true := by rw [prIs_at hj]; exact e
    have hex : ∃ k, firstIdx (prIs ps aliasS) ps.length = some k := by
      refine Classical.byContradiction fun hne => ?_
      have hall : ∀ i, i < ps.length → prIs ps aliasS i = false := by
        intro i
        induction i using Nat.strongRecOn with
        | ind i ih =>
          intro hi
          cases hv : prIs ps aliasS i with
          | false => rfl
          | true => exact absurd ⟨i, firstIdx_some (fun a ha => ih a ha (by omega)) hv hi⟩ hne
      rw [hall j hj] at hp
      cases hp
    obtain ⟨k, hk⟩ := hex
    rw [hf] at hk
    cases hk
  | some k =>
    obtain ⟨hk, hkv⟩ := firstIdx_lt hf
    rw [prIs_at hk] at hkv
    have hkv2 := eq_of_beq hkv
    have hsplit : ps.take k ++ ps[k] :: ps.drop (k + 1) = ps := by rw [← List.drop_eq_getElem_cons hk, List.take_append_drop]
    have hoth : ∀ j (hj : j < ps.length), j ≠ k → isAl ps[j] = false := by
      intro j hj hjk
      cases hv : isAl ps[j] with
      | false => rfl
      | true =>
        have h1 := eq_of_beq (show (ps[j].n.toList == aliasS.toList) = true from hv)
        have h2 : ps[j].n = ps[k].n := byteArray_ext (by rw [← toList_data, ← toList_data, h1, hkv2])
        rcases Nat.lt_or_gt_of_ne hjk with g | g
        · exact absurd h2 (List.pairwise_iff_getElem.1 hn j k hj hk g)
        · exact absurd h2.symm (List.pairwise_iff_getElem.1 hn k j hk hj g)
    have hl : alsA ps = strVs (ps[k].v :: ps[k].v.l) := by
      have e9 := congrArg (fun q : List PR => q.flatMap fun p => if isAl p then strVs (p.v :: p.v.l) else []) hsplit
      unfold alsA
      rw [← e9]
      show (ps.take k ++ ps[k] :: ps.drop (k + 1)).flatMap _ = _
      rw [List.flatMap_append, List.flatMap_cons, flatMap_none (fun p hp => ?_), flatMap_none (fun p hp => ?_)]
      · rw [if_pos (show isAl ps[k] = true from hkv)]
        simp
      · obtain ⟨i, hi, rfl⟩ := List.getElem_of_mem hp
        rw [List.length_drop] at hi
        rw [List.getElem_drop, hoth _ (by omega) (by omega)]
        rfl
      · obtain ⟨i, hi, rfl⟩ := List.getElem_of_mem hp
        rw [List.length_take] at hi
        rw [List.getElem_take, hoth _ (by omega) (by omega)]
        rfl
    rw [hl, alsV_same (propsErr_val h _ (List.getElem_mem hk))]
    simp only [List.getElem?_eq_getElem hk]
    rfl

theorem strVs_len (vs : List V) : (strVs vs).length ≤ vs.length := by
  unfold strVs
  rw [List.length_map]
  exact List.length_filter_le _ _

theorem strVs_mem {vs : List V} {a : ByteArray} (h : a ∈ strVs vs) : ∃ v ∈ vs, v.s = a := by
  unfold strVs at h
  obtain ⟨v, hv, rfl⟩ := List.mem_map.1 h
  exact ⟨v, (List.mem_filter.1 hv).1, rfl⟩

theorem als_small {ps : List PR} (h : propsErr ps = 0) : (alsA ps).length ≤ 20 ∧ ∀ a ∈ alsA ps, a.size ≤ 2000 := by
  rw [← als_same h]
  unfold alsB
  cases hf : firstIdx (prIs ps aliasS) ps.length with
  | none => exact ⟨Nat.zero_le _, fun a ha => by cases ha⟩
  | some k =>
    obtain ⟨hk, -⟩ := firstIdx_lt hf
    simp only [List.getElem?_eq_getElem hk]
    show (alsV ps[k].v).length ≤ 20 ∧ ∀ a ∈ alsV ps[k].v, a.size ≤ 2000
    obtain ⟨h1, h2, h3, h4⟩ := valErr_zero (propsErr_val h _ (List.getElem_mem hk))
    unfold alsV
    split
    · refine ⟨Nat.le_trans (strVs_len _) (by simp), fun a ha => ?_⟩
      obtain ⟨v, hv, rfl⟩ := strVs_mem ha
      rw [List.mem_singleton.1 hv]; exact h2
    · refine ⟨Nat.le_trans (strVs_len _) h3, fun a ha => ?_⟩
      obtain ⟨v, hv, rfl⟩ := strVs_mem ha
      exact h4 v hv

/-! ### Blocks by their numbers -/
def bk0 : BK := ⟨0, 0, [], .empty, []⟩

def bkOf (l : List BK) (k : Int) : BK := match ixOf l k with
  | some n => l[n]?.getD bk0
  | none => bk0

theorem bkOf_at {l : List BK} (I : Ids l) {n : Nat} (hn : n < l.length) : bkOf l l[n].id = l[n] := by
  unfold bkOf
  rw [I.ix hn]
  show l[n]?.getD bk0 = _
  rw [List.getElem?_eq_getElem hn]
  rfl

def txtL (l : List BK) (k : Int) : List UInt8 := (bkOf l k).txt.data.toList

def alOf (l : List BK) (k : Int) : List ByteArray := alsA (bkOf l k).ps

def foldA (a : ByteArray) : List UInt8 := foldL a.data.toList

/-! ### A table that keeps the first -/
def updS (f : List UInt8 → Option Nat) (k : List UInt8) (d : Nat) : List UInt8 → Option Nat := fun x => if x = k then some d else f x

theorem updS_same (f : List UInt8 → Option Nat) (k : List UInt8) (d : Nat) : updS f k d k = some d := by simp [updS]

theorem updS_other (f : List UInt8 → Option Nat) {k x : List UInt8} (d : Nat) (h : x ≠ k) : updS f k d x = f x := by simp [updS, h]

def kpF (L : List (List UInt8 × Nat)) (s : List UInt8) : Option Nat := (L.find? (fun q => q.1 == s)).map (·.2)

theorem kpF_nil : kpF [] = fun _ => none := rfl

theorem kpF_has {L : List (List UInt8 × Nat)} {a : List UInt8} {d : Nat} (h : (kpF L a).isSome = true) : kpF (L ++ [(a, d)]) = kpF L := by
  funext s
  unfold kpF at h ⊢
  rw [List.find?_append]
  cases hs : L.find? (fun q => q.1 == s) with
  | some q => rfl
  | none =>
    by_cases e : a = s
    · subst e
      rw [hs] at h
      cases h
    · rw [Option.none_or, List.find?_cons_of_neg (by simpa using e)]
      rfl

theorem kpF_new {L : List (List UInt8 × Nat)} {a : List UInt8} {d : Nat} (h : (kpF L a).isSome = false) : kpF (L ++ [(a, d)]) = updS (kpF L) a d := by
  funext s
  by_cases e : s = a
  · subst e
    rw [updS_same]
    unfold kpF at h ⊢
    rw [List.find?_append]
    cases hs : L.find? (fun q => q.1 == s) with
    | some q => rw [hs] at h; cases h
    | none => rw [Option.none_or, List.find?_cons_of_pos (by simp)]; rfl
  · rw [updS_other _ _ e]
    unfold kpF
    rw [List.find?_append, List.find?_cons_of_neg (by simpa using fun e2 => e e2.symm)]
    cases L.find? (fun q => q.1 == s) <;> rfl

/-! ### To which page a title leads -/
def tPairs (l : List BK) (S : List Int) : List (List UInt8 × Nat) := S.map fun p => (foldL (txtL l p), p.toNat)

def aPairs (l : List BK) (S : List Int) : List (List UInt8 × Nat) := S.flatMap fun p => (alOf l p).map fun a => (foldA a, p.toNat)

def isTtl (l : List BK) (f : List UInt8) (p : Int) : Bool := foldL (txtL l p) == f

def isAls (l : List BK) (f : List UInt8) (p : Int) : Bool := (alOf l p).any fun a => foldA a == f

def leadL (l : List BK) (f : List UInt8) : Int := match (sortZ (pgs l)).find? (isTtl l f) with
  | some p => p
  | none => ((sortZ (pgs l)).find? (isAls l f)).getD 0

theorem kpF_t (l : List BK) (S : List Int) (f : List UInt8) : kpF (tPairs l S) f = (S.find? (isTtl l f)).map Int.toNat := by
  unfold kpF tPairs
  rw [List.find?_map, Option.map_map]
  rfl

theorem kpF_a (l : List BK) (f : List UInt8) : ∀ S : List Int, kpF (aPairs l S) f = (S.find? (isAls l f)).map Int.toNat
  | [] => rfl
  | p :: S => by
    have ih := kpF_a l f S
    unfold kpF aPairs at ih ⊢
    rw [List.flatMap_cons, List.find?_append]
    cases hp : isAls l f p with
    | true =>
      rw [List.find?_cons_of_pos hp]
      unfold isAls at hp
      obtain ⟨a, ha, hf⟩ := List.any_eq_true.1 hp
      cases hx : ((alOf l p).map fun a => (foldA a, p.toNat)).find? (fun q => q.1 == f) with
      | none =>
        have := List.find?_eq_none.1 hx (foldA a, p.toNat) (List.mem_map.2 ⟨a, ha, rfl⟩)
        exact absurd hf this
      | some q =>
        obtain ⟨b, -, rfl⟩ := List.mem_map.1 (List.mem_of_find?_eq_some hx)
        rfl
    | false =>
      rw [List.find?_cons_of_neg (by rw [hp]; decide), ← ih]
      have hx : ((alOf l p).map fun a => (foldA a, p.toNat)).find? (fun q => q.1 == f) = none := by
        rw [List.find?_eq_none]
        intro q hq
        obtain ⟨a, ha, rfl⟩ := List.mem_map.1 hq
        unfold isAls at hp
        have := List.any_eq_false.1 hp a ha
        exact this
      rw [hx]
      rfl

theorem Right.sorted_pos {l : List BK} (R : Right l) {p : Int} (h : p ∈ sortZ (pgs l)) : 1 ≤ p ∧ p ≤ 1000000 := R.pgs_pos (sortZ_mem.1 h)

theorem find_mem {l : List BK} (R : Right l) {q : Int → Bool} {p : Int} (h : (sortZ (pgs l)).find? q = some p) : ((p.toNat : Nat) : Int) = p ∧ 1 ≤ p := by
  have := R.sorted_pos (List.mem_of_find?_eq_some h)
  omega

theorem lead_title {l : List BK} (R : Right l) {f : List UInt8} {d : Nat} (h : kpF (tPairs l (sortZ (pgs l))) f = some d) : (d : Int) = leadL l f := by
  rw [kpF_t] at h
  unfold leadL
  cases hx : (sortZ (pgs l)).find? (isTtl l f) with
  | none => rw [hx] at h; cases h
  | some p =>
    rw [hx] at h
    obtain rfl := Option.some.inj h
    exact (find_mem R hx).1

theorem lead_alias {l : List BK} (R : Right l) {f : List UInt8} (h : kpF (tPairs l (sortZ (pgs l))) f = none) : (((kpF (aPairs l (sortZ (pgs l))) f).getD 0 : Nat) : Int) = leadL l f := by
  rw [kpF_t] at h
  unfold leadL
  cases hx : (sortZ (pgs l)).find? (isTtl l f) with
  | some p => rw [hx] at h; cases h
  | none =>
    rw [kpF_a]
    cases hy : (sortZ (pgs l)).find? (isAls l f) with
    | none => rfl
    | some p => exact (find_mem R hy).1

/-! ### Names, each once -/
def ddN : List (List UInt8) → List ByteArray → List ByteArray
  | _, [] => []
  | seen, s :: t => if foldA s ∈ seen then ddN seen t else s :: ddN (foldA s :: seen) t

def namesOf (l : List BK) (p : Int) : List ByteArray := ddN [] ((bkOf l p).txt :: alOf l p)

/-- The names so far, and what is still to be looked at. -/
def NmJ (L : List ByteArray) (j : Nat) (out : List ByteArray) (seen : List (List UInt8)) : Prop := out ++ ddN seen (L.drop j) = ddN [] L ∧ out.length ≤ j ∧ seen.length ≤ j

theorem nmJ_start (L : List ByteArray) : NmJ L 0 [] [] := ⟨rfl, Nat.le_refl _, Nat.le_refl _⟩

theorem NmJ.skip {L : List ByteArray} {j : Nat} {out : List ByteArray} {seen : List (List UInt8)} (h : NmJ L j out seen) (hj : j < L.length) (hs : foldA L[j] ∈ seen) : NmJ L (j + 1) out seen := by
  obtain ⟨h1, h2, h3⟩ := h
  rw [List.drop_eq_getElem_cons hj, ddN, if_pos hs] at h1
  exact ⟨h1, by omega, by omega⟩

theorem NmJ.take {L : List ByteArray} {j : Nat} {out : List ByteArray} {seen : List (List UInt8)} (h : NmJ L j out seen) (hj : j < L.length) (hs : foldA L[j] ∉ seen) : NmJ L (j + 1) (out ++ [L[j]]) (foldA L[j] :: seen) := by
  obtain ⟨h1, h2, h3⟩ := h
  rw [List.drop_eq_getElem_cons hj, ddN, if_neg hs] at h1
  exact ⟨by rw [List.append_assoc]; exact h1, by rw [List.length_append]; simp; omega, by rw [List.length_cons]; omega⟩

theorem NmJ.end_ {L : List ByteArray} {out : List ByteArray} {seen : List (List UInt8)} (h : NmJ L L.length out seen) : out = ddN [] L := by
  have := h.1
  rwa [List.drop_length, ddN, List.append_nil] at this

end Go.Proofs.YtioppoaijehicaaGreatDoor
