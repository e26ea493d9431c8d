/-
  PLAIN: three lists of properties that come together, name by name.
-/
import Derived.Test.YtdncmjlakmkfiaaGreatDoorPzp
import Derived.Test.YtdncmjlakmkfiaaGreatDoorVal
set_option linter.all false
namespace Go.Proofs.YtdncmjlakmkfiaaGreatDoor
open Go.RowKit Go.Lib

/-- The value of a name, or none. -/
def gv (l : List PR) (x : ByteArray) : V := match firstIdx (prIs l x) l.length with
  | some k => (l[k]?.map (·.v)).getD (.mk 0 0 0 ⟨#[]⟩ [])
  | none => .mk 0 0 0 ⟨#[]⟩ []

theorem gv_is {l : List PR} {x : ByteArray} {v : V} {b : Bool} (h : GetIs l x v b) : v = gv l x := by
  unfold gv
  rcases h with ⟨h, rfl, -⟩ | ⟨k, hk, h, rfl, -⟩
  · rw [h]
  · rw [h]
    simp only
    rw [List.getElem?_eq_getElem hk]
    rfl

theorem gv_mem (l : List PR) (x : ByteArray) : gv l x = .mk 0 0 0 ⟨#[]⟩ [] ∨ ∃ p ∈ l, gv l x = p.v := by
  unfold gv
  cases firstIdx (prIs l x) l.length with
  | none => exact .inl rfl
  | some k =>
    simp only
    by_cases hk : k < l.length
    · rw [List.getElem?_eq_getElem hk]
      exact .inr ⟨l[k], List.getElem_mem hk, rfl⟩
    · rw [List.getElem?_eq_none (by omega)]
      exact .inl rfl

/-- One name: what its values become. -/
def mgStep (B A C : List PR) (s : List PR × List ByteArray) (x : ByteArray) : List PR × List ByteArray :=
  (if (mValue (gv B x) (gv A x) (gv C x)).1.k ≠ 0 then s.1 ++ [⟨x, (mValue (gv B x) (gv A x) (gv C x)).1⟩] else s.1, if (mValue (gv B x) (gv A x) (gv C x)).2 = true then s.2 ++ [x] else s.2)

def mgAll (B A C : List PR) (nms : List ByteArray) : List PR × List ByteArray := nms.foldl (mgStep B A C) ([], [])

theorem mgAll_snoc (B A C : List PR) (nms : List ByteArray) (x : ByteArray) : mgAll B A C (nms ++ [x]) = mgStep B A C (mgAll B A C nms) x := by
  unfold mgAll
  rw [List.foldl_append]
  rfl

theorem mgAll_take (B A C : List PR) {nms : List ByteArray} {k : Nat} (h : k < nms.length) : mgAll B A C (nms.take (k + 1)) = mgStep B A C (mgAll B A C (nms.take k)) nms[k] := by
  rw [List.take_succ_eq_append_getElem h, mgAll_snoc]

theorem mgStep_names {B A C : List PR} {s : List PR × List ByteArray} {x : ByteArray} : (∀ p ∈ (mgStep B A C s x).1, p ∈ s.1 ∨ p.n = x) ∧ (mgStep B A C s x).1.length ≤ s.1.length + 1 ∧ (mgStep B A C s x).2.length ≤ s.2.length + 1 := by
  unfold mgStep
  refine ⟨fun p hp => ?_, ?_, ?_⟩
  · simp only at hp
    split at hp
    · rcases List.mem_append.1 hp with h | h
      · exact .inl h
      · rw [List.mem_singleton.1 h]; exact .inr rfl
    · exact .inl hp
  · simp only
    split <;> simp
  · simp only
    split <;> simp

theorem mgAll_names {B A C : List PR} : ∀ (k : Nat) (nms : List ByteArray), k ≤ nms.length → (∀ p ∈ (mgAll B A C (nms.take k)).1, p.n ∈ nms.take k) ∧ (mgAll B A C (nms.take k)).1.length ≤ k ∧ (mgAll B A C (nms.take k)).2.length ≤ k
  | 0, _, _ => ⟨fun p hp => by simp [mgAll] at hp, by simp [mgAll], by simp [mgAll]⟩
  | k + 1, nms, h => by
    obtain ⟨h1, h2, h3⟩ := mgAll_names (B := B) (A := A) (C := C) k nms (by omega)
    rw [mgAll_take B A C (by omega)]
    obtain ⟨g1, g2, g3⟩ := mgStep_names (B := B) (A := A) (C := C) (s := mgAll B A C (nms.take k)) (x := nms[k])
    refine ⟨fun p hp => ?_, by omega, by omega⟩
    rw [List.take_succ_eq_append_getElem (by omega), List.mem_append]
    rcases g1 p hp with h | h
    · exact .inl (h1 p h)
    · exact .inr (by rw [h]; simp)

/-- Names rise. -/
def Rise (l : List ByteArray) : Prop := l.Pairwise (fun a b => compareBytes a.data.toList b.data.toList < 0)

theorem rise_ne {l : List ByteArray} (h : Rise l) {k : Nat} (hk : k < l.length) : ∀ x ∈ l.take k, x ≠ l[k] ∧ compareBytes x.data.toList l[k].data.toList < 0 := by
  intro x hx
  obtain ⟨j, hj, rfl⟩ := List.getElem_of_mem hx
  rw [List.length_take] at hj
  rw [List.getElem_take]
  have := (List.pairwise_iff_getElem.1 h) j k (by omega) hk (by omega)
  refine ⟨fun e => ?_, this⟩
  rw [e] at this
  have h0 : compareBytes l[k].data.toList l[k].data.toList = 0 := by have := cmpB_swap l[k].data.toList l[k].data.toList; omega
  omega

/-- Two lists of rising names with the same members are one. -/
theorem rise_same {l r : List ByteArray} (hl : Rise l) (hr : Rise r) (h : ∀ x, x ∈ l ↔ x ∈ r) : l = r := by
  have nd : ∀ {l : List ByteArray}, Rise l → l.Nodup := fun {l} h => h.imp fun {a b} hab e => by
    subst e
    have := cmpB_swap a.data.toList a.data.toList
    omega
  have hp : l.Perm r := (List.perm_ext_iff_of_nodup (nd hl) (nd hr)).2 h
  refine List.Perm.eq_of_pairwise (le := fun a b : ByteArray => compareBytes a.data.toList b.data.toList < 0) (fun a b _ _ h1 h2 => ?_) hl hr hp
  have := cmpB_swap a.data.toList b.data.toList
  omega

/-- A value for a name behind all others. -/
theorem with_last {x : ByteArray} {v : V} {l r : List PR} (h : WithIs x v l r) (hn : Named l) (hx : ∀ p ∈ l, p.n ≠ x ∧ compareBytes (nameB p) x.data.toList < 0) (hs : l.Pairwise (fun p q => ¬ compareBytes (nameB q) (nameB p) < 0)) : r = if v.k ≠ 0 then l ++ [⟨x, v⟩] else l := by
  have ho : othersR x l = l := List.filter_eq_self.2 fun p hp => by
    have := (hx p hp).1
    simp only [Bool.not_eq_true', beq_eq_false_iff_ne, ne_eq]
    intro e
    exact this (byteArray_ext (by rw [← toList_data, ← toList_data, e]))
  refine WithIs.same hn h ?_
  by_cases hk : v.k = 0
  · rw [if_neg (by simpa using hk)]
    exact .inl ⟨hk, ho.symm⟩
  · rw [if_pos hk]
    refine .inr ⟨hk, by rw [ho], ?_⟩
    rw [List.pairwise_append]
    refine ⟨hs, List.pairwise_singleton .., fun a ha b hb => ?_⟩
    rw [List.mem_singleton.1 hb]
    have h1 := (hx a ha).2
    have h2 := cmpB_swap (nameB a) x.data.toList
    show ¬ compareBytes x.data.toList (nameB a) < 0
    omega

/-- What coming together hands out. -/
def mgErr (B A C : List PR) : Int := if propsErr B ≠ 0 then propsErr B else if propsErr A ≠ 0 then propsErr A else propsErr C

def mgOut (B A C : List PR) (nms : List ByteArray) : List PR × List ByteArray × Int :=
  if mgErr B A C ≠ 0 then ([], [], mgErr B A C) else if 20 < (mgAll B A C nms).1.length then ([], [], 4) else ((mgAll B A C nms).1, (mgAll B A C nms).2, 0)

end Go.Proofs.YtdncmjlakmkfiaaGreatDoor
/-
  PLAIN: the order of names as bytes and as the library sorts them; rising names out of a sorted list.
-/
namespace Go.Proofs.YtdncmjlakmkfiaaGreatDoor
open Go.RowKit Go.Lib

theorem cmpB_lt : ∀ a b : List UInt8, compareBytes a b < 0 ↔ a < b
  | [], [] => by simp [compareBytes]
  | [], _ :: _ => by simp [compareBytes]
  | _ :: _, [] => by simp [compareBytes]
  | x :: xs, y :: ys => by
    unfold compareBytes
    rw [List.cons_lt_cons_iff]
    by_cases h : x < y
    · simp [h]
    · by_cases h2 : y < x
      · have h3 : ¬ x = y := fun h3 => by subst h3; exact h h2
        simp [h, h2, h3]
      · have h3 : x = y := UInt8.le_antisymm (UInt8.not_lt.1 h2) (UInt8.not_lt.1 h)
        subst h3
        simp only [h, if_false, false_or, true_and]
        exact cmpB_lt xs ys

theorem cmpB_le {a b : List UInt8} : compareBytes a b ≤ 0 ↔ a ≤ b := by
  have h1 := cmpB_lt b a
  have h2 := cmpB_swap a b
  constructor
  · intro h
    exact List.not_lt.1 fun h3 => by have := h1.2 h3; omega
  · intro h
    refine Int.not_lt.1 fun h3 => ?_
    have h4 : compareBytes b a < 0 := by omega
    exact List.not_lt.2 h (h1.1 h4)

def bStr (l : List UInt8) : ByteArray := ⟨l.toArray⟩

theorem bStr_data (l : List UInt8) : (bStr l).data.toList = l := by simp [bStr]

theorem bStr_inj {a b : List UInt8} (h : bStr a = bStr b) : a = b := by rw [← bStr_data a, h, bStr_data]

/-- The names of a sorted list without double ones rise. -/
theorem rise_sorted {ss : List (List UInt8)} (hn : ss.Nodup) (hs : ss.Pairwise (fun x y => x ≤ y)) : Rise (ss.map bStr) := by
  unfold Rise
  rw [List.pairwise_map]
  refine (hs.and hn).imp fun {a b} h => ?_
  rw [bStr_data, bStr_data]
  have h1 := cmpB_le.2 h.1
  rcases Int.lt_or_eq_of_le h1 with h2 | h2
  · exact h2
  · exact absurd (cmpB_eq h2) h.2

theorem sorted_le (ss : List (List UInt8)) : (ss.mergeSort (fun x y => decide (x ≤ y))).Pairwise (fun x y => x ≤ y) := by
  have := List.pairwise_mergeSort (le := fun x y : List UInt8 => decide (x ≤ y)) (fun a b c h1 h2 => by
    simp only [decide_eq_true_eq] at *
    exact cmpB_le.1 (cmpB_trans a b c (cmpB_le.2 h1) (cmpB_le.2 h2))) (fun a b => by
    simp only [Bool.or_eq_true, decide_eq_true_eq]
    have h2 := cmpB_swap a b
    rcases Int.le_total (compareBytes a b) 0 with h | h
    · exact .inl (cmpB_le.1 h)
    · exact .inr (cmpB_le.1 (by omega))) ss
  exact this.imp fun {a b} h => by simpa using h

/-- Sorted names of a list without double ones: they rise, and are the same. -/
theorem rise_merge {ss : List (List UInt8)} (hn : ss.Nodup) : Rise ((ss.mergeSort (fun x y => decide (x ≤ y))).map bStr) ∧ ∀ x, x ∈ (ss.mergeSort (fun x y => decide (x ≤ y))).map bStr ↔ x.data.toList ∈ ss := by
  have hp := List.mergeSort_perm ss (fun x y => decide (x ≤ y))
  refine ⟨rise_sorted (hp.nodup_iff.2 hn) (sorted_le ss), fun x => ?_⟩
  rw [List.mem_map]
  constructor
  · rintro ⟨y, hy, rfl⟩
    rw [bStr_data]
    exact hp.mem_iff.1 hy
  · intro h
    refine ⟨x.data.toList, hp.mem_iff.2 h, ?_⟩
    simp [bStr]

def allNames (B A C : List PR) : List ByteArray := (B ++ (A ++ C)).map (·.n)

/-- A list's members, each once. -/
def nub : List (List UInt8) → List (List UInt8)
  | [] => []
  | x :: l => if x ∈ nub l then nub l else x :: nub l

theorem nub_mem : ∀ (l : List (List UInt8)) (x : List UInt8), x ∈ nub l ↔ x ∈ l
  | [], x => by simp [nub]
  | y :: l, x => by
    unfold nub
    have ih := nub_mem l
    split
    · rename_i h
      rw [ih x, List.mem_cons]
      exact ⟨.inr, fun h2 => h2.elim (fun e => by rw [e]; exact (ih y).1 h) id⟩
    · rw [List.mem_cons, List.mem_cons, ih x]

theorem nub_nodup : ∀ l : List (List UInt8), (nub l).Nodup
  | [] => List.nodup_nil
  | y :: l => by
    unfold nub
    split
    · exact nub_nodup l
    · rename_i h
      exact List.nodup_cons.2 ⟨h, nub_nodup l⟩

/-- All names, rising. -/
def canon (B A C : List PR) : List ByteArray := ((nub ((allNames B A C).map (·.data.toList))).mergeSort (fun x y => decide (x ≤ y))).map bStr

theorem data_inj {x y : ByteArray} (h : x.data.toList = y.data.toList) : x = y := by
  have e : ∀ z : ByteArray, bStr z.data.toList = z := fun z => by simp [bStr]
  rw [← e x, h, e]

theorem canon_is (B A C : List PR) : Rise (canon B A C) ∧ ∀ x, x ∈ canon B A C ↔ x ∈ allNames B A C := by
  obtain ⟨h1, h2⟩ := rise_merge (nub_nodup ((allNames B A C).map (·.data.toList)))
  refine ⟨h1, fun x => ?_⟩
  rw [show (x ∈ canon B A C ↔ _) from h2 x, nub_mem, List.mem_map]
  exact ⟨fun ⟨y, hy, e⟩ => by rw [← data_inj e]; exact hy, fun h => ⟨x, h, rfl⟩⟩

/-- What coming together hands out. -/
def mgRes (B A C : List PR) : List PR × List ByteArray × Int := mgOut B A C (canon B A C)

theorem mgRes_err {B A C : List PR} {e : Int} (h : mgErr B A C = e) (he : e ≠ 0) : mgRes B A C = ([], [], e) := by
  unfold mgRes mgOut
  rw [h, if_pos he]

theorem mgRes_is {B A C : List PR} {nms : List ByteArray} (h : mgErr B A C = 0) (hr : Rise nms) (hm : ∀ x, x ∈ nms ↔ x ∈ allNames B A C) : mgRes B A C = if 20 < (mgAll B A C nms).1.length then ([], [], 4) else ((mgAll B A C nms).1, (mgAll B A C nms).2, 0) := by
  obtain rfl : nms = canon B A C := rise_same hr (canon_is B A C).1 (fun x => by rw [hm x, (canon_is B A C).2 x])
  unfold mgRes mgOut
  rw [h, if_neg (by decide)]

def MgFin (R : List PR × List ByteArray × Int) (w : World) (e : Ending) (w' : World) : Prop :=
  ∃ (A1 A2 : Option Addr) (c1 c2 : Nat), e = .returned (.tuple #[.slice A1 R.1.length c1, .slice A2 R.2.1.length c2, .int .i64 R.2.2]) ∧ PsAt w' A1 R.1 ∧ SAt w' A2 R.2.1 ∧ Below w.heap.size w w'

theorem MgFin.none {w w' : World} {e : Int} {A1 A2 : Option Addr} {c1 c2 : Nat} (h : Below w.heap.size w w') : MgFin ([], [], e) w (.returned (.tuple #[.slice A1 0 c1, .slice A2 0 c2, .int .i64 e])) w' :=
  ⟨A1, A2, c1, c2, rfl, ⟨Nat.zero_le _, fun h => absurd h (by simp)⟩, ⟨Nat.zero_le _, fun h => absurd h (by simp)⟩, h⟩

end Go.Proofs.YtdncmjlakmkfiaaGreatDoor
/-
  PLAIN: values that are right have few items, which are leaves; so has what they become.
-/
namespace Go.Proofs.YtdncmjlakmkfiaaGreatDoor
open Go.RowKit Go.Lib

/-- At most twenty items, all leaves. -/
def Few (v : V) : Prop := v.l.length ≤ 20 ∧ ∀ x ∈ v.l, x.l = []

theorem Few.fits {v : V} (h : Few v) : v.fits := by
  rw [V.fits_iff]
  refine ⟨by have := h.1; omega, fun j hj => ?_⟩
  rw [V.fits_iff, h.2 _ (List.getElem_mem hj)]
  exact ⟨by simp, fun i hi => absurd hi (by simp)⟩

theorem few_none : Few (.mk 0 0 0 ⟨#[]⟩ []) := ⟨by simp [V.l], fun x hx => by simp [V.l] at hx⟩

theorem putAll_mem {c : V → Bool} {P : V → Prop} : ∀ (l out : List V), (∀ x ∈ out, P x) → (∀ x ∈ l, P x) → ∀ x ∈ putAll c out l, P x
  | [], _, h, _ => h
  | v :: l, out, h, hl => by
    unfold putAll
    refine putAll_mem l _ (fun x hx => ?_) (fun x hx => hl x (by simp [hx]))
    split at hx
    · unfold putV at hx
      split at hx
      · exact h x hx
      · rcases List.mem_append.1 hx with hx | hx
        · exact h x hx
        · rw [List.mem_singleton.1 hx]; exact hl v (by simp)
    · exact h x hx

theorem mValue_few {a b c : V} (ha : Few a) (hb : Few b) (hc : Few c) : Few (mValue a b c).1 := by
  unfold mValue
  split
  · exact hc
  · split
    · exact hb
    · split
      · rename_i h
        refine ⟨h.2, ?_⟩
        show ∀ x ∈ mItems a.l b.l c.l, x.l = []
        unfold mItems m2 m1
        exact putAll_mem _ _ (putAll_mem _ _ (putAll_mem _ _ (fun x hx => by cases hx) ha.2) hb.2) hc.2
      · split
        · exact hb
        · exact hc

theorem gv_few {l : List PR} (h : ∀ p ∈ l, Few p.v) (x : ByteArray) : Few (gv l x) := by
  rcases gv_mem l x with h1 | ⟨p, hp, h1⟩
  · rw [h1]; exact few_none
  · rw [h1]; exact h p hp

theorem self_form {v : V} (h : v.selfErr = 0) : v.formOk = true ∧ v.l.length ≤ 20 := by
  unfold V.selfErr at h
  split at h
  · omega
  · split at h
    · omega
    · rename_i hf
      split at h
      · omega
      · split at h
        · omega
        · split at h
          · omega
          · exact ⟨by simpa using hf, by omega⟩

theorem form_leaf {v : V} (h : v.formOk = true) (h7 : v.k ≠ 7) : v.l = [] := by
  unfold V.formOk formB at h
  rw [Bool.and_eq_true, Bool.and_eq_true, Bool.and_eq_true] at h
  have h9 := h.2.2.2
  rw [Bool.or_eq_true, decide_eq_true_eq, decide_eq_true_eq] at h9
  rcases h9 with h9 | h9
  · exact absurd h9 h7
  · exact List.length_eq_zero_iff.1 h9

theorem items_all {l : List V} (h : itemsErr l = 0) : ∀ x ∈ l, itemErr x = 0 := by
  intro x hx
  unfold itemsErr at h
  cases hf : l.find? (fun x => itemErr x != 0) with
  | none => simpa using List.find?_eq_none.1 hf x hx
  | some y =>
    rw [hf] at h
    have := List.find?_some hf
    simp at this
    exact absurd h this

theorem few_of_err {v : V} (h : v.err = 0) : Few v := by
  unfold V.err at h
  by_cases h0 : v.selfErr = 0
  · rw [if_neg (by omega)] at h
    refine ⟨(self_form h0).2, fun x hx => ?_⟩
    have h1 := items_all h x hx
    unfold itemErr at h1
    by_cases hc : x.k = 0 ∨ x.k = 7
    · rw [if_pos hc] at h1; omega
    · rw [if_neg hc] at h1
      exact form_leaf (self_form h1).1 (fun e => hc (.inr e))
  · rw [if_pos h0] at h; exact absurd h h0

theorem errs_none {l : List PR} (h : propsErr l = 0) : ∀ j, j < l.length → propErrAt l j = 0 := by
  unfold propsErr at h
  by_cases h20 : 20 < l.length
  · rw [if_pos h20] at h; omega
  · rw [if_neg h20] at h
    intro j
    induction j using Nat.strongRecOn with
    | ind j ih =>
      intro hj
      by_cases hz : propErrAt l j = 0
      · exact hz
      · rw [firstErr_first (fun i hi => ih i hi (by omega)) hz hj] at h
        exact h

/-- The values of properties that are right. -/
theorem few_props {l : List PR} (h : propsErr l = 0) : ∀ p ∈ l, Few p.v := by
  intro p hp
  obtain ⟨j, hj, rfl⟩ := List.getElem_of_mem hp
  have h1 := errs_none h j hj
  unfold propErrAt at h1
  rw [List.getElem?_eq_getElem hj] at h1
  simp only at h1
  by_cases hn : nameErr l[j].n ≠ 0
  · rw [if_pos hn] at h1; omega
  · rw [if_neg hn] at h1
    have h2 : (if l[j].v.k = 0 then (10 : Int) else l[j].v.err) = 0 := by
      (repeat' split at h1) <;> first | omega | exact h1 | (rw [if_pos (by assumption)]; exact h1) | (rw [if_neg (by assumption)]; exact h1)
    by_cases hk : l[j].v.k = 0
    · rw [if_pos hk] at h2; omega
    · rw [if_neg hk] at h2; exact few_of_err h2

end Go.Proofs.YtdncmjlakmkfiaaGreatDoor
