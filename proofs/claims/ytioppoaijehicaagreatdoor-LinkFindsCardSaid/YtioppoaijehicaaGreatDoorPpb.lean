/-
  PLAIN: lists of properties; where they lie in memory; the first of many errors.
-/
import Derived.Test.YtioppoaijehicaaGreatDoorPvg
import Derived.Deep.CutBlock
import Derived.Deep.QuietTactic
import Derived.BigQuiet
import Derived.WalkLawsBesides
set_option linter.all false
namespace Go.Proofs.YtioppoaijehicaaGreatDoor
open Go.RowKit Go.Lib

theorem plus_drewN {w : World} {os : Array Obj} {n k : Nat} : (plus w os n).drewN k = plus w os (n + k) := rfl

/-- The first number that is not 0. -/
def firstErr (f : Nat → Int) : Nat → Int
  | 0 => 0
  | n + 1 => if firstErr f n ≠ 0 then firstErr f n else f n

theorem firstErr_none {f : Nat → Int} : ∀ {n : Nat}, (∀ j, j < n → f j = 0) → firstErr f n = 0
  | 0, _ => rfl
  | n + 1, h => by
    have ih := firstErr_none (f := f) (n := n) (fun j hj => h j (by omega))
    rw [firstErr, if_neg (by rw [ih]; decide), h n (by omega)]

theorem firstErr_first {f : Nat → Int} {k : Nat} (h : ∀ j, j < k → f j = 0) (hk : f k ≠ 0) : ∀ {n : Nat}, k < n → firstErr f n = f k
  | 0, hn => by omega
  | n + 1, hn => by
    by_cases hkn : k < n
    · have ih := firstErr_first h hk hkn
      rw [firstErr, if_pos (by rw [ih]; exact hk), ih]
    · obtain rfl : k = n := by omega
      rw [firstErr, if_neg (by rw [firstErr_none h]; decide)]

/-- A property: a name and a value. -/
structure PR where
  n : ByteArray
  v : V

def PRAt (w : World) (p : PR) (b o : Nat) : Prop := w.cell? ⟨b, o, none⟩ = some (.string p.n) ∧ p.n.size ≤ maxLen ∧ VAt w p.v b (o + 1)

def PsAt (w : World) (A : Option Addr) (l : List PR) : Prop :=
  l.length ≤ maxLen ∧ (0 < l.length → ∃ b' o', A = some ⟨b', o', none⟩ ∧ b' < w.heap.size ∧ ∀ j (h : j < l.length), PRAt w l[j] b' (o' + j * 6))

theorem PRAt.below {w w' : World} {p : PR} {b o : Nat} (hb : Below w.heap.size w w') (hlt : b < w.heap.size) (h : PRAt w p b o) : PRAt w' p b o :=
  ⟨(hb.cell (p := ⟨b, o, none⟩) hlt).trans h.1, h.2.1, VAt.below hb _ _ _ hlt h.2.2⟩

theorem PRAt.cells {w : World} {p : PR} {b o : Nat} (h : PRAt w p b o) : w.cell? ⟨b, o, none⟩ = some (.string p.n) ∧ p.n.size ≤ maxLen ∧ w.cell? ⟨b, o + 1, none⟩ = some (.int .i64 p.v.k) ∧ w.cell? ⟨b, o + 2, none⟩ = some (.int .i64 p.v.i) ∧ w.cell? ⟨b, o + 3, none⟩ = some (.int .i64 p.v.t) ∧
    w.cell? ⟨b, o + 4, none⟩ = some (.string p.v.s) ∧ ∃ A c, w.cell? ⟨b, o + 5, none⟩ = some (.slice A p.v.l.length c) ∧ LAt w A p.v.l :=
  ⟨h.1, h.2.1, VAt_iff.1 h.2.2⟩

theorem PsAt.below {w w' : World} {A : Option Addr} {l : List PR} (h : PsAt w A l) (hb : Below w.heap.size w w') : PsAt w' A l :=
  ⟨h.1, fun hl => by
    obtain ⟨b', o', hA, hb', hj⟩ := h.2 hl
    exact ⟨b', o', hA, Nat.lt_of_lt_of_le hb' hb.size, fun j h => (hj j h).below hb hb'⟩⟩

/-- Is a name not behind the other one? -/
def nameLe (a b : ByteArray) : Bool := Op.bytesLess a.toList b.toList || a.toList == b.toList

def propErrAt (l : List PR) (i : Nat) : Int := match l[i]? with
  | none => 0
  | some p => if nameErr p.n ≠ 0 then 3 else if 0 < i ∧ (match l[i - 1]? with | none => false | some q => nameLe p.n q.n) = true then 5 else if p.v.k = 0 then 10 else p.v.err

def propsErr (l : List PR) : Int := if 20 < l.length then 4 else firstErr (propErrAt l) l.length

theorem nameErr_cases (s : ByteArray) : (nameErr s = 3 ∧ isName s.data.toList = false) ∨ (nameErr s = 0 ∧ isName s.data.toList = true) := by
  unfold nameErr
  cases h : isName s.data.toList with
  | true => exact .inr ⟨if_pos rfl, rfl⟩
  | false => exact .inl ⟨if_neg Bool.false_ne_true, rfl⟩

theorem propErr_zero0 {l : List PR} (h : 0 < l.length) : (nameErr l[0].n = 3 ∧ propErrAt l 0 = 3) ∨ (nameErr l[0].n = 0 ∧ ((l[0].v.k = 0 ∧ propErrAt l 0 = 10) ∨ (l[0].v.k ≠ 0 ∧ propErrAt l 0 = l[0].v.err))) := by
  unfold propErrAt
  rw [List.getElem?_eq_getElem h]
  simp only [Nat.lt_irrefl, false_and, if_false]
  rcases nameErr_cases l[0].n with ⟨e, -⟩ | ⟨e, -⟩
  · exact .inl ⟨e, if_pos (by omega)⟩
  · refine .inr ⟨e, ?_⟩
    rw [if_neg (by omega)]
    by_cases hk : l[0].v.k = 0
    · exact .inl ⟨hk, if_pos hk⟩
    · exact .inr ⟨hk, if_neg hk⟩

/-- The error of the first property. -/
theorem propErr_zero {l : List PR} {q : Nat} (h : q < l.length) (h0 : q = 0) : (nameErr l[q].n = 3 ∧ propErrAt l q = 3) ∨ (nameErr l[q].n = 0 ∧ ((l[q].v.k = 0 ∧ propErrAt l q = 10) ∨ (l[q].v.k ≠ 0 ∧ propErrAt l q = l[q].v.err))) := by
  subst h0
  exact propErr_zero0 h

/-- The error of a property behind another one. -/
theorem propErr_more {l : List PR} {i : Nat} (h : i + 1 < l.length) : (nameErr l[i + 1].n = 3 ∧ propErrAt l (i + 1) = 3) ∨ (nameErr l[i + 1].n = 0 ∧ ((nameLe l[i + 1].n l[i].n = true ∧ propErrAt l (i + 1) = 5) ∨
    (nameLe l[i + 1].n l[i].n = false ∧ ((l[i + 1].v.k = 0 ∧ propErrAt l (i + 1) = 10) ∨ (l[i + 1].v.k ≠ 0 ∧ propErrAt l (i + 1) = l[i + 1].v.err))))) := by
  unfold propErrAt
  rw [List.getElem?_eq_getElem h]
  simp only [Nat.add_sub_cancel]
  rw [List.getElem?_eq_getElem (show i < l.length by omega)]
  simp only []
  rcases nameErr_cases l[i + 1].n with ⟨e, -⟩ | ⟨e, -⟩
  · exact .inl ⟨e, if_pos (by omega)⟩
  · refine .inr ⟨e, ?_⟩
    rw [if_neg (by omega)]
    by_cases hle : nameLe l[i + 1].n l[i].n = true
    · exact .inl ⟨hle, if_pos ⟨by omega, hle⟩⟩
    · refine .inr ⟨by simpa using hle, ?_⟩
      rw [if_neg (fun h => hle h.2)]
      by_cases hk : l[i + 1].v.k = 0
      · exact .inl ⟨hk, if_pos hk⟩
      · exact .inr ⟨hk, if_neg hk⟩

theorem propErr_none {l : List PR} (h : ∀ j, j < l.length → propErrAt l j = 0) (hl : l.length ≤ 20) : propsErr l = 0 := by
  unfold propsErr
  rw [if_neg (by omega), firstErr_none h]

theorem propErr_first {l : List PR} {k : Nat} (hl : l.length ≤ 20) (hk : k < l.length) (h : ∀ j, j < k → propErrAt l j = 0) (hne : propErrAt l k ≠ 0) : propsErr l = propErrAt l k := by
  unfold propsErr
  rw [if_neg (by omega), firstErr_first h hne hk]

theorem propErr_large {l : List PR} (h : 20 < l.length) : propsErr l = 4 := if_pos h

end Go.Proofs.YtioppoaijehicaaGreatDoor
/-
  PLAIN AND WALKS: types of properties; the first place of a string, and of a type with a name.
-/
namespace Go.Proofs.YtioppoaijehicaaGreatDoor
open Go.RowKit Go.Lib

/-- The first number under a bound at which a test holds. -/
def firstIdx (p : Nat → Bool) : Nat → Option Nat
  | 0 => none
  | n + 1 => match firstIdx p n with
    | some k => some k
    | none => if p n = true then some n else none

theorem firstIdx_none {p : Nat → Bool} : ∀ {n : Nat}, (∀ j, j < n → p j = false) → firstIdx p n = none
  | 0, _ => rfl
  | n + 1, h => by
    rw [firstIdx, firstIdx_none (fun j hj => h j (by omega)), h n (by omega)]
    rfl

theorem firstIdx_some {p : Nat → Bool} {k : Nat} (h : ∀ j, j < k → p j = false) (hk : p k = true) : ∀ {n : Nat}, k < n → firstIdx p n = some k
  | 0, hn => by omega
  | n + 1, hn => by
    by_cases hkn : k < n
    · rw [firstIdx, firstIdx_some h hk hkn]
    · obtain rfl : k = n := by omega
      rw [firstIdx, firstIdx_none h]
      exact if_pos hk

theorem firstIdx_lt {p : Nat → Bool} : ∀ {n k : Nat}, firstIdx p n = some k → k < n ∧ p k = true
  | 0, k, h => by cases h
  | n + 1, k, h => by
    rw [firstIdx] at h
    cases hf : firstIdx p n with
    | some m =>
      rw [hf] at h
      obtain rfl : m = k := by simpa using h
      have := firstIdx_lt hf
      exact ⟨by omega, this.2⟩
    | none =>
      rw [hf] at h
      by_cases hp : p n = true
      · have h : some n = some k := by simpa [hp] using h
        obtain rfl : n = k := by simpa using h
        exact ⟨by omega, hp⟩
      · simp [hp] at h

def idxInt : Option Nat → Int
  | some k => k
  | none => -1

theorem idxInt_pos (o : Option Nat) : (0 ≤ idxInt o) = (o.isSome = true) := by
  cases o <;> simp [idxInt]

/-- Where strings lie. -/
def SAt (w : World) (A : Option Addr) (ss : List ByteArray) : Prop :=
  ss.length ≤ maxLen ∧ (0 < ss.length → ∃ b' o', A = some ⟨b', o', none⟩ ∧ b' < w.heap.size ∧ ∀ j (h : j < ss.length), w.cell? ⟨b', o' + j, none⟩ = some (.string ss[j]))

theorem SAt.below {w w' : World} {A : Option Addr} {l : List ByteArray} (h : SAt w A l) (hb : Below w.heap.size w w') : SAt w' A l :=
  ⟨h.1, fun hl => by
    obtain ⟨b', o', hA, hb', hj⟩ := h.2 hl
    exact ⟨b', o', hA, Nat.lt_of_lt_of_le hb' hb.size, fun j h => (hb.cell (p := ⟨b', o' + j, none⟩) hb').trans (hj j h)⟩⟩

theorem SAt.take {w : World} {A : Option Addr} {l : List ByteArray} (h : SAt w A l) (n : Nat) : SAt w A (l.take n) :=
  ⟨Nat.le_trans (List.length_take_le' n l) h.1, fun hl => by
    rw [List.length_take] at hl
    obtain ⟨b', o', hA, hb', hj⟩ := h.2 (by omega)
    refine ⟨b', o', hA, hb', fun j h => ?_⟩
    rw [List.getElem_take]
    exact hj j _⟩

def sIs (ss : List ByteArray) (x : ByteArray) (j : Nat) : Bool := match ss[j]? with
  | some s => x.toList == s.toList
  | none => false

theorem sIs_at {ss : List ByteArray} {x : ByteArray} {j : Nat} (h : j < ss.length) : sIs ss x j = (x.toList == ss[j].toList) := by
  unfold sIs
  rw [List.getElem?_eq_getElem h]

/-- Is a string among others? -/
def hasS (ss : List ByteArray) (x : ByteArray) : Bool := (firstIdx (sIs ss x) ss.length).isSome

/-- A type of properties. -/
structure TY where
  n : ByteArray
  k : Int
  need : Bool
  ch : List ByteArray
  lo : Int
  hi : Int

def TY.arg (t : TY) (A : Option Addr) (c : Nat) : Value := .agg #[.string t.n, .int .i64 t.k, .bool t.need, .slice A t.ch.length c, .int .i64 t.lo, .int .i64 t.hi]

def TYAt (w : World) (t : TY) (b o : Nat) : Prop := w.cell? ⟨b, o, none⟩ = some (.string t.n) ∧ t.n.size ≤ maxLen ∧ w.cell? ⟨b, o + 1, none⟩ = some (.int .i64 t.k) ∧ w.cell? ⟨b, o + 2, none⟩ = some (.bool t.need) ∧
  w.cell? ⟨b, o + 4, none⟩ = some (.int .i64 t.lo) ∧ w.cell? ⟨b, o + 5, none⟩ = some (.int .i64 t.hi) ∧ ∃ A c, w.cell? ⟨b, o + 3, none⟩ = some (.slice A t.ch.length c) ∧ SAt w A t.ch ∧ t.ch.length ≤ c

theorem TYAt.below {w w' : World} {t : TY} {b o : Nat} (hb : Below w.heap.size w w') (hlt : b < w.heap.size) (h : TYAt w t b o) : TYAt w' t b o := by
  have hk : ∀ i, w'.cell? ⟨b, i, none⟩ = w.cell? ⟨b, i, none⟩ := fun i => hb.cell (p := ⟨b, i, none⟩) hlt
  obtain ⟨h0, h1, h2, h3, h4, h5, A, c, h6, h7, h8⟩ := h
  exact ⟨(hk _).trans h0, h1, (hk _).trans h2, (hk _).trans h3, (hk _).trans h4, (hk _).trans h5, A, c, (hk _).trans h6, h7.below hb, h8⟩

def TsAt (w : World) (A : Option Addr) (l : List TY) : Prop :=
  l.length ≤ maxLen ∧ (0 < l.length → ∃ b' o', A = some ⟨b', o', none⟩ ∧ b' < w.heap.size ∧ ∀ j (h : j < l.length), TYAt w l[j] b' (o' + j * 6))

theorem TsAt.below {w w' : World} {A : Option Addr} {l : List TY} (h : TsAt w A l) (hb : Below w.heap.size w w') : TsAt w' A l :=
  ⟨h.1, fun hl => by
    obtain ⟨b', o', hA, hb', hj⟩ := h.2 hl
    exact ⟨b', o', hA, Nat.lt_of_lt_of_le hb' hb.size, fun j h => (hj j h).below hb hb'⟩⟩

theorem TsAt.take {w : World} {A : Option Addr} {l : List TY} (h : TsAt w A l) (n : Nat) : TsAt w A (l.take n) :=
  ⟨Nat.le_trans (List.length_take_le' n l) h.1, fun hl => by
    rw [List.length_take] at hl
    obtain ⟨b', o', hA, hb', hj⟩ := h.2 (by omega)
    refine ⟨b', o', hA, hb', fun j h => ?_⟩
    rw [List.getElem_take]
    exact hj j _⟩

def tyIs (l : List TY) (x : ByteArray) (j : Nat) : Bool := match l[j]? with
  | some t => t.n.toList == x.toList
  | none => false

theorem tyIs_at {l : List TY} {x : ByteArray} {j : Nat} (h : j < l.length) : tyIs l x j = (l[j].n.toList == x.toList) := by
  unfold tyIs
  rw [List.getElem?_eq_getElem h]

/-- Is there a type with a name? -/
def hasTy (l : List TY) (x : ByteArray) : Bool := (firstIdx (tyIs l x) l.length).isSome

end Go.Proofs.YtioppoaijehicaaGreatDoor
/-
  WALK: a list of properties is right, in the program.
-/
namespace Go.Proofs.YtioppoaijehicaaGreatDoor
open Go.RowKit Go.Lib

set_option maxHeartbeats 12800000 in
set_option maxRecDepth 100000 in
theorem checkProps_any (l : List PR) (A : Option Addr) (c : Nat) (w : World) (hA : PsAt w A l) :
    Calls Tryz.prog 64 #[.slice A l.length c] w fun e w' => e = .returned (.int .i64 (propsErr l)) ∧ Below w.heap.size w w' := by
  have hm := hA.1
  unfold maxLen at hm
  by_cases h20 : 20 < l.length
  · rw [propErr_large h20]
    have hn : (20 : Int) < (l.length : Int) := by omega
    clear hA
    go_enter Tryz.func64, Tryz.ntmps64
    go_wp2
    go_ret
    exact ⟨rfl, (by repeat (first | exact Below.refl _ _ | refine bl_plus ?_ | refine bl_alloc ?_ _ | refine bl_drew ?_ | refine bl_drewN ?_ _))⟩
  have HN := hide (fun h => propErr_none (l := l) h (by omega))
  have HF := hide (fun k hk h hne => propErr_first (l := l) (k := k) (by omega) hk h hne)
  have HA := hide hA
  clear hA
  generalize propsErr l = R at *
  have hn : ¬ (20 : Int) < (l.length : Int) := by omega
  go_enter Tryz.func64, Tryz.ntmps64
  go_wp2
  clear h20 hn
  go_loopw [12] (fun i wr => ∃ (k : Nat) (os : Array Obj) (n : Nat), k ≤ l.length ∧ i = .int .i64 k ∧ Hid (∀ j, j < k → propErrAt l j = 0) ∧ wr = plus w os n) (fun i _ => l.length - (intOf i).toNat)
  case atStart => exact ⟨0, #[], _, Nat.zero_le _, rfl, hide (fun j hj => by omega), plus_nil.symm⟩
  case round =>
    obtain ⟨q, os, n, hq, rfl, HK, rfl⟩ := hrel
    by_cases hlt : q < l.length
    · obtain ⟨b, o, rfl, hb, hv⟩ := HA.out.2 (by omega)
      have hf := HF.out q hlt HK.out
      have HNXT := hide (fun (h : propErrAt l q = 0) j (hj : j < q + 1) => (by
        rcases Nat.lt_or_ge j q with g | g
        · exact HK.out j g
        · obtain rfl : j = q := by omega
          exact h : propErrAt l j = 0))
      obtain ⟨c0, hns, c1, c2, c3, c4, A2, e2, c5, hL2⟩ := (hv q hlt).cells
      unfold maxLen at hns
      have HCN := hide (fun w => checkName_any l[q].n w)
      have HCV := hide (fun w' (hbw : Below w.heap.size w w') => checkValue_any l[q].v A2 e2 w' (hL2.below hbw))
      have HV := hide hv
      clear hv hL2 HK HA HN HF hns
      rcases Nat.eq_zero_or_pos q with hq0 | hq0
      · have hcs := propErr_zero hlt hq0
        have hg : decide (0 < q) = false := decide_eq_false (by omega)
        clear HV hq0
        generalize propErrAt l q = E at *
        have hne2 := nameErr_cases l[q].n
        generalize nameErr l[q].n = NE at *
        generalize hbn : isName l[q].n.data.toList = NB at *
        clear hbn
        generalize l[q].v.err = VE at *
        generalize l[q] = x at *
        obtain ⟨xn, ⟨xk, xi, xt, xs, xl⟩⟩ := x
        simp only [V.arg, V.k, V.i, V.t, V.s, V.l] at *
        rcases hcs with ⟨hN, hE⟩ | ⟨hN, ⟨hk0, hE⟩ | ⟨hk0, hE⟩⟩
        all_goals (subst hN; rcases hne2 with ⟨g1, g2⟩ | ⟨g1, g2⟩ <;> (try (exfalso; omega)); subst g2; clear g1)
        · subst hE
          obtain rfl := hf (by decide)
          clear HNXT HCV
          go_wp2_with (go_at_call 99; refine (HCN.out _).mono ?_; rintro e w' ⟨rfl, hbl⟩; obtain ⟨os1, n1, rfl⟩ := below_plus hbl; clear hbl)
          go_ret
          exact ⟨rfl, (by repeat (first | exact Below.refl _ _ | refine bl_plus ?_ | refine bl_alloc ?_ _ | refine bl_drew ?_ | refine bl_drewN ?_ _))⟩
        · subst hE
          obtain rfl := hf (by decide)
          clear HNXT HCV
          subst hk0
          go_upto_region 9 with (go_at_call 99; refine (HCN.out _).mono ?_; rintro e w' ⟨rfl, hbl⟩; obtain ⟨os1, n1, rfl⟩ := below_plus hbl; clear hbl)
          go_quiet (fail)
          go_wp2
          go_ret
          exact ⟨rfl, (by repeat (first | exact Below.refl _ _ | refine bl_plus ?_ | refine bl_alloc ?_ _ | refine bl_drew ?_ | refine bl_drewN ?_ _))⟩
        · have j0 : (xk == 0) = false := beq_eq_false_iff_ne.2 hk0
          clear hk0
          subst hE
          by_cases hz : E = 0
          · subst hz
            clear hf
            go_upto_region 9 with (go_at_call 99; refine (HCN.out _).mono ?_; rintro e w' ⟨rfl, hbl⟩; obtain ⟨os1, n1, rfl⟩ := below_plus hbl; clear hbl)
            go_quiet (fail)
            go_wp2_with (go_at_call 100; refine (HCV.out _ ?hbw).mono ?_; (case hbw => repeat (first | exact Below.refl _ _ | refine bl_plus ?_ | refine bl_alloc ?_ _ | refine bl_drew ?_ | refine bl_drewN ?_ _)); rintro e w' ⟨rfl, hbl⟩; obtain ⟨os2, n2, rfl⟩ := below_plus hbl; clear hbl)
            go_roundw
            case rel => exact ⟨q + 1, _, _, hlt, by go_num, hide (HNXT.out (by trivial)), by first | rfl | (rw [plus_alloc, plus_plus, plus_drewN, plus_plus]) | (rw [plus_alloc, plus_plus])⟩
            case measure => simp [intOf]; omega
          · obtain rfl := hf hz
            have q1 := bne_iff_ne.2 hz
            clear hz HNXT
            go_upto_region 9 with (go_at_call 99; refine (HCN.out _).mono ?_; rintro e w' ⟨rfl, hbl⟩; obtain ⟨os1, n1, rfl⟩ := below_plus hbl; clear hbl)
            go_quiet (fail)
            go_wp2_with (go_at_call 100; refine (HCV.out _ ?hbw).mono ?_; (case hbw => repeat (first | exact Below.refl _ _ | refine bl_plus ?_ | refine bl_alloc ?_ _ | refine bl_drew ?_ | refine bl_drewN ?_ _)); rintro e w' ⟨rfl, hbl⟩; obtain ⟨os2, n2, rfl⟩ := below_plus hbl; clear hbl)
            go_ret
            exact ⟨rfl, (by repeat (first | exact Below.refl _ _ | refine bl_plus ?_ | refine bl_alloc ?_ _ | refine bl_drew ?_ | refine bl_drewN ?_ _))⟩
      · obtain ⟨m, rfl⟩ : ∃ m, q = m + 1 := ⟨q - 1, by omega⟩
        have hcs := propErr_more (l := l) (i := m) hlt
        have d0 := (HV.out m (by omega)).1
        have hg : (0 : Int) < ((m + 1 : Nat) : Int) := by omega
        unfold nameLe at hcs
        clear HV hq0
        generalize propErrAt l (m + 1) = E at *
        have hne2 := nameErr_cases l[m + 1].n
        generalize nameErr l[m + 1].n = NE at *
        generalize hbn : isName l[m + 1].n.data.toList = NB at *
        clear hbn
        generalize l[m + 1].v.err = VE at *
        generalize l[m + 1] = x at *
        generalize l[m] = y at *
        obtain ⟨xn, ⟨xk, xi, xt, xs, xl⟩⟩ := x
        obtain ⟨yn, yv⟩ := y
        simp only [V.arg, V.k, V.i, V.t, V.s, V.l] at *
        rcases hcs with ⟨hN, hE⟩ | ⟨hN, ⟨hle, hE⟩ | ⟨hle, ⟨hk0, hE⟩ | ⟨hk0, hE⟩⟩⟩
        all_goals (subst hN; rcases hne2 with ⟨g1, g2⟩ | ⟨g1, g2⟩ <;> (try (exfalso; omega)); subst g2; clear g1)
        · subst hE
          obtain rfl := hf (by decide)
          clear HNXT HCV
          go_wp2_with (go_at_call 99; refine (HCN.out _).mono ?_; rintro e w' ⟨rfl, hbl⟩; obtain ⟨os1, n1, rfl⟩ := below_plus hbl; clear hbl)
          go_ret
          exact ⟨rfl, (by repeat (first | exact Below.refl _ _ | refine bl_plus ?_ | refine bl_alloc ?_ _ | refine bl_drew ?_ | refine bl_drewN ?_ _))⟩
        · subst hE
          obtain rfl := hf (by decide)
          clear HNXT HCV
          go_upto_region 9 with (go_at_call 99; refine (HCN.out _).mono ?_; rintro e w' ⟨rfl, hbl⟩; obtain ⟨os1, n1, rfl⟩ := below_plus hbl; clear hbl)
          go_quiet (fail)
          go_wp2
          go_ret
          exact ⟨rfl, (by repeat (first | exact Below.refl _ _ | refine bl_plus ?_ | refine bl_alloc ?_ _ | refine bl_drew ?_ | refine bl_drewN ?_ _))⟩
        · subst hE
          obtain rfl := hf (by decide)
          clear HNXT HCV
          subst hk0
          go_upto_region 9 with (go_at_call 99; refine (HCN.out _).mono ?_; rintro e w' ⟨rfl, hbl⟩; obtain ⟨os1, n1, rfl⟩ := below_plus hbl; clear hbl)
          go_quiet (fail)
          go_wp2
          go_ret
          exact ⟨rfl, (by repeat (first | exact Below.refl _ _ | refine bl_plus ?_ | refine bl_alloc ?_ _ | refine bl_drew ?_ | refine bl_drewN ?_ _))⟩
        · have j0 : (xk == 0) = false := beq_eq_false_iff_ne.2 hk0
          clear hk0
          subst hE
          by_cases hz : E = 0
          · subst hz
            clear hf
            go_upto_region 9 with (go_at_call 99; refine (HCN.out _).mono ?_; rintro e w' ⟨rfl, hbl⟩; obtain ⟨os1, n1, rfl⟩ := below_plus hbl; clear hbl)
            go_quiet (fail)
            go_wp2_with (go_at_call 100; refine (HCV.out _ ?hbw).mono ?_; (case hbw => repeat (first | exact Below.refl _ _ | refine bl_plus ?_ | refine bl_alloc ?_ _ | refine bl_drew ?_ | refine bl_drewN ?_ _)); rintro e w' ⟨rfl, hbl⟩; obtain ⟨os2, n2, rfl⟩ := below_plus hbl; clear hbl)
            go_roundw
            case rel => exact ⟨m + 2, _, _, hlt, by go_num, hide (HNXT.out (by trivial)), by first | rfl | (rw [plus_alloc, plus_plus, plus_drewN, plus_plus]) | (rw [plus_alloc, plus_plus])⟩
            case measure => simp [intOf]; omega
          · obtain rfl := hf hz
            have q1 := bne_iff_ne.2 hz
            clear hz HNXT
            go_upto_region 9 with (go_at_call 99; refine (HCN.out _).mono ?_; rintro e w' ⟨rfl, hbl⟩; obtain ⟨os1, n1, rfl⟩ := below_plus hbl; clear hbl)
            go_quiet (fail)
            go_wp2_with (go_at_call 100; refine (HCV.out _ ?hbw).mono ?_; (case hbw => repeat (first | exact Below.refl _ _ | refine bl_plus ?_ | refine bl_alloc ?_ _ | refine bl_drew ?_ | refine bl_drewN ?_ _)); rintro e w' ⟨rfl, hbl⟩; obtain ⟨os2, n2, rfl⟩ := below_plus hbl; clear hbl)
            go_ret
            exact ⟨rfl, (by repeat (first | exact Below.refl _ _ | refine bl_plus ?_ | refine bl_alloc ?_ _ | refine bl_drew ?_ | refine bl_drewN ?_ _))⟩
    · have hR : R = 0 := HN.out (fun j hj => HK.out j (by omega))
      subst hR
      obtain rfl : q = l.length := by omega
      go_wp2
      go_ret
      exact ⟨rfl, (by repeat (first | exact Below.refl _ _ | refine bl_plus ?_ | refine bl_alloc ?_ _ | refine bl_drew ?_ | refine bl_drewN ?_ _))⟩

end Go.Proofs.YtioppoaijehicaaGreatDoor
