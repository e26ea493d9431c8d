/-
  PLAIN AND WALK: what is wrong with a type, by itself, in the program.
-/
import Derived.Test.YtdncmjlakmkfiaaGreatDoorPpd
import Derived.Test.YtdncmjlakmkfiaaGreatDoorDayC
import Derived.Deep.QuietTactic
import Derived.BigQuiet
set_option linter.all false
namespace Go.Proofs.YtdncmjlakmkfiaaGreatDoor
open Go.RowKit Go.Lib

def chErrAt (ch : List ByteArray) (i : Nat) : Int := match ch[i]? with
  | none => 0
  | some s => if 2000 < s.size then 4 else if hasS (ch.take i) s = true then 6 else 0

theorem chErr_cases {ch : List ByteArray} {i : Nat} (h : i < ch.length) : (2000 < ch[i].size ∧ chErrAt ch i = 4) ∨ (ch[i].size ≤ 2000 ∧ ((hasS (ch.take i) ch[i] = true ∧ chErrAt ch i = 6) ∨ (hasS (ch.take i) ch[i] = false ∧ chErrAt ch i = 0))) := by
  unfold chErrAt
  rw [List.getElem?_eq_getElem h]
  simp only []
  by_cases h1 : 2000 < ch[i].size
  · exact .inl ⟨h1, if_pos h1⟩
  · refine .inr ⟨by omega, ?_⟩
    rw [if_neg h1]
    by_cases h2 : hasS (ch.take i) ch[i] = true
    · exact .inl ⟨h2, if_pos h2⟩
    · exact .inr ⟨by simpa using h2, if_neg h2⟩

def chErr (ch : List ByteArray) : Int := firstErr (chErrAt ch) ch.length

def TY.formBad (t : TY) : Prop := (0 < t.ch.length ∧ t.k ≠ 3) ∨ ((t.lo ≠ 0 ∨ t.hi ≠ 0) ∧ t.k ≠ 2)
instance (t : TY) : Decidable t.formBad := by unfold TY.formBad; infer_instance

def TY.err (t : TY) : Int :=
  if t.k < 1 ∨ 7 < t.k then 10 else if t.formBad then 1 else if 20 < t.ch.length then 4 else if chErr t.ch ≠ 0 then chErr t.ch else if t.hi < t.lo then 5 else 0

/-- The tests of a type, in order: the kind, the form, how many choices. -/
theorem TY.err_cases (t : TY) : ((t.k < 1 ∨ 7 < t.k) ∧ t.err = 10) ∨ ((1 ≤ t.k ∧ t.k ≤ 7) ∧ ((t.k ≠ 3 ∧ 0 < t.ch.length ∧ t.err = 1) ∨ ((t.k = 3 ∨ t.ch.length = 0) ∧ ((t.k ≠ 2 ∧ t.lo ≠ 0 ∧ t.err = 1) ∨ (t.k ≠ 2 ∧ t.lo = 0 ∧ t.hi ≠ 0 ∧ t.err = 1) ∨
    ((t.k = 2 ∨ (t.lo = 0 ∧ t.hi = 0)) ∧ ((20 < t.ch.length ∧ t.err = 4) ∨ (t.ch.length ≤ 20 ∧ ((chErr t.ch ≠ 0 ∧ t.err = chErr t.ch) ∨ (chErr t.ch = 0 ∧ ((t.hi < t.lo ∧ t.err = 5) ∨ (t.lo ≤ t.hi ∧ t.err = 0)))))))))))  := by
  unfold TY.err
  by_cases h1 : t.k < 1 ∨ 7 < t.k
  · exact .inl ⟨h1, if_pos h1⟩
  refine .inr ⟨by omega, ?_⟩
  rw [if_neg h1]
  by_cases h2 : 0 < t.ch.length ∧ t.k ≠ 3
  · exact .inl ⟨h2.2, h2.1, if_pos (.inl h2)⟩
  refine .inr ⟨by omega, ?_⟩
  by_cases h3 : t.k ≠ 2 ∧ t.lo ≠ 0
  · exact .inl ⟨h3.1, h3.2, if_pos (.inr ⟨.inl h3.2, h3.1⟩)⟩
  by_cases h4 : t.k ≠ 2 ∧ t.hi ≠ 0
  · exact .inr (.inl ⟨h4.1, by omega, h4.2, if_pos (.inr ⟨.inr h4.2, h4.1⟩)⟩)
  refine .inr (.inr ⟨by omega, ?_⟩)
  rw [if_neg (by rintro (h | ⟨h | h, h'⟩); exact h2 h; exact h3 ⟨h', h⟩; exact h4 ⟨h', h⟩)]
  by_cases h5 : 20 < t.ch.length
  · exact .inl ⟨h5, if_pos h5⟩
  refine .inr ⟨by omega, ?_⟩
  rw [if_neg h5]
  by_cases h6 : chErr t.ch = 0
  · refine .inr ⟨h6, ?_⟩
    rw [if_neg (by omega)]
    by_cases h7 : t.hi < t.lo
    · exact .inl ⟨h7, if_pos h7⟩
    · exact .inr ⟨by omega, if_neg h7⟩
  · exact .inl ⟨h6, if_pos h6⟩

end Go.Proofs.YtdncmjlakmkfiaaGreatDoor
/-
  PLAIN AND WALK: a list of types is right, in the program.
-/
namespace Go.Proofs.YtdncmjlakmkfiaaGreatDoor
open Go.RowKit Go.Lib

def tyErrAt (l : List TY) (i : Nat) : Int := match l[i]? with
  | none => 0
  | some t => if nameErr t.n ≠ 0 then 3 else if hasTy (l.take i) t.n = true then 6 else t.err

def typesErr (l : List TY) : Int := if 40 < l.length then 4 else firstErr (tyErrAt l) l.length

theorem tyErr_cases {l : List TY} {i : Nat} (h : i < l.length) : (nameErr l[i].n = 3 ∧ tyErrAt l i = 3) ∨ (nameErr l[i].n = 0 ∧ ((hasTy (l.take i) l[i].n = true ∧ tyErrAt l i = 6) ∨ (hasTy (l.take i) l[i].n = false ∧ tyErrAt l i = l[i].err))) := by
  unfold tyErrAt
  rw [List.getElem?_eq_getElem h]
  simp only []
  rcases nameErr_cases l[i].n with ⟨e, -⟩ | ⟨e, -⟩
  · exact .inl ⟨e, if_pos (by omega)⟩
  · refine .inr ⟨e, ?_⟩
    rw [if_neg (by omega)]
    by_cases h2 : hasTy (l.take i) l[i].n = true
    · exact .inl ⟨h2, if_pos h2⟩
    · exact .inr ⟨by simpa using h2, if_neg h2⟩

theorem typesErr_none {l : List TY} (h : ∀ j, j < l.length → tyErrAt l j = 0) (hl : l.length ≤ 40) : typesErr l = 0 := by
  unfold typesErr
  rw [if_neg (by omega), firstErr_none h]

theorem typesErr_first {l : List TY} {k : Nat} (hl : l.length ≤ 40) (hk : k < l.length) (h : ∀ j, j < k → tyErrAt l j = 0) (hne : tyErrAt l k ≠ 0) : typesErr l = tyErrAt l k := by
  unfold typesErr
  rw [if_neg (by omega), firstErr_first h hne hk]

theorem typesErr_large {l : List TY} (h : 40 < l.length) : typesErr l = 4 := if_pos h

/-- Slices with room. -/
def CapAt (l : List TY) (c : Nat) : Prop := l.length ≤ c

end Go.Proofs.YtdncmjlakmkfiaaGreatDoor
/-
  PLAIN AND WALKS: the first property with a name; what is wrong with a value, by a type; faults.
-/
namespace Go.Proofs.YtdncmjlakmkfiaaGreatDoor
open Go.RowKit Go.Lib

def prIs (l : List PR) (x : ByteArray) (j : Nat) : Bool := match l[j]? with
  | some p => p.n.toList == x.toList
  | none => false

theorem prIs_at {l : List PR} {x : ByteArray} {j : Nat} (h : j < l.length) : prIs l x j = (l[j].n.toList == x.toList) := by
  unfold prIs
  rw [List.getElem?_eq_getElem h]

set_option maxHeartbeats 1600000 in
theorem findName_any (n : ByteArray) (k i t : Int) (s : ByteArray) (A : Option Addr) (m c : Nat) (g : Nat) (x : ByteArray) (w : World) (hx : w.cell? ⟨g, 0, none⟩ = some (.string x)) (hg : g < w.heap.size) :
    Calls Tryz.prog 125 #[.agg #[.string n, .int .i64 k, .int .i64 i, .int .i64 t, .string s, .slice A m c], .pointer (some ⟨g, 0, none⟩)] w fun e w' => e = .returned (.bool (n.toList == x.toList)) ∧ Below w.heap.size w w' := by
  go_enter Tryz.func125, Tryz.ntmps125
  go_wp2
  go_ret
  exact ⟨rfl, (by repeat (first | exact Below.refl _ _ | refine bl_plus ?_ | refine bl_alloc ?_ _ | refine bl_drew ?_ | refine bl_drewN ?_ _))⟩

set_option maxHeartbeats 3200000 in
set_option maxRecDepth 100000 in
theorem indexPr_any (A : Option Addr) (c : Nat) (l : List PR) (g : Nat) (x : ByteArray) (w : World) (hA : PsAt w A l) (hx : w.cell? ⟨g, 0, none⟩ = some (.string x)) (hg : g < w.heap.size) :
    Calls Tryz.prog 124 #[.slice A l.length c, .func (.func 125) #[] #[.pointer (some ⟨g, 0, none⟩)]] w fun e w' => e = .returned (.int .i64 (idxInt (firstIdx (prIs l x) l.length))) ∧ Below w.heap.size w w' := by
  have hm := hA.1
  unfold maxLen at hm
  have HN := hide (fun h => firstIdx_none (p := prIs l x) (n := l.length) h)
  have HF := hide (fun k h hk hn => firstIdx_some (p := prIs l x) (n := l.length) (k := k) h hk hn)
  have HA := hide hA
  clear hA
  generalize firstIdx (prIs l x) l.length = R at *
  have HX := hide hx
  clear hx
  go_enter Tryz.func124, Tryz.ntmps124
  go_wp2
  go_loopw [8] (fun i wr => ∃ (k : Nat) (os : Array Obj) (n : Nat), k ≤ l.length ∧ i = .int .i64 k ∧ Hid (∀ j, j < k → prIs l x j = false) ∧ wr = plus w os n) (fun i _ => l.length - (intOf i).toNat)
  case atStart => exact ⟨0, #[], _, Nat.zero_le _, rfl, hide (fun j hj => by omega), plus_nil.symm⟩
  case round =>
    obtain ⟨q, os, n, hq, rfl, HK, rfl⟩ := hrel
    by_cases hlt : q < l.length
    · obtain ⟨b, o, rfl, hb, hv⟩ := HA.out.2 (by omega)
      obtain ⟨c0, -, c1, c2, c3, c4, A2, e2, c5, -⟩ := (hv q hlt).cells
      have hs := prIs_at (x := x) hlt
      have hf := HF.out q HK.out
      have HNXT := hide (fun (h : prIs l x q = false) j (hj : j < q + 1) => (by
        rcases Nat.lt_or_ge j q with g | g
        · exact HK.out j g
        · obtain rfl : j = q := by omega
          exact h : prIs l x j = false))
      have HC := hide (fun w' hx hg => findName_any l[q].n l[q].v.k l[q].v.i l[q].v.t l[q].v.s A2 l[q].v.l.length e2 g x w' hx hg)
      rw [← hs] at HC
      clear hv HK hs
      generalize prIs l x q = B at *
      generalize l[q] = y at *
      obtain ⟨yn, ⟨k, i, t, s, yl⟩⟩ := y
      simp only [V.arg, V.k, V.i, V.t, V.s, V.l] at *
      have hx2 : (plus w os n).cell? ⟨g, 0, none⟩ = some (.string x) := (plus_cell hg).trans HX.out
      have hg2 : g < (plus w os n).heap.size := Nat.lt_of_lt_of_le hg (le_plus (Nat.le_refl _))
      have HX2 := hide hx2
      have HG2 := hide hg2
      clear hx2 hg2
      cases B with
      | true =>
        have hR := hf rfl hlt
        subst hR
        go_wp2_with (go_at_call 125; refine (HC.out _ HX2.out HG2.out).mono ?_; rintro e w' ⟨rfl, hbl⟩; obtain ⟨os1, n1, rfl⟩ := below_plus hbl; clear hbl)
        go_ret
        exact ⟨rfl, (by repeat (first | exact Below.refl _ _ | refine bl_plus ?_ | refine bl_alloc ?_ _ | refine bl_drew ?_ | refine bl_drewN ?_ _))⟩
      | false =>
        clear hf
        go_wp2_with (go_at_call 125; refine (HC.out _ HX2.out HG2.out).mono ?_; rintro e w' ⟨rfl, hbl⟩; obtain ⟨os1, n1, rfl⟩ := below_plus hbl; clear hbl)
        go_roundw
        case rel => exact ⟨q + 1, _, _, hlt, by go_num, hide (HNXT.out (by trivial)), by first | rfl | (rw [plus_plus])⟩
        case measure => simp [intOf]; omega
    · have hR : R = none := HN.out (fun j hj => HK.out j (by omega))
      subst hR
      obtain rfl : q = l.length := by omega
      go_wp2
      go_ret
      exact ⟨rfl, (by repeat (first | exact Below.refl _ _ | refine bl_plus ?_ | refine bl_alloc ?_ _ | refine bl_drew ?_ | refine bl_drewN ?_ _))⟩

set_option maxHeartbeats 1600000 in
theorem find_any (A : Option Addr) (c : Nat) (l : List PR) (x : ByteArray) (w : World) (hA : PsAt w A l) :
    Calls Tryz.prog 77 #[.slice A l.length c, .string x] w fun e w' => e = .returned (.int .i64 (idxInt (firstIdx (prIs l x) l.length))) ∧ Below w.heap.size w w' := by
  have H := hide (indexPr_any A c l w.heap.size x (w.alloc (.cells #[.string x] 9)) (hA.below (bl_alloc (Below.refl _ _) _)) ((Blk.new w _ _).cell 0) (Blk.new w _ _).lt)
  generalize idxInt (firstIdx (prIs l x) l.length) = R at *
  clear hA
  go_enter Tryz.func77, Tryz.ntmps77
  go_wp2_with (go_at_call 124; refine H.out.mono ?_; rintro e w' ⟨rfl, hbl⟩; obtain ⟨os1, n1, rfl⟩ := below_plus hbl; clear hbl)
  go_ret
  exact ⟨rfl, (by repeat (first | exact Below.refl _ _ | refine bl_plus ?_ | refine bl_alloc ?_ _ | refine bl_drew ?_ | refine bl_drewN ?_ _))⟩

/-- What the reference's look-up hands back. -/
def GetOut (l : List PR) (x : ByteArray) (w : World) (e : Ending) (w' : World) : Prop :=
  Below w.heap.size w w' ∧ ((∃ (k : Nat) (h : k < l.length) (A2 : Option Addr) (c2 : Nat), firstIdx (prIs l x) l.length = some k ∧ e = .returned (.tuple #[l[k].v.arg A2 c2, .bool true]) ∧ LAt w A2 l[k].v.l) ∨
    (firstIdx (prIs l x) l.length = none ∧ e = .returned (.tuple #[.agg #[.int .i64 0, .int .i64 0, .int .i64 0, .string ⟨#[]⟩, .slice none 0 0], .bool false])))

set_option maxHeartbeats 6400000 in
set_option maxRecDepth 100000 in
theorem getOf_any (A : Option Addr) (c : Nat) (l : List PR) (x : ByteArray) (w : World) (hA : PsAt w A l) :
    Calls Tryz.prog 45 #[.slice A l.length c, .string x] w (GetOut l x w) := by
  have hm := hA.1
  unfold maxLen at hm
  have HN := hide (fun h => firstIdx_none (p := prIs l x) (n := l.length) h)
  have HF := hide (fun k h hk hn => firstIdx_some (p := prIs l x) (n := l.length) (k := k) h hk hn)
  have HA := hide hA
  clear hA
  unfold GetOut
  generalize firstIdx (prIs l x) l.length = R at *
  generalize hG : (fun (e : Ending) (w' : World) => Below w.heap.size w w' ∧ ((∃ (k : Nat) (h : k < l.length) (A2 : Option Addr) (c2 : Nat), R = some k ∧ e = .returned (.tuple #[l[k].v.arg A2 c2, .bool true]) ∧ LAt w A2 l[k].v.l) ∨
    (R = none ∧ e = .returned (.tuple #[.agg #[.int .i64 0, .int .i64 0, .int .i64 0, .string ⟨#[]⟩, .slice none 0 0], .bool false])))) = G
  have HG := hide hG
  clear hG
  go_enter Tryz.func45, Tryz.ntmps45
  go_wp2
  go_loopw [10] (fun i wr => ∃ (k : Nat) (os : Array Obj) (n : Nat), k ≤ l.length ∧ i = .int .i64 k ∧ Hid (∀ j, j < k → prIs l x j = false) ∧ wr = plus (w.alloc (.cells #[.int .i64 0, .int .i64 0, .int .i64 0, .string ⟨#[]⟩, .slice none 0 0] 24)) os n) (fun i _ => l.length - (intOf i).toNat)
  case atStart => exact ⟨0, #[], _, Nat.zero_le _, rfl, hide (fun j hj => by omega), plus_nil.symm⟩
  case round =>
    obtain ⟨q, os, n, hq, rfl, HK, rfl⟩ := hrel
    by_cases hlt : q < l.length
    · obtain ⟨b, o, rfl, hb, hv⟩ := HA.out.2 (by omega)
      obtain ⟨c0, -, c1, c2, c3, c4, A2, e2, c5, hL⟩ := (hv q hlt).cells
      have hs := prIs_at (x := x) hlt
      have hf := HF.out q HK.out
      have HNXT := hide (fun (h : prIs l x q = false) j (hj : j < q + 1) => (by
        rcases Nat.lt_or_ge j q with g | g
        · exact HK.out j g
        · obtain rfl : j = q := by omega
          exact h : prIs l x j = false))
      have HL := hide hL
      clear hv HK hL
      generalize prIs l x q = B at *
      have HY : Hid (∃ y, y = l[q]) := hide ⟨_, rfl⟩
      obtain ⟨y, hy⟩ := HY.out
      have HYE := hide hy
      rw [← hy] at c0 c1 c2 c3 c4 c5 hs
      clear hy HY
      obtain ⟨yn, ⟨k, i, t, s, yl⟩⟩ := y
      simp only [V.arg, V.k, V.i, V.t, V.s, V.l] at *
      have hs2 : (yn.toList == x.toList) = B := hs.symm
      clear hs
      cases B with
      | true =>
        have hR := hf rfl hlt
        subst hR
        go_wp2
        (try simp only [Exit.inBlock, Exit.then])
        refine bodyPost_ret (v := .tuple #[.agg #[.int .i64 k, .int .i64 i, .int .i64 t, .string s, .slice A2 yl.length e2], .bool true]) (by simp [results, Tryz.results45, go_sem]) rfl ?_
        rw [← HG.out]
        refine ⟨(by repeat (first | exact Below.refl _ _ | refine bl_plus ?_ | refine bl_alloc ?_ _ | refine bl_drew ?_ | refine bl_drewN ?_ _)), .inl ⟨q, hlt, A2, e2, rfl, ?_, HL.out⟩⟩
        rw [← HYE.out]
      | false =>
        clear hf
        go_wp2
        go_roundw
        case rel => exact ⟨q + 1, _, _, hlt, by go_num, hide (HNXT.out (by trivial)), by first | rfl | (rw [plus_alloc]) | (rw [plus_alloc, plus_plus])⟩
        case measure => simp [intOf]; omega
    · have hR : R = none := HN.out (fun j hj => HK.out j (by omega))
      subst hR
      obtain rfl : q = l.length := by omega
      go_wp2
      (try simp only [Exit.inBlock, Exit.then])
      refine bodyPost_ret (v := .tuple #[.agg #[.int .i64 0, .int .i64 0, .int .i64 0, .string ⟨#[]⟩, .slice none 0 0], .bool false]) (by simp [results, Tryz.results45, go_sem]) rfl ?_
      rw [← HG.out]
      exact ⟨(by repeat (first | exact Below.refl _ _ | refine bl_plus ?_ | refine bl_alloc ?_ _ | refine bl_drew ?_ | refine bl_drewN ?_ _)), .inr ⟨(by first | rfl | trivial), rfl⟩⟩

end Go.Proofs.YtdncmjlakmkfiaaGreatDoor
