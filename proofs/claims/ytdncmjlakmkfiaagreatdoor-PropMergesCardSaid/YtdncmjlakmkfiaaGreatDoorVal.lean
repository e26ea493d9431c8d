/-
  PLAIN: values, and their order, as Lean functions; where a value lies in memory.
-/
import Derived.RowKit
import Derived.Lib.Bytealg
import Derived.Test.YtdncmjlakmkfiaaGreatDoorInts
set_option linter.all false
namespace Go.Proofs.YtdncmjlakmkfiaaGreatDoor
open Go.RowKit

/-- A value of a property: its kind, two numbers, a text, items. -/
inductive V where
  | mk (k i t : Int) (s : ByteArray) (l : List V)

def V.k : V → Int | .mk k _ _ _ _ => k

def V.i : V → Int | .mk _ i _ _ _ => i

def V.t : V → Int | .mk _ _ t _ _ => t

def V.s : V → ByteArray | .mk _ _ _ s _ => s

def V.l : V → List V | .mk _ _ _ _ l => l

def V.arg (v : V) (A : Option Addr) (c : Nat) : Value := .agg #[.int .i64 v.k, .int .i64 v.i, .int .i64 v.t, .string v.s, .slice A v.l.length c]

theorem cmp3_lt {a b : Int} (h : a < b) : cmp3 a b = -1 := if_pos h

theorem cmp3_gt {a b : Int} (h : b < a) : cmp3 a b = 1 := by rw [cmp3, if_neg (by omega), if_pos h]

theorem cmp3_eq (a : Int) : cmp3 a a = 0 := by rw [cmp3, if_neg (by omega), if_neg (by omega)]

theorem cmp3_ne {a b : Int} (h : a ≠ b) : cmp3 a b ≠ 0 := by unfold cmp3; (repeat' split) <;> omega

theorem less_cmp : ∀ (a b : List UInt8), (Lib.compareBytes a b = -1 ∧ Op.bytesLess a b = true ∧ Op.bytesLess b a = false ∧ (a == b) = false) ∨ (Lib.compareBytes a b = 1 ∧ Op.bytesLess a b = false ∧ Op.bytesLess b a = true ∧ (a == b) = false) ∨ (Lib.compareBytes a b = 0 ∧ Op.bytesLess a b = false ∧ Op.bytesLess b a = false ∧ (a == b) = true)
  | [], [] => by simp [Lib.compareBytes, Op.bytesLess]
  | [], _ :: _ => by simp [Lib.compareBytes, Op.bytesLess]
  | _ :: _, [] => by simp [Lib.compareBytes, Op.bytesLess]
  | x :: xs, y :: ys => by
    have ih := less_cmp xs ys
    unfold Lib.compareBytes
    by_cases h : x < y
    · left
      have h2 : ¬ y < x := fun h2 => UInt8.lt_irrefl x (UInt8.lt_trans h h2)
      have h3 : ¬ x = y := fun h3 => by subst h3; exact UInt8.lt_irrefl x h
      have h4 : ¬ y = x := fun h4 => h3 h4.symm
      simp [h, h2, h3, h4, Op.bytesLess]
    · by_cases h2 : y < x
      · right; left
        have h3 : ¬ x = y := fun h3 => by subst h3; exact h h2
        simp [h, h2, h3, Op.bytesLess]
      · have h3 : x = y := UInt8.le_antisymm (UInt8.not_lt.1 h2) (UInt8.not_lt.1 h)
        subst h3
        simp only [if_neg h, Op.bytesLess, beq_self_eq_true, Bool.true_and, List.cons_beq_cons]
        simpa [h] using ih

mutual

def cmpV : V → V → Int
  | .mk k i t s l, .mk k' i' t' s' l' =>
    if k = k' then
      (if k = 1 ∨ k = 2 ∨ k = 4 then cmp3 i i' else if k = 5 then or2 (cmp3 i i') (cmp3 t t') else if k = 3 ∨ k = 6 then Lib.compareBytes s.data.toList s'.data.toList else if k = 7 then cmpL l l' else 0)
    else cmp3 k k'

def cmpL : List V → List V → Int
  | [], [] => 0
  | [], _ :: _ => -1
  | _ :: _, [] => 1
  | x :: xs, y :: ys => if cmpV x y = 0 then cmpL xs ys else cmpV x y
end

/-- The cells of a value lie at an address of a world; so do those of its items. -/
def VAt (w : World) : V → Nat → Nat → Prop
  | .mk k i t s l, b, o => w.cell? ⟨b, o, none⟩ = some (.int .i64 k) ∧ w.cell? ⟨b, o + 1, none⟩ = some (.int .i64 i) ∧ w.cell? ⟨b, o + 2, none⟩ = some (.int .i64 t) ∧ w.cell? ⟨b, o + 3, none⟩ = some (.string s) ∧
    ∃ A c, w.cell? ⟨b, o + 4, none⟩ = some (.slice A l.length c) ∧ l.length ≤ maxLen ∧ (0 < l.length → ∃ b' o', A = some ⟨b', o', none⟩ ∧ b' < w.heap.size ∧ ∀ j (h : j < l.length), VAt w l[j] b' (o' + j * 5))
termination_by v => SizeOf.sizeOf v
decreasing_by
  have := List.sizeOf_lt_of_mem (List.getElem_mem h)
  simp only [V.mk.sizeOf_spec]
  omega

def LAt (w : World) (A : Option Addr) (l : List V) : Prop :=
  l.length ≤ maxLen ∧ (0 < l.length → ∃ b' o', A = some ⟨b', o', none⟩ ∧ b' < w.heap.size ∧ ∀ j (h : j < l.length), VAt w l[j] b' (o' + j * 5))

theorem VAt_iff {w : World} {v : V} {b o : Nat} : VAt w v b o ↔ w.cell? ⟨b, o, none⟩ = some (.int .i64 v.k) ∧ w.cell? ⟨b, o + 1, none⟩ = some (.int .i64 v.i) ∧ w.cell? ⟨b, o + 2, none⟩ = some (.int .i64 v.t) ∧ w.cell? ⟨b, o + 3, none⟩ = some (.string v.s) ∧
    ∃ A c, w.cell? ⟨b, o + 4, none⟩ = some (.slice A v.l.length c) ∧ LAt w A v.l := by
  obtain ⟨k, i, t, s, l⟩ := v
  rw [VAt]
  exact Iff.rfl

theorem VAt.below {w w' : World} (hb : Below w.heap.size w w') : ∀ (v : V) (b o : Nat), b < w.heap.size → VAt w v b o → VAt w' v b o
  | .mk k i t s l, b, o, hlt, h => by
    have hk : ∀ i, w'.cell? ⟨b, i, none⟩ = w.cell? ⟨b, i, none⟩ := fun i => hb.cell (p := ⟨b, i, none⟩) hlt
    rw [VAt] at h ⊢
    obtain ⟨h0, h1, h2, h3, A, c, h4, h5, h6⟩ := h
    refine ⟨(hk _).trans h0, (hk _).trans h1, (hk _).trans h2, (hk _).trans h3, A, c, (hk _).trans h4, h5, fun hl => ?_⟩
    obtain ⟨b', o', hA, hb', hj⟩ := h6 hl
    exact ⟨b', o', hA, Nat.lt_of_lt_of_le hb' hb.size, fun j h => VAt.below hb l[j] b' _ hb' (hj j h)⟩
termination_by v => SizeOf.sizeOf v
decreasing_by
  have := List.sizeOf_lt_of_mem (List.getElem_mem h)
  simp only [V.mk.sizeOf_spec]
  omega

theorem LAt.below {w w' : World} {A : Option Addr} {l : List V} (h : LAt w A l) (hb : Below w.heap.size w w') : LAt w' A l :=
  ⟨h.1, fun hl => by
    obtain ⟨b', o', hA, hb', hj⟩ := h.2 hl
    exact ⟨b', o', hA, Nat.lt_of_lt_of_le hb' hb.size, fun j h => VAt.below hb l[j] b' _ hb' (hj j h)⟩⟩

theorem cmpL_done (ys : List V) : cmpL [] ys = if ys.length = 0 then 0 else -1 := by
  cases ys <;> simp [cmpL]

theorem cmpL_over {xs ys : List V} {k : Nat} (hx : k < xs.length) (hy : ys.length ≤ k) : cmpL (xs.drop k) (ys.drop k) = 1 := by
  rw [List.drop_eq_getElem_cons hx, List.drop_eq_nil_of_le hy, cmpL]

theorem cmpL_step {xs ys : List V} {k : Nat} (hx : k < xs.length) (hy : k < ys.length) : cmpL (xs.drop k) (ys.drop k) = if cmpV xs[k] ys[k] = 0 then cmpL (xs.drop (k + 1)) (ys.drop (k + 1)) else cmpV xs[k] ys[k] := by
  rw [List.drop_eq_getElem_cons hx, List.drop_eq_getElem_cons hy, cmpL]

theorem cmpL_end {xs ys : List V} {k : Nat} (hx : xs.length ≤ k) : cmpL (xs.drop k) (ys.drop k) = if ys.length ≤ k then 0 else -1 := by
  rw [List.drop_eq_nil_of_le hx, cmpL_done]
  simp only [List.length_drop]
  by_cases h : ys.length ≤ k
  · rw [if_pos (by omega), if_pos h]
  · rw [if_neg (by omega), if_neg h]

end Go.Proofs.YtdncmjlakmkfiaaGreatDoor
/-
  PLAIN: values that are alike to Compare; what three lists of items become; what three values become: both ways come to the same.
-/
namespace Go.Proofs.YtdncmjlakmkfiaaGreatDoor

mutual

/-- A value without what Compare leaves out. -/
def nrm : V → V
  | .mk k i t s l => if k = 1 ∨ k = 2 ∨ k = 4 then .mk k i 0 ⟨#[]⟩ [] else if k = 5 then .mk k i t ⟨#[]⟩ [] else if k = 3 ∨ k = 6 then .mk k 0 0 s [] else if k = 7 then .mk k 0 0 ⟨#[]⟩ (nrmL l) else .mk k 0 0 ⟨#[]⟩ []

def nrmL : List V → List V
  | [] => []
  | x :: xs => nrm x :: nrmL xs
end

theorem cmp3_zero {a b : Int} : cmp3 a b = 0 ↔ a = b := ⟨fun h => Classical.byContradiction fun e => cmp3_ne e h, fun h => by rw [h]; exact cmp3_eq b⟩

theorem bytes_zero {a b : List UInt8} : Lib.compareBytes a b = 0 ↔ a = b := by
  rcases less_cmp a b with ⟨h1, h2, h3, h4⟩ | ⟨h1, h2, h3, h4⟩ | ⟨h1, h2, h3, h4⟩
  · rw [h1]
    refine ⟨fun h => by omega, fun h => ?_⟩
    rw [h] at h4
    simp at h4
  · rw [h1]
    refine ⟨fun h => by omega, fun h => ?_⟩
    rw [h] at h4
    simp at h4
  · rw [h1]
    exact ⟨fun _ => by simpa using h4, fun _ => rfl⟩

theorem str_zero {a b : ByteArray} : Lib.compareBytes a.data.toList b.data.toList = 0 ↔ a = b := by
  rw [bytes_zero]
  exact ⟨fun h => ByteArray.ext (Array.toList_inj.1 h), fun h => by rw [h]⟩

theorem or2_zero {a b : Int} : or2 a b = 0 ↔ a = 0 ∧ b = 0 := by
  unfold or2
  split <;> omega

theorem nrm_k (v : V) : (nrm v).k = v.k := by
  obtain ⟨k, i, t, s, l⟩ := v
  unfold nrm
  (repeat' split) <;> rfl
mutual

theorem cmpV_zero : ∀ a b : V, cmpV a b = 0 ↔ nrm a = nrm b
  | .mk k i t s l, .mk k' i' t' s' l' => by
    by_cases hk : k = k'
    · subst hk
      rw [cmpV, if_pos rfl]
      unfold nrm
      by_cases h1 : k = 1 ∨ k = 2 ∨ k = 4
      · simp only [if_pos h1, V.mk.injEq, true_and, and_true]
        exact cmp3_zero
      · simp only [if_neg h1]
        by_cases h5 : k = 5
        · simp only [if_pos h5, V.mk.injEq, true_and, and_true]
          rw [or2_zero, cmp3_zero, cmp3_zero]
        · simp only [if_neg h5]
          by_cases h3 : k = 3 ∨ k = 6
          · simp only [if_pos h3, V.mk.injEq, true_and, and_true]
            exact str_zero
          · simp only [if_neg h3]
            by_cases h7 : k = 7
            · simp only [if_pos h7, V.mk.injEq, true_and]
              exact cmpL_zero l l'
            · simp only [if_neg h7]
    · rw [cmpV, if_neg hk]
      refine ⟨fun h => absurd (cmp3_zero.1 h) hk, fun h => ?_⟩
      have := congrArg V.k h
      rw [nrm_k, nrm_k] at this
      exact absurd this hk

theorem cmpL_zero : ∀ a b : List V, cmpL a b = 0 ↔ nrmL a = nrmL b
  | [], [] => by simp [cmpL, nrmL]
  | [], _ :: _ => by simp [cmpL, nrmL]
  | _ :: _, [] => by simp [cmpL, nrmL]
  | x :: xs, y :: ys => by
    have h1 := cmpV_zero x y
    have h2 := cmpL_zero xs ys
    rw [cmpL]
    simp only [nrmL, List.cons.injEq]
    by_cases h : cmpV x y = 0
    · rw [if_pos h, h2]
      exact ⟨fun e => ⟨h1.1 h, e⟩, fun e => e.2⟩
    · rw [if_neg h]
      exact ⟨fun e => absurd e h, fun e => absurd (h1.2 e.1) h⟩
end

/-- Alike to Compare. -/
def eqv (a b : V) : Bool := cmpV a b == 0

theorem eqv_iff {a b : V} : eqv a b = true ↔ nrm a = nrm b := by
  unfold eqv
  rw [beq_iff_eq]
  exact cmpV_zero a b

theorem eqv_comm (a b : V) : eqv a b = eqv b a := by
  rw [Bool.eq_iff_iff, eqv_iff, eqv_iff]
  exact eq_comm

/-- Is a value, or one alike to it, in a list? -/
def hasV (l : List V) (x : V) : Bool := l.any fun y => eqv y x

theorem hasV_iff {l : List V} {x : V} : hasV l x = true ↔ ∃ y ∈ l, nrm y = nrm x := by
  unfold hasV
  rw [List.any_eq_true]
  simp only [eqv_iff]

theorem hasV_eq {l : List V} {x y : V} (h : nrm x = nrm y) : hasV l x = hasV l y := by
  rw [Bool.eq_iff_iff, hasV_iff, hasV_iff, h]

def putV (out : List V) (v : V) : List V := if hasV out v = true then out else out ++ [v]

theorem putV_has {out : List V} {v : V} : hasV (putV out v) v = true := by
  unfold putV
  split
  · assumption
  · exact hasV_iff.2 ⟨v, by simp, rfl⟩

theorem putV_keep {out : List V} {v x : V} (h : hasV out x = true) : hasV (putV out v) x = true := by
  unfold putV
  split
  · exact h
  · obtain ⟨y, hy, e⟩ := hasV_iff.1 h
    exact hasV_iff.2 ⟨y, by simp [hy], e⟩

/-- One loop over a list: those that are wanted are put. -/
def putAll (c : V → Bool) (out : List V) : List V → List V
  | [] => out
  | v :: l => putAll c (if c v = true then putV out v else out) l

theorem putAll_keep {c : V → Bool} {x : V} : ∀ (l out : List V), hasV out x = true → hasV (putAll c out l) x = true
  | [], _, h => h
  | v :: l, out, h => by
    unfold putAll
    refine putAll_keep l _ ?_
    split
    · exact putV_keep h
    · exact h

theorem putAll_has {c : V → Bool} {x : V} : ∀ (l out : List V), x ∈ l → c x = true → hasV (putAll c out l) x = true
  | v :: l, out, hm, hc => by
    unfold putAll
    rcases List.mem_cons.1 hm with rfl | hm
    · rw [if_pos hc]
      exact putAll_keep l _ putV_has
    · exact putAll_has l _ hm hc

theorem putAll_same {c d : V → Bool} : ∀ (l out : List V), (∀ v, c v = true → d v = true) → (∀ v, d v = true → c v = false → hasV out v = true) → putAll c out l = putAll d out l
  | [], _, _, _ => rfl
  | v :: l, out, h1, h2 => by
    unfold putAll
    cases hc : c v with
    | true =>
      rw [if_pos rfl, if_pos (h1 v hc)]
      exact putAll_same l _ h1 (fun x hd hx => putV_keep (h2 x hd hx))
    | false =>
      rw [if_neg (by decide)]
      cases hd : d v with
      | false =>
        rw [if_neg (by decide)]
        exact putAll_same l _ h1 h2
      | true =>
        rw [if_pos rfl]
        have e : putV out v = out := if_pos (h2 v hd hc)
        rw [e]
        exact putAll_same l _ h1 h2

def m1 (base a b : List V) : List V := putAll (fun v => hasV a v && hasV b v) [] base

def m2 (base a b : List V) : List V := putAll (fun v => !hasV base v) (m1 base a b) a

/-- What three lists of items become. -/
def mItems (base a b : List V) : List V := putAll (fun v => !hasV base v && !hasV a v) (m2 base a b) b

theorem mItems_ref (base a b : List V) : mItems base a b = putAll (fun v => !hasV base v) (m2 base a b) b := by
  unfold mItems
  refine putAll_same b _ (fun v h => ?_) (fun v hd hc => ?_)
  · rw [Bool.and_eq_true] at h
    exact h.1
  · have hb : hasV base v = false := by simpa using hd
    have ha : hasV a v = true := by
      rw [hb] at hc
      simpa using hc
    obtain ⟨y, hy, e⟩ := hasV_iff.1 ha
    rw [← hasV_eq e]
    exact putAll_has a _ hy (by rw [hasV_eq e, hb]; rfl)

theorem putV_len (out : List V) (v : V) : (putV out v).length ≤ out.length + 1 := by
  unfold putV
  split
  · omega
  · simp

theorem putAll_len {c : V → Bool} : ∀ (l out : List V), (putAll c out l).length ≤ out.length + l.length
  | [], out => by simp [putAll]
  | v :: l, out => by
    unfold putAll
    have h1 := putAll_len (c := c) l (if c v = true then putV out v else out)
    have h2 := putV_len out v
    simp only [List.length_cons]
    split at h1
    · rw [if_pos (by assumption)]; omega
    · rw [if_neg (by assumption)]; omega

def listed (v : V) : Bool := v.k == 0 || v.k == 7

/-- What three values become; whether they clash. -/
def mValue (base a b : V) : V × Bool :=
  if eqv a base = true then (b, false) else if (eqv b base || eqv a b) = true then (a, false)
  else if (listed base && listed a && listed b) = true ∧ (mItems base.l a.l b.l).length ≤ 20 then (.mk 7 0 0 ⟨#[]⟩ (mItems base.l a.l b.l), false)
  else if a.k ≠ 0 then (a, true) else (b, true)

end Go.Proofs.YtdncmjlakmkfiaaGreatDoor
