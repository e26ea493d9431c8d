/-
  PLAIN AND WALK: values in memory with their places; slices.Clone at values; what a fold says.
-/
import Derived.Test.YtfnooipkghfmoaaDoorCfa
import Derived.Test.YtfnooipkghfmoaaDoorPvg
set_option linter.all false
namespace Go.Proofs.YtfnooipkghfmoaaDoor
open Go.RowKit Go.Lib

theorem addr_addV (b o j : Nat) : (⟨b, o, none⟩ : Addr).add j = ⟨b, o + j, none⟩ := by unfold Addr.add; split <;> simp_all
theorem ownK_of_ownsV {w : World} {base : Nat} {e : TypeId} {K n : Nat} {v : Value} {xs : List Value} (h : w.ownsRow base e K v n xs) : OwnK K e w base v n xs := by
  obtain ⟨h1, h2⟩ := h
  rcases h2 with ⟨rfl, rfl⟩ | ⟨g, cap, cur, rfl, hb, hh, h3, h4, h5, h6⟩
  · exact ⟨h1, none, 0, rfl, Nat.le_refl _, by simp [maxLen], .inl ⟨rfl, rfl, rfl⟩⟩
  · exact ⟨h1, _, cap, rfl, h3, h4, .inr ⟨g, cur, rfl, hb, hh, by omega, h6⟩⟩
section
variable {w0 : World}
/-- Values in memory, with the places of their items. -/
structure VsC (w : World) (A : Option Addr) (xs : List (In0 w0)) : Prop where
  len : xs.length ≤ maxLen
  cells : 0 < xs.length → ∃ b o, A = some ⟨b, o, none⟩ ∧ b < w.heap.size ∧ ∀ j (h : j < xs.length) i, i < 5 → w.cell? ⟨b, o + j * 5 + i, none⟩ = xs[j].cells[i]?
variable {w w' : World} {A : Option Addr} {xs : List (In0 w0)}
theorem VsC.below (h : VsC w A xs) (hb : Below w.heap.size w w') : VsC w' A xs :=
  ⟨h.len, fun hl => by
    obtain ⟨b, o, hA, hlt, hc⟩ := h.cells hl
    exact ⟨b, o, hA, Nat.lt_of_lt_of_le hlt hb.size, fun j hj i hi => (hb.cell (p := ⟨b, o + j * 5 + i, none⟩) hlt).trans (hc j hj i hi)⟩⟩
theorem VsC.of_own {base n c : Nat} (h : OwnK 5 24 w base (.slice A n c) n (flat0 xs)) : n = xs.length ∧ VsC w A xs := by
  obtain ⟨hl, A', c', hv, h1, h2, h3⟩ := h
  injection hv with e1 e2 e3
  subst e1 e3
  unfold flat0 at hl h3
  rw [flatE_len cells5] at hl
  obtain rfl : n = xs.length := by omega
  refine ⟨rfl, by omega, fun hp => ?_⟩
  rcases h3 with ⟨_, h0, _⟩ | ⟨g, cur, hA, hg, hb, h4, h5⟩
  · omega
  · refine ⟨g, 0, hA, (Array.getElem?_eq_some_iff.1 hb).1, fun j hj i hi => ?_⟩
    rw [← flatE_get cells5 xs j i hj hi, Nat.zero_add, cell_of_row w g _ cur _ (0, 0) hb, ← h5, List.getElem?_take_of_lt (by omega)]
    simp
theorem VsC.flat {b o : Nat} (h : ∀ j (h : j < xs.length) i, i < 5 → w.cell? ⟨b, o + j * 5 + i, none⟩ = xs[j].cells[i]?) : ∀ (j : Nat) (u : Value), (flat0 xs)[j]? = some u → w.cell? ((⟨b, o, none⟩ : Addr).add j) = some u := by
  intro j u hu
  have hj : j < xs.length * 5 := by
    rcases Nat.lt_or_ge j (xs.length * 5) with h | h
    · exact h
    · rw [List.getElem?_eq_none (by unfold flat0; rw [flatE_len cells5]; exact h)] at hu; cases hu
  have hq : j / 5 < xs.length := by omega
  have he : j = j / 5 * 5 + j % 5 := by omega
  have hadd := addr_addV b o j
  have h1 := h (j / 5) hq (j % 5) (by omega)
  have h2 := flatE_get cells5 xs (j / 5) (j % 5) hq (by omega)
  rw [← he] at h2
  unfold flat0 at hu
  rw [← h2, hu, show o + j / 5 * 5 + j % 5 = o + j by omega] at h1
  rw [hadd]
  exact h1
theorem flat0_one (xs : List (In0 w0)) : ∀ u ∈ flat0 xs, u.oneCell' = true := by
  intro u hu
  obtain ⟨x, _, hx⟩ := List.mem_flatMap.1 hu
  simp only [In0.cells, CVal.cells, List.mem_cons, List.not_mem_nil, or_false] at hx
  rcases hx with rfl | rfl | rfl | rfl | rfl <;> rfl

/-- A row's own copy, items where they were. -/
def CloneOut (xs : List (In0 w0)) (w : World) (e : Ending) (w' : World) : Prop := ∃ A c, e = .returned (.slice A xs.length c) ∧ OwnK 5 24 w' w.heap.size (.slice A xs.length c) xs.length (flat0 xs) ∧ Below w.heap.size w w'
end

set_option maxHeartbeats 1600000 in
theorem cloneVs_any {w0 : World} (A : Option Addr) (c : Nat) (xs : List (In0 w0)) (w : World) (hA : VsC w A xs) (hlen : xs.length ≤ 5000) :
    Calls Tryd.prog 51 #[.slice A xs.length c] w (CloneOut xs w) := by
  have qT : ∀ (w : World) (a : Option Addr) (n c n' c' : Nat), (binOp .eql 22 (.slice a n c) (.slice none n' c')).run Tryd.prog w = .ok (.bool a.isNone) w := fun w a n c n' c' => Lib.run_eql_slice_nil w _ _ a n c n' c' Tryd.underlying22
  cases A with
  | none =>
    have h0 : xs = [] := by
      rcases Nat.eq_zero_or_pos xs.length with h | h
      · exact List.length_eq_zero_iff.1 h
      · obtain ⟨b, o, hb, _⟩ := hA.cells h
        cases hb
    subst h0
    go_enter Tryd.func51, Tryd.ntmps51
    go_wp2
    go_ret
    exact ⟨none, 0, rfl, OwnK.empty, Below.refl _ _⟩
  | some a =>
    have hown : (w.alloc (.cells #[] 24)).ownsRow w.heap.size 24 5 (.slice (some ⟨w.heap.size, 0, none⟩) 0 0) 0 [] :=
      ⟨rfl, .inr ⟨w.heap.size, 0, #[], rfl, Nat.le_refl _, heap_alloc_new w _, Nat.le_refl _, by simp [maxLen], rfl, rfl⟩⟩
    have hnews : ∀ (j : Nat) (u : Value), (flat0 xs)[j]? = some u → (w.alloc (.cells #[] 24)).cell? (a.add j) = some u := by
      intro j u hu
      by_cases hx : 0 < xs.length
      · obtain ⟨b, off, hab, hb, hc⟩ := (hA.below (bl_alloc (Below.refl _ _) (.cells #[] 24))).cells hx
        injection hab with hab
        subst hab
        exact VsC.flat hc j u hu
      · obtain rfl : xs = [] := List.length_eq_zero_iff.1 (by omega)
        simp [flat0] at hu
    have hfl : (flat0 xs).length = xs.length * 5 := flatE_len cells5 xs
    obtain ⟨i0, hi, hz0, hz1, hz2⟩ := info_parts info_val
    have HO := hide hown
    have HN := hide hnews
    clear hown hnews hA
    go_enter Tryd.func51, Tryd.ntmps51
    go_wp2_with (at_builtin; refine wpList_append_own _ rfl (.tmp 5) (.tmp 6) 22 rfl w.heap.size 24 i0 (.agg #[.int .i64 0, .int .i64 0, .int .i64 0, .string ByteArray.empty, .slice none 0 0]) 5 64 Tryd.underlying22 hi hz0 hz1 hz2 rfl (by decide) _ 0 [] rfl HO.out a xs.length c (flat0 xs) rfl hfl HN.out (flat0_one xs) ?c1 ?c2 ?c3 ?_)
    case c1 => unfold maxLen; omega
    case c2 => omega
    case c3 => simp
    intro v' w1 hown1 hgrow1 _
    have hbw : Below w.heap.size w w1 := (Below.alloc (Below.refl _ _) (Nat.le_refl _) _).grown hgrow1 (by simp) (fun k hk => by simp [Value.ownBlock] at hk; omega)
    have hok := ownK_of_ownsV hown1
    obtain ⟨A1, c1, rfl, _⟩ := ownK_form hok
    have HF : CloneOut xs w (.returned (.slice A1 xs.length c1)) w1 := ⟨A1, c1, rfl, hok, hbw⟩
    have HFF := hide HF
    clear HF hown1 hgrow1 hbw hok
    go_wp2
    go_ret
    exact HFF.out

section
variable {w0 : World}
def isNum (q : In0 w0) : Bool := q.1.x.k == 2
/-- The sum of the numbers, and how many there are. -/
def sumN (xs : List (In0 w0)) : Int := (xs.map fun q => if isNum q then q.1.x.i else 0).sum
def cntN (xs : List (In0 w0)) : Nat := (xs.filter isNum).length
theorem sumN_snoc (xs : List (In0 w0)) (q : In0 w0) : sumN (xs ++ [q]) = sumN xs + (if isNum q then q.1.x.i else 0) := by
  unfold sumN
  simp
theorem cntN_snoc (xs : List (In0 w0)) (q : In0 w0) : cntN (xs ++ [q]) = cntN xs + (if isNum q then 1 else 0) := by
  unfold cntN
  rw [List.filter_append, List.length_append]
  cases h : isNum q <;> simp [h]
def NumsIn (xs : List (In0 w0)) : Prop := ∀ q ∈ xs, isNum q = true → -1000000000 ≤ q.1.x.i ∧ q.1.x.i ≤ 1000000000
theorem sumN_in : ∀ {xs : List (In0 w0)}, NumsIn xs → -(1000000000 * (xs.length : Int)) ≤ sumN xs ∧ sumN xs ≤ 1000000000 * (xs.length : Int)
  | [], _ => by simp [sumN]
  | q :: xs, h => by
    have ih := sumN_in (xs := xs) (fun q hq => h q (List.mem_cons_of_mem _ hq))
    have h1 : sumN (q :: xs) = (if isNum q then q.1.x.i else 0) + sumN xs := by simp [sumN]
    have h2 := h q List.mem_cons_self
    rw [h1, List.length_cons]
    cases hn : isNum q with
    | true =>
      have := h2 hn
      simp only [if_true]
      omega
    | false =>
      simp only [Bool.false_eq_true, if_false]
      omega
theorem cntN_le (xs : List (In0 w0)) : cntN xs ≤ xs.length := List.length_filter_le _ _
def numV (n : Int) : V := .mk 2 n 0 ⟨#[]⟩ []
def zeroV : V := .mk 0 0 0 ⟨#[]⟩ []
/-- What a fold says of values of which none is None. -/
def foldR (how : Int) (xs : List (In0 w0)) : V × Int :=
  if how = 1 then (numV xs.length, 0) else
  if how = 2 then (numV (cntZ (stL xs) xs.length), 0) else
  if how = 3 then (if sumN xs < -1000000000 ∨ 1000000000 < sumN xs then (zeroV, 2) else (numV (sumN xs), 0)) else
  if how = 6 then (if cntN xs = 0 then (zeroV, 0) else (numV (sumN xs / cntN xs), 0)) else
  if xs.length = 0 then (zeroV, 0) else
  if how = 4 then ((stL xs)[0]!.1.x, 0) else ((stL xs)[xs.length - 1]!.1.x, 0)
end
/-- A value and an error are handed back. -/
def FoldOut (r : V × Int) (w : World) (e : Ending) (w' : World) : Prop :=
  ∃ A c, e = .returned (.tuple #[r.1.arg A c, .int .i64 r.2]) ∧ LAt w' A r.1.l ∧ Below w.heap.size w w'

end Go.Proofs.YtfnooipkghfmoaaDoor
