/-
  WALKS: slices.Clone, slices.Clip and slices.Equal at states; a block among new ones laid bare.
-/
import Derived.Test.YtokghdcfbbogdaaStates
import Derived.Test.YtokghdcfbbogdaaInts
import Derived.BigQuiet
import Derived.WideShapes
namespace Go.Proofs.Ytokghdcfbbogdaa
open Go.RowKit

/-- The cells of a state, of a list of states. -/
def stCells (x : St) : List Value := [.int .i64 x.bl, .int .i64 x.no, .int .i64 x.st, .int .i64 x.ea, .int .i64 x.du, .int .i64 x.la, .int .i64 x.ti, .int .i64 x.lp, .int .i64 x.bu]
def flat (xs : List St) : List Value := xs.flatMap stCells
theorem flat_len (xs : List St) : (flat xs).length = xs.length * 9 := by
  induction xs with
  | nil => rfl
  | cons x xs ih => simp only [flat, List.flatMap_cons, List.length_append, List.length_cons] at ih ⊢; rw [ih]; simp [stCells]; omega
theorem flat_one (xs : List St) : ∀ u ∈ flat xs, u.oneCell' = true := by
  intro u hu
  obtain ⟨x, _, hx⟩ := List.mem_flatMap.1 hu
  simp [stCells] at hx
  rcases hx with rfl | rfl | rfl | rfl | rfl | rfl | rfl | rfl | rfl <;> rfl
theorem flat_get (xs : List St) : ∀ (j i : Nat) (h : j < xs.length), i < 9 → (flat xs)[j * 9 + i]? = (stCells xs[j])[i]? := by
  induction xs with
  | nil => intro j i h; simp at h
  | cons x xs ih =>
    intro j i h hi
    have hl : (stCells x).length = 9 := rfl
    cases j with
    | zero =>
      show (stCells x ++ flat xs)[0 * 9 + i]? = _
      rw [List.getElem?_append_left (by omega)]; simp
    | succ j =>
      show (stCells x ++ flat xs)[(j + 1) * 9 + i]? = _
      rw [List.getElem?_append_right (by omega), hl, show (j + 1) * 9 + i - 9 = j * 9 + i by omega]
      exact ih j i (by simpa using h) hi

/-- The cells behind an address, of a list of states. -/
theorem flat_cells {w : World} {b off : Nat} {xs : List St} (h : ∀ j (h : j < xs.length), StCells w b (off + j * 9) xs[j]) : ∀ (j : Nat) (u : Value), (flat xs)[j]? = some u → w.cell? ((⟨b, off, none⟩ : Addr).add j) = some u := by
  intro j u hu
  have hj : j < xs.length * 9 := by
    rcases Nat.lt_or_ge j (xs.length * 9) with h | h
    · exact h
    · rw [List.getElem?_eq_none (by rw [flat_len]; exact h)] at hu; cases hu
  have hq : j / 9 < xs.length := by omega
  have hr : j % 9 < 9 := by omega
  have he : j = j / 9 * 9 + j % 9 := by omega
  have hadd : (⟨b, off, none⟩ : Addr).add j = ⟨b, off + j, none⟩ := Go.WideShapes.add_plain b off j
  rw [hadd]
  rw [he, flat_get xs _ _ hq hr] at hu
  obtain ⟨h0, h1, h2, h3, h4, h5, h6, h7, h8⟩ := h (j / 9) hq
  generalize xs[j / 9] = x at hu h0 h1 h2 h3 h4 h5 h6 h7 h8
  have hoff : off + j = off + j / 9 * 9 + j % 9 := by omega
  rw [hoff]
  generalize j / 9 = q at *
  match hm : j % 9, hr with
  | 0, _ => rw [hm] at hu; simp [stCells] at hu; subst hu; exact h0
  | 1, _ => rw [hm] at hu; simp [stCells] at hu; subst hu; exact h1
  | 2, _ => rw [hm] at hu; simp [stCells] at hu; subst hu; exact h2
  | 3, _ => rw [hm] at hu; simp [stCells] at hu; subst hu; exact h3
  | 4, _ => rw [hm] at hu; simp [stCells] at hu; subst hu; exact h4
  | 5, _ => rw [hm] at hu; simp [stCells] at hu; subst hu; exact h5
  | 6, _ => rw [hm] at hu; simp [stCells] at hu; subst hu; exact h6
  | 7, _ => rw [hm] at hu; simp [stCells] at hu; subst hu; exact h7
  | 8, _ => rw [hm] at hu; simp [stCells] at hu; subst hu; exact h8

/-- A block whose cells begin with those of a list of states. -/
theorem stsAt_of_cells {w : World} {g : Nat} {t : TypeId} {cs : Array Value} {xs : List St} (hg : Blk w g t cs) (h : ∀ j i (_ : j < xs.length), i < 9 → cs[j * 9 + i]? = (stCells xs[j])[i]?) : StsAt w (some ⟨g, 0, none⟩) xs := fun _ => by
  refine ⟨g, 0, rfl, hg.lt, fun j hj => ?_⟩
  have hc : ∀ i, i < 9 → w.cell? ⟨g, j * 9 + i, none⟩ = (stCells xs[j])[i]? := fun i hi => (hg.cell _).trans (h j i hj hi)
  simp only [Nat.zero_add]
  exact ⟨hc 0 (by omega), hc 1 (by omega), hc 2 (by omega), hc 3 (by omega), hc 4 (by omega), hc 5 (by omega), hc 6 (by omega), hc 7 (by omega), hc 8 (by omega)⟩

/-- A block among the new ones laid bare. -/
theorem bare {w w' : World} (hb : Below w.heap.size w w') {g : Nat} {t : TypeId} {cs : Array Value} (hg : Blk w' g t cs) (hge : w.heap.size ≤ g) :
    ∃ os n os' n', w' = plus ((plus w os n).alloc (.cells cs t)) os' n' ∧ g = w.heap.size + os.size := by
  obtain ⟨os, n, rfl⟩ := below_plus hb
  have hlt := hg.lt
  rw [plus_size] at hlt
  have ho : os[g - w.heap.size]? = some (.cells cs t (0, 0)) := by
    have := hg
    unfold Blk plus at this
    simp only [Array.getElem?_append] at this
    rwa [if_neg (by omega)] at this
  have hk : g - w.heap.size < os.size := by omega
  refine ⟨os.extract 0 (g - w.heap.size), n, os.extract (g - w.heap.size + 1) os.size, n, ?_, by simp; omega⟩
  rw [plus_alloc, plus_plus]
  congr 1
  apply Array.ext_getElem?
  intro i
  simp only [Array.getElem?_append, Array.size_push, Array.size_extract, Array.getElem?_push, Array.getElem?_extract]
  by_cases h1 : i < g - w.heap.size
  · rw [if_pos (by omega), if_neg (by omega), if_pos (by omega)]; simp
  · by_cases h2 : i = g - w.heap.size
    · subst h2
      rw [if_pos (by omega), if_pos (by omega)]
      exact ho
    · rw [if_neg (by omega)]
      by_cases h3 : i < os.size
      · rw [if_pos (by omega)]; congr 1; omega
      · rw [if_neg (by omega), Array.getElem?_eq_none (by omega)]

end Go.Proofs.Ytokghdcfbbogdaa
/-
  PLAIN: one state of a row of states set anew; GradeAt and Bury as Lean functions.
-/
namespace Go.Proofs.Ytokghdcfbbogdaa
open Go.RowKit

/-- A row of states. -/
def RowOf (cs : Array Value) (xs : List St) : Prop := ∀ j i (_ : j < xs.length), i < 9 → cs[j * 9 + i]? = (stCells xs[j])[i]?

theorem own_bare {w : World} {base n : Nat} {e : TypeId} {v : Value} {xs : List St} (h : w.ownsRow base e 9 v n (flat xs)) (hn : 0 < n) :
    ∃ g cs cap, v = .slice (some ⟨g, 0, none⟩) n cap ∧ base ≤ g ∧ Blk w g e cs ∧ n ≤ cap ∧ cap ≤ maxLen ∧ RowOf cs xs := by
  rcases h.2 with ⟨_, h0⟩ | ⟨g, cap, cur, hv, hb, hh, h1, h2, h3, h4⟩
  · omega
  · refine ⟨g, cur, cap, hv, hb, hh, h1, h2, fun j i hj hi => ?_⟩
    have hl := h.1
    rw [flat_len] at hl
    have := flat_get xs j i hj hi
    rw [← h4, List.getElem?_take_of_lt (by omega)] at this
    simpa using this

theorem get_set_ne {cs : Array Value} {p q : Nat} {v : Value} (h : p ≠ q) : (cs.setIfInBounds p v)[q]? = cs[q]? := by
  rw [Array.getElem?_setIfInBounds, if_neg h]
theorem get_set_eq {cs : Array Value} {p : Nat} {v u : Value} (h : cs[p]? = some u) : (cs.setIfInBounds p v)[p]? = some v := by
  have hl : p < cs.size := by
    rcases Nat.lt_or_ge p cs.size with h' | h'
    · exact h'
    · rw [Array.getElem?_eq_none h'] at h; cases h
  rw [Array.getElem?_setIfInBounds, if_pos rfl, if_pos hl]

theorem RowOf.at_ {cs : Array Value} {xs : List St} (h : RowOf cs xs) {k : Nat} (hk : k < xs.length) {x : St} (hx : xs[k] = x) :
    cs[k * 9]? = some (.int .i64 x.bl) ∧ cs[k * 9 + 1]? = some (.int .i64 x.no) ∧ cs[k * 9 + 2]? = some (.int .i64 x.st) ∧ cs[k * 9 + 3]? = some (.int .i64 x.ea) ∧ cs[k * 9 + 4]? = some (.int .i64 x.du) ∧
    cs[k * 9 + 5]? = some (.int .i64 x.la) ∧ cs[k * 9 + 6]? = some (.int .i64 x.ti) ∧ cs[k * 9 + 7]? = some (.int .i64 x.lp) ∧ cs[k * 9 + 8]? = some (.int .i64 x.bu) := by
  subst hx
  exact ⟨h k 0 hk (by omega), h k 1 hk (by omega), h k 2 hk (by omega), h k 3 hk (by omega), h k 4 hk (by omega), h k 5 hk (by omega), h k 6 hk (by omega), h k 7 hk (by omega), h k 8 hk (by omega)⟩

/-- A state stored into its place. -/
theorem RowOf.set9 {cs : Array Value} {xs : List St} (h : RowOf cs xs) {k : Nat} (hk : k < xs.length) (y : St) :
    RowOf (((((((((cs.setIfInBounds (k * 9) (.int .i64 y.bl)).setIfInBounds (k * 9 + 1) (.int .i64 y.no)).setIfInBounds (k * 9 + 2) (.int .i64 y.st)).setIfInBounds (k * 9 + 3) (.int .i64 y.ea)).setIfInBounds (k * 9 + 4) (.int .i64 y.du)).setIfInBounds (k * 9 + 5) (.int .i64 y.la)).setIfInBounds (k * 9 + 6) (.int .i64 y.ti)).setIfInBounds (k * 9 + 7) (.int .i64 y.lp)).setIfInBounds (k * 9 + 8) (.int .i64 y.bu)) (xs.set k y) := by
  intro j i hj hi
  have hj' : j < xs.length := by simpa using hj
  by_cases hjk : j = k
  · subst hjk
    rw [List.getElem_set_self]
    obtain ⟨a0, a1, a2, a3, a4, a5, a6, a7, a8⟩ := h.at_ hk rfl
    match i, hi with
    | 0, _ =>
      rw [get_set_ne (by omega), get_set_ne (by omega), get_set_ne (by omega), get_set_ne (by omega), get_set_ne (by omega), get_set_ne (by omega), get_set_ne (by omega), get_set_ne (by omega)]
      exact get_set_eq a0
    | 1, _ => rw [get_set_ne (by omega), get_set_ne (by omega), get_set_ne (by omega), get_set_ne (by omega), get_set_ne (by omega), get_set_ne (by omega), get_set_ne (by omega), get_set_eq (u := .int .i64 xs[j].no) (by rw [get_set_ne (by omega)]; exact a1)]; rfl
    | 2, _ => rw [get_set_ne (by omega), get_set_ne (by omega), get_set_ne (by omega), get_set_ne (by omega), get_set_ne (by omega), get_set_ne (by omega), get_set_eq (u := .int .i64 xs[j].st) (by rw [get_set_ne (by omega), get_set_ne (by omega)]; exact a2)]; rfl
    | 3, _ => rw [get_set_ne (by omega), get_set_ne (by omega), get_set_ne (by omega), get_set_ne (by omega), get_set_ne (by omega), get_set_eq (u := .int .i64 xs[j].ea) (by rw [get_set_ne (by omega), get_set_ne (by omega), get_set_ne (by omega)]; exact a3)]; rfl
    | 4, _ => rw [get_set_ne (by omega), get_set_ne (by omega), get_set_ne (by omega), get_set_ne (by omega), get_set_eq (u := .int .i64 xs[j].du) (by rw [get_set_ne (by omega), get_set_ne (by omega), get_set_ne (by omega), get_set_ne (by omega)]; exact a4)]; rfl
    | 5, _ => rw [get_set_ne (by omega), get_set_ne (by omega), get_set_ne (by omega), get_set_eq (u := .int .i64 xs[j].la) (by rw [get_set_ne (by omega), get_set_ne (by omega), get_set_ne (by omega), get_set_ne (by omega), get_set_ne (by omega)]; exact a5)]; rfl
    | 6, _ => rw [get_set_ne (by omega), get_set_ne (by omega), get_set_eq (u := .int .i64 xs[j].ti) (by rw [get_set_ne (by omega), get_set_ne (by omega), get_set_ne (by omega), get_set_ne (by omega), get_set_ne (by omega), get_set_ne (by omega)]; exact a6)]; rfl
    | 7, _ => rw [get_set_ne (by omega), get_set_eq (u := .int .i64 xs[j].lp) (by rw [get_set_ne (by omega), get_set_ne (by omega), get_set_ne (by omega), get_set_ne (by omega), get_set_ne (by omega), get_set_ne (by omega), get_set_ne (by omega)]; exact a7)]; rfl
    | 8, _ => rw [get_set_eq (u := .int .i64 xs[j].bu) (by rw [get_set_ne (by omega), get_set_ne (by omega), get_set_ne (by omega), get_set_ne (by omega), get_set_ne (by omega), get_set_ne (by omega), get_set_ne (by omega), get_set_ne (by omega)]; exact a8)]; rfl
  · rw [List.getElem_set_ne (fun e => hjk e.symm), get_set_ne (by omega), get_set_ne (by omega), get_set_ne (by omega), get_set_ne (by omega), get_set_ne (by omega), get_set_ne (by omega), get_set_ne (by omega), get_set_ne (by omega), get_set_ne (by omega)]
    exact h j i hj' hi

/-- The last field of a state stored. -/
theorem RowOf.set_bu {cs : Array Value} {xs : List St} (h : RowOf cs xs) {k : Nat} (hk : k < xs.length) (d : Int) :
    RowOf (cs.setIfInBounds (k * 9 + 8) (.int .i64 d)) (xs.set k { xs[k] with bu := d }) := by
  intro j i hj hi
  have hj' : j < xs.length := by simpa using hj
  by_cases hjk : j = k
  · subst hjk
    rw [List.getElem_set_self]
    obtain ⟨a0, a1, a2, a3, a4, a5, a6, a7, a8⟩ := h.at_ hk rfl
    match i, hi with
    | 0, _ => rw [get_set_ne (by omega)]; exact a0
    | 1, _ => rw [get_set_ne (by omega)]; exact a1
    | 2, _ => rw [get_set_ne (by omega)]; exact a2
    | 3, _ => rw [get_set_ne (by omega)]; exact a3
    | 4, _ => rw [get_set_ne (by omega)]; exact a4
    | 5, _ => rw [get_set_ne (by omega)]; exact a5
    | 6, _ => rw [get_set_ne (by omega)]; exact a6
    | 7, _ => rw [get_set_ne (by omega)]; exact a7
    | 8, _ => rw [get_set_eq a8]; rfl
  · rw [List.getElem_set_ne (fun e => hjk e.symm), get_set_ne (by omega)]
    exact h j i hj' hi

def gradeAt (xs : List St) (p g d : Int) : List St × Int :=
  if statesErr xs = 0 then (if p < 0 ∨ (xs.length : Int) ≤ p then ([], 7) else
    match xs[p.toNat]? with
    | none => ([], 7)
    | some x => if (x.grade g d).2 = 0 then (xs.set p.toNat (x.grade g d).1, 0) else ([], (x.grade g d).2)) else ([], statesErr xs)

def bury (xs : List St) (p d : Int) : List St × Int :=
  if statesErr xs = 0 then (if p < 0 ∨ (xs.length : Int) ≤ p then ([], 7) else if d < 0 ∨ 100000 < d then ([], 2) else
    match xs[p.toNat]? with
    | none => ([], 7)
    | some x => (xs.set p.toNat { x with bu := d }, 0)) else ([], statesErr xs)

theorem len_of_statesErr {xs : List St} (h : statesErr xs = 0) : xs.length ≤ 5000 := by
  unfold statesErr at h
  by_cases hl : 5000 < xs.length
  · rw [if_pos hl] at h; omega
  · omega

end Go.Proofs.Ytokghdcfbbogdaa
/-
  WALKS: slices.Clone, slices.Clip and slices.Equal at states.
-/
namespace Go.Proofs.Ytokghdcfbbogdaa
open Go.RowKit

theorem run_neq_st (a0 a1 a2 a3 a4 a5 a6 a7 a8 : Int) (w : World) :
    (binOp .neq 24 (.agg #[.int .i64 a0, .int .i64 a1, .int .i64 a2, .int .i64 a3, .int .i64 a4, .int .i64 a5, .int .i64 a6, .int .i64 a7, .int .i64 a8]) (.agg #[.int .i64 a0, .int .i64 a1, .int .i64 a2, .int .i64 a3, .int .i64 a4, .int .i64 a5, .int .i64 a6, .int .i64 a7, .int .i64 a8])).run Try.prog w = .ok (.bool false) w := by
  simp [go_sem]
attribute [local go_sem ↓] run_neq_st

set_option maxHeartbeats 800000 in
set_option maxRecDepth 100000 in
theorem equalSts_same (A B : Option Addr) (c c' : Nat) (xs : List St) (w : World) (hA : StsAt w A xs) (hB : StsAt w B xs) (hm : xs.length ≤ maxLen) :
    Calls Try.prog 24 #[.slice A xs.length c, .slice B xs.length c'] w fun e w' => e = .returned (.bool true) ∧ Below w.heap.size w w' := by
  unfold maxLen at hm
  have HA := hide hA
  have HB := hide hB
  clear hA hB
  go_enter Try.func24, Try.ntmps24
  go_wp2
  go_loopw [13] (fun i wr => ∃ (k n : Nat), k ≤ xs.length ∧ i = .int .i64 k ∧ wr = w.drewN n) (fun i _ => xs.length - (intOf i).toNat)
  case atStart => exact ⟨0, 0, Nat.zero_le _, rfl, rfl⟩
  case round =>
    obtain ⟨k, n, hk, rfl, rfl⟩ := hrel
    by_cases hlt : k < xs.length
    · obtain ⟨b, off, rfl, hb, hcell⟩ := HA.out (by omega)
      obtain ⟨b', off', rfl, hb', hcell'⟩ := HB.out (by omega)
      obtain ⟨c0, c1, c2, c3, c4, c5, c6, c7, c8⟩ := hcell k hlt
      obtain ⟨d0, d1, d2, d3, d4, d5, d6, d7, d8⟩ := hcell' k hlt
      generalize xs[k] = x at c0 c1 c2 c3 c4 c5 c6 c7 c8 d0 d1 d2 d3 d4 d5 d6 d7 d8
      clear hcell hcell'
      have i1 : (k : Int) < (xs.length : Int) := by omega
      go_wp2
      go_quiet (fail)
      go_wp2
      go_roundw
      case rel => exact ⟨k + 1, _, hlt, by go_num, rfl⟩
      case measure => simp [intOf]; omega
    · have hkl : k = xs.length := by omega
      go_wp2
      go_returns
      exact ⟨rfl, bl_drewN (Below.refl _ _) _⟩

set_option maxHeartbeats 400000 in
theorem clipSts_any (A : Option Addr) (n c : Nat) (w : World) (h : n ≤ c) :
    Calls Try.prog 63 #[.slice A n c] w fun e w' => e = .returned (.slice A n n) ∧ w = w' := by
  go_enter Try.func63, Try.ntmps63
  go_wp2
  go_ret
  exact ⟨rfl, rfl⟩

theorem info_st : (Try.prog.info? 24).map (fun i => (i.zero, i.size, i.bytes)) = some (some (St.zero.val), 9, 72) := by kernel_rfl

/-- A clone: the call's own. -/
def CloneOut (xs : List St) (w : World) (e : Ending) (w' : World) : Prop := ∃ v, e = .returned v ∧ w'.ownsRow w.heap.size 24 9 v xs.length (flat xs) ∧ Below w.heap.size w w'

set_option maxHeartbeats 800000 in
theorem cloneSts_any (A : Option Addr) (c : Nat) (xs : List St) (w : World) (hA : StsAt w A xs) (hnil : A = none → xs = [] ∧ c = 0) (hlen : xs.length ≤ 5000) :
    Calls Try.prog 62 #[.slice A xs.length c] w (CloneOut xs w) := by
  have qT : ∀ (w : World) (a : Option Addr) (n c n' c' : Nat), (binOp .eql 36 (.slice a n c) (.slice none n' c')).run Try.prog w = .ok (.bool a.isNone) w := fun w a n c n' c' => Lib.run_eql_slice_nil w _ _ a n c n' c' Try.underlying36
  cases A with
  | none =>
    obtain ⟨rfl, rfl⟩ := hnil rfl
    go_enter Try.func62, Try.ntmps62
    go_wp2
    go_ret
    exact ⟨_, rfl, World.ownsRow_nil _ _ _ _, Below.refl _ _⟩
  | some a =>
    have hown : (w.alloc (.cells #[] 24)).ownsRow w.heap.size 24 9 (.slice (some ⟨w.heap.size, 0, none⟩) 0 0) 0 [] :=
      ⟨rfl, .inr ⟨w.heap.size, 0, #[], rfl, Nat.le_refl _, heap_alloc_new w _, Nat.le_refl _, by simp [maxLen], rfl, rfl⟩⟩
    have hnews : ∀ (j : Nat) (u : Value), (flat xs)[j]? = some u → (w.alloc (.cells #[] 24)).cell? (a.add j) = some u := by
      intro j u hu
      by_cases hx : 0 < xs.length
      · obtain ⟨b, off, hab, hb, hc⟩ := hA.alloc (.cells #[] 24) hx
        injection hab with hab
        subst hab
        exact flat_cells hc j u hu
      · have : xs = [] := by cases xs with | nil => rfl | cons => simp at hx
        subst this
        simp [flat] at hu
    obtain ⟨i0, hi, hz0, hz1, hz2⟩ := info_parts info_st
    have HO := hide hown
    have HN := hide hnews
    clear hown hnews hA hnil
    go_enter Try.func62, Try.ntmps62
    go_wp2_with (at_builtin; refine wpList_append_own _ rfl (.tmp 5) (.tmp 6) 36 rfl w.heap.size 24 i0 St.zero.val 9 72 Try.underlying36 hi hz0 hz1 hz2 rfl (by decide) _ 0 [] rfl HO.out a xs.length c (flat xs) rfl (flat_len xs) HN.out (flat_one xs) ?c1 ?c2 ?c3 ?_)
    case c1 => unfold maxLen; omega
    case c2 => omega
    case c3 => simp
    intro v' w1 hown1 hgrow1 _
    have HF : CloneOut xs w (.returned v') w1 := ⟨v', rfl, by simpa using hown1, (Below.alloc (Below.refl _ _) (Nat.le_refl _) _).grown hgrow1 (by simp) (fun k hk => by simp [Value.ownBlock] at hk; omega)⟩
    have HFF := hide HF
    clear HF hown1 hgrow1
    go_wp2
    go_ret
    exact HFF.out

end Go.Proofs.Ytokghdcfbbogdaa
