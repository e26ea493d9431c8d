/-
  PLAIN AND WALKS: a better grade never gives an earlier day; slices.IsSorted at ints; slices.Clone at reviews; awakeCard.
-/
import Derived.Test.YtokghdcfbbogdaaWalkK
import Derived.Test.YtokghdcfbbogdaaWalkH
import Derived.Test.YtokghdcfbbogdaaInts
import Derived.Test.YtokghdcfbbogdaaClone
import Derived.BigQuiet
import Derived.Deep.RegionHeld3
namespace Go.Proofs.Ytokghdcfbbogdaa
open Go.RowKit

/-- The numbers do not fall. -/
def NoFall (ns : List Int) : Prop := ∀ j (h : j + 1 < ns.length), ns[j] ≤ ns[j + 1]

theorem St.steps_up (x : St) (d : Int) (hx : x.Good) : 0 ≤ x.sh d ∧ x.sh d ≤ x.sg d ∧ x.sg d ≤ x.se d := by
  have := hx.st
  unfold St.sh St.sg St.se
  by_cases h : x.st = 0
  · rw [if_pos h, if_pos h, if_pos h]; omega
  · rw [if_neg h, if_neg h, if_neg h]
    have h1 : 1 ≤ x.hard d := by unfold St.hard; omega
    have h2 : x.hard d + 1 ≤ x.good d := by unfold St.good; omega
    have h3 : x.good d + 1 ≤ x.easy d := by unfold St.easy; omega
    omega
theorem dueOf_1 (x : St) (d : Int) : dueOf x d 0 = min (d + max (min 0 3650) 1) 100000 := by simp [dueOf, St.graded, St.stepOf]
theorem dueOf_2 (x : St) (d : Int) : dueOf x d 1 = min (d + max (min (x.sh d) 3650) 1) 100000 := by simp [dueOf, St.graded, St.stepOf, St.sh]
theorem dueOf_3 (x : St) (d : Int) : dueOf x d 2 = min (d + max (min (x.sg d) 3650) 1) 100000 := by simp [dueOf, St.graded, St.stepOf, St.sg]
theorem dueOf_4 (x : St) (d : Int) : dueOf x d 3 = min (d + max (min (x.se d) 3650) 1) 100000 := by simp [dueOf, St.graded, St.stepOf, St.se]
theorem dues_nofall (x : St) (d : Int) (hx : x.Good) : NoFall (dues x d 4) := by
  obtain ⟨h0, h1, h2⟩ := St.steps_up x d hx
  have e : dues x d 4 = [dueOf x d 0, dueOf x d 1, dueOf x d 2, dueOf x d 3] := rfl
  rw [e]
  have q1 := dueOf_1 x d
  have q2 := dueOf_2 x d
  have q3 := dueOf_3 x d
  have q4 := dueOf_4 x d
  intro j hj
  match j, hj with
  | 0, _ => show dueOf x d 0 ≤ dueOf x d 1; omega
  | 1, _ => show dueOf x d 1 ≤ dueOf x d 2; omega
  | 2, _ => show dueOf x d 2 ≤ dueOf x d 3; omega
  | j + 3, hj => exact absurd hj (by simp)

set_option maxHeartbeats 400000 in
theorem less_any (a b : Int) (w : World) :
    Calls Try.prog 84 #[.int .i64 a, .int .i64 b] w fun e w' => e = .returned (.bool (decide (a < b))) ∧ w = w' := by
  go_enter Try.func84, Try.ntmps84
  go_wp2_with (go_at_call 96; refine (isNaN_any _ _).mono ?_; rintro e w' ⟨rfl, rfl⟩)
  go_ret
  exact ⟨rfl, rfl⟩

set_option maxHeartbeats 1600000 in
set_option maxRecDepth 100000 in
theorem isSorted_any (A : Option Addr) (c : Nat) (ns : List Int) (w : World) (hA : IntsAt w A ns) (hs : NoFall ns) (hm : ns.length ≤ maxLen) :
    Calls Try.prog 42 #[.slice A ns.length c] w fun e w' => e = .returned (.bool true) ∧ Below w.heap.size w w' := by
  unfold maxLen at hm
  have HA := hide hA
  have HS := hide hs
  clear hA hs
  go_enter Try.func42, Try.ntmps42
  go_wp2
  go_loopw [3] (fun i wr => ∃ (z : Int) (n : Nat), z < ns.length ∧ (-1) ≤ z ∧ i = .int .i64 z ∧ wr = w.drewN n) (fun i _ => (intOf i + 1).toNat)
  case atStart => exact ⟨(ns.length : Int) - 1, 0, by omega, by omega, rfl, rfl⟩
  case round =>
    obtain ⟨z, n, hz, hz1, rfl, rfl⟩ := hrel
    by_cases h0 : 0 < z
    · obtain ⟨k, rfl⟩ : ∃ k : Nat, z = (k : Int) + 1 := ⟨(z - 1).toNat, by omega⟩
      have hk : k + 1 < ns.length := by omega
      obtain ⟨b, off, rfl, hb, hcell⟩ := HA.out (by omega)
      have c1 := hcell (k + 1) hk
      have c2 := hcell k (by omega)
      have hle := HS.out k hk
      generalize ns[k + 1] = x at c1 hle
      generalize ns[k] = y at c2 hle
      clear hcell
      have hdl : decide (x < y) = false := by simp; omega
      have hlt := fun w => less_any x y w
      rw [hdl] at hlt
      have e0 : ((k : Int) + 1).toNat = k + 1 := by omega
      go_wp2
      have i1 : (k : Int) + 1 < (ns.length : Int) := by omega
      have i2 : (0 : Int) ≤ (k : Int) + 1 := by omega
      have i3 : IntKind.i64.wrap ((k : Int) + 1) = (k : Int) + 1 := IntWalk.i64_in _ (by omega)
      have i4 : IntKind.i64.wrap (k : Int) = (k : Int) := IntWalk.i64_in _ (by omega)
      have i5 : IntKind.i64.wrap ((k : Int) + 1 - 1) = (k : Int) := by rw [show (k : Int) + 1 - 1 = (k : Int) by omega]; exact i4
      have i6 : (k : Int) < (ns.length : Int) := by omega
      have i7 : (0 : Int) ≤ (k : Int) := by omega
      have c3 : (w.drewN n).drew.cell? ⟨b, off + (k + 1), none⟩ = some (.int .i64 x) := c1
      have c4 : (w.drewN n).drew.cell? ⟨b, off + k, none⟩ = some (.int .i64 y) := c2
      have HLT := hide hlt
      clear hlt c1 c2
      go_region_held3 (fun w' => w'.cell? ⟨b, off + (k + 1), none⟩ = some (.int .i64 x) ∧ w'.cell? ⟨b, off + k, none⟩ = some (.int .i64 y)) (first | (exact ⟨c3, c4⟩) | (exact ⟨by assumption, by assumption⟩) | go_keep)
        (first | (go_at_call 84; refine (HLT.out _).mono ?_; rintro e w' ⟨rfl, rfl⟩))
      go_wp2
      go_roundw
      case rel => exact ⟨(k : Int), _, by omega, by omega, by go_num, rfl⟩
      case measure => simp [intOf]; omega
    · go_wp2
      go_returns
      exact ⟨rfl, bl_drewN (Below.refl _ _) _⟩

theorem new_zero : St.new 0 0 = (St.zero, 2) := by rfl
set_option maxHeartbeats 400000 in
theorem awake_any (w : World) :
    Calls Try.prog 41 #[] w fun e w' => e = .returned (.bool true) ∧ Below w.heap.size w w' := by
  have hn := fun w => new_any 0 0 w
  rw [new_zero] at hn
  simp only [St.val, St.zero] at hn
  have HN := hide hn
  clear hn
  go_enter Try.func41, Try.ntmps41
  go_wp2_with (go_at_call 44; refine (HN.out _).mono ?_; rintro e w' ⟨rfl, hb⟩; obtain ⟨os1, n1, rfl⟩ := below_plus hb; clear hb)
  go_ret
  exact ⟨rfl, by repeat (first | exact Below.refl _ _ | refine bl_plus ?_ | refine bl_alloc ?_ _ | refine bl_drew ?_)⟩

end Go.Proofs.Ytokghdcfbbogdaa
/-
  WORDS FOR MEMORY AND A WALK: a row of reviews in a block of one's own; slices.Clone at reviews.
-/
namespace Go.Proofs.Ytokghdcfbbogdaa
open Go.RowKit

def rvCells (r : Rv) : List Value := [.int .i64 r.bl, .int .i64 r.no, .int .i64 r.gr, .int .i64 r.da]
def flatR (rs : List Rv) : List Value := rs.flatMap rvCells
theorem flatR_len (rs : List Rv) : (flatR rs).length = rs.length * 4 := by
  induction rs with
  | nil => rfl
  | cons x xs ih => simp only [flatR, List.flatMap_cons, List.length_append, List.length_cons] at ih ⊢; rw [ih]; simp [rvCells]; omega
theorem flatR_one (rs : List Rv) : ∀ u ∈ flatR rs, u.oneCell' = true := by
  intro u hu
  obtain ⟨x, _, hx⟩ := List.mem_flatMap.1 hu
  simp [rvCells] at hx
  rcases hx with rfl | rfl | rfl | rfl <;> rfl
theorem flatR_get (rs : List Rv) : ∀ (j i : Nat) (h : j < rs.length), i < 4 → (flatR rs)[j * 4 + i]? = (rvCells rs[j])[i]? := by
  induction rs with
  | nil => intro j i h; simp at h
  | cons x xs ih =>
    intro j i h hi
    have hl : (rvCells x).length = 4 := rfl
    cases j with
    | zero =>
      show (rvCells x ++ flatR xs)[0 * 4 + i]? = _
      rw [List.getElem?_append_left (by omega)]; simp
    | succ j =>
      show (rvCells x ++ flatR xs)[(j + 1) * 4 + i]? = _
      rw [List.getElem?_append_right (by omega), hl, show (j + 1) * 4 + i - 4 = j * 4 + i by omega]
      exact ih j i (by simpa using h) hi
theorem flatR_cells {w : World} {A : Option Addr} {a : Addr} {rs : List Rv} (h : RvsAt w A rs) (hA : A = some a) : ∀ (j : Nat) (u : Value), (flatR rs)[j]? = some u → w.cell? (a.add j) = some u := by
  intro j u hu
  have hj : j < rs.length * 4 := by
    rcases Nat.lt_or_ge j (rs.length * 4) with h | h
    · exact h
    · rw [List.getElem?_eq_none (by rw [flatR_len]; exact h)] at hu; cases hu
  obtain ⟨b, off, hab, hb, hc⟩ := h (by omega)
  rw [hA] at hab
  injection hab with hab
  subst hab
  have hq : j / 4 < rs.length := by omega
  have hr : j % 4 < 4 := by omega
  have he : j = j / 4 * 4 + j % 4 := by omega
  have hadd : (⟨b, off, none⟩ : Addr).add j = ⟨b, off + j, none⟩ := Go.WideShapes.add_plain b off j
  rw [hadd]
  rw [he, flatR_get rs _ _ hq hr] at hu
  obtain ⟨h0, h1, h2, h3⟩ := hc (j / 4) hq
  generalize rs[j / 4] = x at hu h0 h1 h2 h3
  have hoff : off + j = off + j / 4 * 4 + j % 4 := by omega
  rw [hoff]
  generalize j / 4 = q at *
  match hm : j % 4, hr with
  | 0, _ => rw [hm] at hu; simp [rvCells] at hu; subst hu; exact h0
  | 1, _ => rw [hm] at hu; simp [rvCells] at hu; subst hu; exact h1
  | 2, _ => rw [hm] at hu; simp [rvCells] at hu; subst hu; exact h2
  | 3, _ => rw [hm] at hu; simp [rvCells] at hu; subst hu; exact h3

/-- A row of reviews. -/
def RowR (cs : Array Value) (rs : List Rv) : Prop := ∀ j i (_ : j < rs.length), i < 4 → cs[j * 4 + i]? = (rvCells rs[j])[i]?
theorem rvsAt_row {w : World} {g : Nat} {t : TypeId} {cs : Array Value} {rs : List Rv} (hg : Blk w g t cs) (h : RowR cs rs) : RvsAt w (some ⟨g, 0, none⟩) rs := fun _ => by
  refine ⟨g, 0, rfl, hg.lt, fun j hj => ?_⟩
  have hc : ∀ i, i < 4 → w.cell? ⟨g, j * 4 + i, none⟩ = (rvCells rs[j])[i]? := fun i hi => (hg.cell _).trans (h j i hj hi)
  simp only [Nat.zero_add]
  exact ⟨hc 0 (by omega), hc 1 (by omega), hc 2 (by omega), hc 3 (by omega)⟩
theorem own_bareR {w : World} {base n : Nat} {e : TypeId} {v : Value} {rs : List Rv} (h : w.ownsRow base e 4 v n (flatR rs)) (hn : 0 < n) :
    ∃ g cs cap, v = .slice (some ⟨g, 0, none⟩) n cap ∧ base ≤ g ∧ Blk w g e cs ∧ n ≤ cap ∧ cap ≤ maxLen ∧ RowR cs rs := by
  rcases h.2 with ⟨_, h0⟩ | ⟨g, cap, cur, hv, hb, hh, h1, h2, h3, h4⟩
  · omega
  · refine ⟨g, cur, cap, hv, hb, hh, h1, h2, fun j i hj hi => ?_⟩
    have hl := h.1
    rw [flatR_len] at hl
    have := flatR_get rs j i hj hi
    rw [← h4, List.getElem?_take_of_lt (by omega)] at this
    simpa using this
theorem getR_ne {cs : Array Value} {p q : Nat} {v : Value} (h : p ≠ q) : (cs.setIfInBounds p v)[q]? = cs[q]? := by
  rw [Array.getElem?_setIfInBounds, if_neg h]
theorem getR_eq {cs : Array Value} {p : Nat} {v u : Value} (h : cs[p]? = some u) : (cs.setIfInBounds p v)[p]? = some v := by
  have hl : p < cs.size := by
    rcases Nat.lt_or_ge p cs.size with h' | h'
    · exact h'
    · rw [Array.getElem?_eq_none h'] at h; cases h
  rw [Array.getElem?_setIfInBounds, if_pos rfl, if_pos hl]
theorem RowR.at_ {cs : Array Value} {rs : List Rv} (h : RowR cs rs) {k : Nat} (hk : k < rs.length) :
    cs[k * 4]? = some (.int .i64 rs[k].bl) ∧ cs[k * 4 + 1]? = some (.int .i64 rs[k].no) ∧ cs[k * 4 + 2]? = some (.int .i64 rs[k].gr) ∧ cs[k * 4 + 3]? = some (.int .i64 rs[k].da) :=
  ⟨h k 0 hk (by omega), h k 1 hk (by omega), h k 2 hk (by omega), h k 3 hk (by omega)⟩
/-- A review's card named anew. -/
theorem RowR.name {cs : Array Value} {rs : List Rv} (h : RowR cs rs) {k : Nat} (hk : k < rs.length) (a b : Int) :
    RowR ((cs.setIfInBounds (k * 4) (.int .i64 a)).setIfInBounds (k * 4 + 1) (.int .i64 b)) (rs.set k { rs[k] with bl := a, no := b }) := by
  intro j i hj hi
  have hj' : j < rs.length := by simpa using hj
  by_cases hjk : j = k
  · subst hjk
    rw [List.getElem_set_self]
    obtain ⟨a0, a1, a2, a3⟩ := h.at_ hk
    match i, hi with
    | 0, _ => rw [getR_ne (by omega)]; exact getR_eq a0
    | 1, _ => rw [getR_eq (u := .int .i64 rs[j].no) (by rw [getR_ne (by omega)]; exact a1)]; rfl
    | 2, _ => rw [getR_ne (by omega), getR_ne (by omega)]; exact a2
    | 3, _ => rw [getR_ne (by omega), getR_ne (by omega)]; exact a3
  · rw [List.getElem_set_ne (fun e => hjk e.symm), getR_ne (by omega), getR_ne (by omega)]
    exact h j i hj' hi

theorem info_rv : (Try.prog.info? 65).map (fun i => (i.zero, i.size, i.bytes)) = some (some (.agg #[.int .i64 0, .int .i64 0, .int .i64 0, .int .i64 0]), 4, 32) := by kernel_rfl
def CloneOutR (rs : List Rv) (w : World) (e : Ending) (w' : World) : Prop := ∃ v, e = .returned v ∧ w'.ownsRow w.heap.size 65 4 v rs.length (flatR rs) ∧ Below w.heap.size w w'

set_option maxHeartbeats 800000 in
theorem cloneRvs_any (A : Option Addr) (c : Nat) (rs : List Rv) (w : World) (hA : RvsAt w A rs) (hnil : A = none → rs = [] ∧ c = 0) (hlen : rs.length ≤ 20000) :
    Calls Try.prog 45 #[.slice A rs.length c] w (CloneOutR rs w) := by
  have qT : ∀ (w : World) (a : Option Addr) (n c n' c' : Nat), (binOp .eql 22 (.slice a n c) (.slice none n' c')).run Try.prog w = .ok (.bool a.isNone) w := fun w a n c n' c' => Lib.run_eql_slice_nil w _ _ a n c n' c' Try.underlying22
  cases A with
  | none =>
    obtain ⟨rfl, rfl⟩ := hnil rfl
    go_enter Try.func45, Try.ntmps45
    go_wp2
    go_ret
    exact ⟨_, rfl, World.ownsRow_nil _ _ _ _, Below.refl _ _⟩
  | some a =>
    have hown : (w.alloc (.cells #[] 65)).ownsRow w.heap.size 65 4 (.slice (some ⟨w.heap.size, 0, none⟩) 0 0) 0 [] :=
      ⟨rfl, .inr ⟨w.heap.size, 0, #[], rfl, Nat.le_refl _, heap_alloc_new w _, Nat.le_refl _, by simp [maxLen], rfl, rfl⟩⟩
    have hnews : ∀ (j : Nat) (u : Value), (flatR rs)[j]? = some u → (w.alloc (.cells #[] 65)).cell? (a.add j) = some u := flatR_cells (hA.alloc (.cells #[] 65)) rfl
    obtain ⟨i0, hi, hz0, hz1, hz2⟩ := info_parts info_rv
    have HO := hide hown
    have HN := hide hnews
    clear hown hnews hA hnil
    go_enter Try.func45, Try.ntmps45
    go_wp2_with (at_builtin; refine wpList_append_own _ rfl (.tmp 5) (.tmp 6) 22 rfl w.heap.size 65 i0 (.agg #[.int .i64 0, .int .i64 0, .int .i64 0, .int .i64 0]) 4 32 Try.underlying22 hi hz0 hz1 hz2 rfl (by decide) _ 0 [] rfl HO.out a rs.length c (flatR rs) rfl (flatR_len rs) HN.out (flatR_one rs) ?c1 ?c2 ?c3 ?_)
    case c1 => unfold maxLen; omega
    case c2 => omega
    case c3 => simp
    intro v' w1 hown1 hgrow1 _
    have HF : CloneOutR rs w (.returned v') w1 := ⟨v', rfl, by simpa using hown1, (Below.alloc (Below.refl _ _) (Nat.le_refl _) _).grown hgrow1 (by simp) (fun k hk => by simp [Value.ownBlock] at hk; omega)⟩
    have HFF := hide HF
    clear HF hown1 hgrow1
    go_wp2
    go_ret
    exact HFF.out

end Go.Proofs.Ytokghdcfbbogdaa
