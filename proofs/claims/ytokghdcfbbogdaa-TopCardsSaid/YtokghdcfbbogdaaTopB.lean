/-
  WORDS FOR MEMORY AND A WALK: a row of reviews in a block of one's own; slices.Clone at reviews.
-/
import Derived.Test.YtokghdcfbbogdaaTopA
namespace Go.Proofs.Ytokghdcfbbogdaa
open Go.RowKit

def rvCells (r : Rv) : List Value := [.int .i64 r.bl, .int .i64 r.no, .int .i64 r.gr, .int .i64 r.da]
def flatR (rs : List Rv) : List Value := rs.flatMap rvCells
theorem flatR_len (rs : List Rv) : (flatR rs).length = rs.length * 4 := by
  induction rs with
  | nil => rfl
  | cons x xs ih => simp only [flatR, List.flatMap_cons, List.length_append, List.length_cons] at ih ⊢; rw [ih]; simp [rvCells]; omega
theorem flatR_one (rs : List Rv) : ∀ u ∈ flatR rs, u.oneCell' = true := by
  intro u hu
  obtain ⟨x, _, hx⟩ := List.mem_flatMap.1 hu
  simp [rvCells] at hx
  rcases hx with rfl | rfl | rfl | rfl <;> rfl
theorem flatR_get (rs : List Rv) : ∀ (j i : Nat) (h : j < rs.length), i < 4 → (flatR rs)[j * 4 + i]? = (rvCells rs[j])[i]? := by
  induction rs with
  | nil => intro j i h; simp at h
  | cons x xs ih =>
    intro j i h hi
    have hl : (rvCells x).length = 4 := rfl
    cases j with
    | zero =>
      show (rvCells x ++ flatR xs)[0 * 4 + i]? = _
      rw [List.getElem?_append_left (by omega)]; simp
    | succ j =>
      show (rvCells x ++ flatR xs)[(j + 1) * 4 + i]? = _
      rw [List.getElem?_append_right (by omega), hl, show (j + 1) * 4 + i - 4 = j * 4 + i by omega]
      exact ih j i (by simpa using h) hi
theorem flatR_cells {w : World} {A : Option Addr} {a : Addr} {rs : List Rv} (h : RvsAt w A rs) (hA : A = some a) : ∀ (j : Nat) (u : Value), (flatR rs)[j]? = some u → w.cell? (a.add j) = some u := by
  intro j u hu
  have hj : j < rs.length * 4 := by
    rcases Nat.lt_or_ge j (rs.length * 4) with h | h
    · exact h
    · rw [List.getElem?_eq_none (by rw [flatR_len]; exact h)] at hu; cases hu
  obtain ⟨b, off, hab, hb, hc⟩ := h (by omega)
  rw [hA] at hab
  injection hab with hab
  subst hab
  have hq : j / 4 < rs.length := by omega
  have hr : j % 4 < 4 := by omega
  have he : j = j / 4 * 4 + j % 4 := by omega
  have hadd : (⟨b, off, none⟩ : Addr).add j = ⟨b, off + j, none⟩ := Go.WideShapes.add_plain b off j
  rw [hadd]
  rw [he, flatR_get rs _ _ hq hr] at hu
  obtain ⟨h0, h1, h2, h3⟩ := hc (j / 4) hq
  generalize rs[j / 4] = x at hu h0 h1 h2 h3
  have hoff : off + j = off + j / 4 * 4 + j % 4 := by omega
  rw [hoff]
  generalize j / 4 = q at *
  match hm : j % 4, hr with
  | 0, _ => rw [hm] at hu; simp [rvCells] at hu; subst hu; exact h0
  | 1, _ => rw [hm] at hu; simp [rvCells] at hu; subst hu; exact h1
  | 2, _ => rw [hm] at hu; simp [rvCells] at hu; subst hu; exact h2
  | 3, _ => rw [hm] at hu; simp [rvCells] at hu; subst hu; exact h3

/-- A row of reviews. -/
def RowR (cs : Array Value) (rs : List Rv) : Prop := ∀ j i (_ : j < rs.length), i < 4 → cs[j * 4 + i]? = (rvCells rs[j])[i]?
theorem rvsAt_row {w : World} {g : Nat} {t : TypeId} {cs : Array Value} {rs : List Rv} (hg : Blk w g t cs) (h : RowR cs rs) : RvsAt w (some ⟨g, 0, none⟩) rs := fun _ => by
  refine ⟨g, 0, rfl, hg.lt, fun j hj => ?_⟩
  have hc : ∀ i, i < 4 → w.cell? ⟨g, j * 4 + i, none⟩ = (rvCells rs[j])[i]? := fun i hi => (hg.cell _).trans (h j i hj hi)
  simp only [Nat.zero_add]
  exact ⟨hc 0 (by omega), hc 1 (by omega), hc 2 (by omega), hc 3 (by omega)⟩
theorem own_bareR {w : World} {base n : Nat} {e : TypeId} {v : Value} {rs : List Rv} (h : w.ownsRow base e 4 v n (flatR rs)) (hn : 0 < n) :
    ∃ g cs cap, v = .slice (some ⟨g, 0, none⟩) n cap ∧ base ≤ g ∧ Blk w g e cs ∧ n ≤ cap ∧ cap ≤ maxLen ∧ RowR cs rs := by
  rcases h.2 with ⟨_, h0⟩ | ⟨g, cap, cur, hv, hb, hh, h1, h2, h3, h4⟩
  · omega
  · refine ⟨g, cur, cap, hv, hb, hh, h1, h2, fun j i hj hi => ?_⟩
    have hl := h.1
    rw [flatR_len] at hl
    have := flatR_get rs j i hj hi
    rw [← h4, List.getElem?_take_of_lt (by omega)] at this
    simpa using this
theorem getR_ne {cs : Array Value} {p q : Nat} {v : Value} (h : p ≠ q) : (cs.setIfInBounds p v)[q]? = cs[q]? := by
  rw [Array.getElem?_setIfInBounds, if_neg h]
theorem getR_eq {cs : Array Value} {p : Nat} {v u : Value} (h : cs[p]? = some u) : (cs.setIfInBounds p v)[p]? = some v := by
  have hl : p < cs.size := by
    rcases Nat.lt_or_ge p cs.size with h' | h'
    · exact h'
    · rw [Array.getElem?_eq_none h'] at h; cases h
  rw [Array.getElem?_setIfInBounds, if_pos rfl, if_pos hl]
theorem RowR.at_ {cs : Array Value} {rs : List Rv} (h : RowR cs rs) {k : Nat} (hk : k < rs.length) :
    cs[k * 4]? = some (.int .i64 rs[k].bl) ∧ cs[k * 4 + 1]? = some (.int .i64 rs[k].no) ∧ cs[k * 4 + 2]? = some (.int .i64 rs[k].gr) ∧ cs[k * 4 + 3]? = some (.int .i64 rs[k].da) :=
  ⟨h k 0 hk (by omega), h k 1 hk (by omega), h k 2 hk (by omega), h k 3 hk (by omega)⟩
/-- A review's card named anew. -/
theorem RowR.name {cs : Array Value} {rs : List Rv} (h : RowR cs rs) {k : Nat} (hk : k < rs.length) (a b : Int) :
    RowR ((cs.setIfInBounds (k * 4) (.int .i64 a)).setIfInBounds (k * 4 + 1) (.int .i64 b)) (rs.set k { rs[k] with bl := a, no := b }) := by
  intro j i hj hi
  have hj' : j < rs.length := by simpa using hj
  by_cases hjk : j = k
  · subst hjk
    rw [List.getElem_set_self]
    obtain ⟨a0, a1, a2, a3⟩ := h.at_ hk
    match i, hi with
    | 0, _ => rw [getR_ne (by omega)]; exact getR_eq a0
    | 1, _ => rw [getR_eq (u := .int .i64 rs[j].no) (by rw [getR_ne (by omega)]; exact a1)]; rfl
    | 2, _ => rw [getR_ne (by omega), getR_ne (by omega)]; exact a2
    | 3, _ => rw [getR_ne (by omega), getR_ne (by omega)]; exact a3
  · rw [List.getElem_set_ne (fun e => hjk e.symm), getR_ne (by omega), getR_ne (by omega)]
    exact h j i hj' hi

theorem info_rv : (Try.prog.info? 65).map (fun i => (i.zero, i.size, i.bytes)) = some (some (.agg #[.int .i64 0, .int .i64 0, .int .i64 0, .int .i64 0]), 4, 32) := by kernel_rfl
def CloneOutR (rs : List Rv) (w : World) (e : Ending) (w' : World) : Prop := ∃ v, e = .returned v ∧ w'.ownsRow w.heap.size 65 4 v rs.length (flatR rs) ∧ Below w.heap.size w w'

set_option maxHeartbeats 800000 in
theorem cloneRvs_any (A : Option Addr) (c : Nat) (rs : List Rv) (w : World) (hA : RvsAt w A rs) (hnil : A = none → rs = [] ∧ c = 0) (hlen : rs.length ≤ 20000) :
    Calls Try.prog 45 #[.slice A rs.length c] w (CloneOutR rs w) := by
  have qT : ∀ (w : World) (a : Option Addr) (n c n' c' : Nat), (binOp .eql 22 (.slice a n c) (.slice none n' c')).run Try.prog w = .ok (.bool a.isNone) w := fun w a n c n' c' => Lib.run_eql_slice_nil w _ _ a n c n' c' Try.underlying22
  cases A with
  | none =>
    obtain ⟨rfl, rfl⟩ := hnil rfl
    go_enter Try.func45, Try.ntmps45
    go_wp2
    go_ret
    exact ⟨_, rfl, World.ownsRow_nil _ _ _ _, Below.refl _ _⟩
  | some a =>
    have hown : (w.alloc (.cells #[] 65)).ownsRow w.heap.size 65 4 (.slice (some ⟨w.heap.size, 0, none⟩) 0 0) 0 [] :=
      ⟨rfl, .inr ⟨w.heap.size, 0, #[], rfl, Nat.le_refl _, heap_alloc_new w _, Nat.le_refl _, by simp [maxLen], rfl, rfl⟩⟩
    have hnews : ∀ (j : Nat) (u : Value), (flatR rs)[j]? = some u → (w.alloc (.cells #[] 65)).cell? (a.add j) = some u := flatR_cells (hA.alloc (.cells #[] 65)) rfl
    obtain ⟨i0, hi, hz0, hz1, hz2⟩ := info_parts info_rv
    have HO := hide hown
    have HN := hide hnews
    clear hown hnews hA hnil
    go_enter Try.func45, Try.ntmps45
    go_wp2_with (at_builtin; refine wpList_append_own _ rfl (.tmp 5) (.tmp 6) 22 rfl w.heap.size 65 i0 (.agg #[.int .i64 0, .int .i64 0, .int .i64 0, .int .i64 0]) 4 32 Try.underlying22 hi hz0 hz1 hz2 rfl (by decide) _ 0 [] rfl HO.out a rs.length c (flatR rs) rfl (flatR_len rs) HN.out (flatR_one rs) ?c1 ?c2 ?c3 ?_)
    case c1 => unfold maxLen; omega
    case c2 => omega
    case c3 => simp
    intro v' w1 hown1 hgrow1 _
    have HF : CloneOutR rs w (.returned v') w1 := ⟨v', rfl, by simpa using hown1, (Below.alloc (Below.refl _ _) (Nat.le_refl _) _).grown hgrow1 (by simp) (fun k hk => by simp [Value.ownBlock] at hk; omega)⟩
    have HFF := hide HF
    clear HF hown1 hgrow1
    go_wp2
    go_ret
    exact HFF.out

end Go.Proofs.Ytokghdcfbbogdaa
