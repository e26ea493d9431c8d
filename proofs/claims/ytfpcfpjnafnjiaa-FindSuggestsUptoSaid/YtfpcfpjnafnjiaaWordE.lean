/-
  WALKS: Words; slices.Equal of words that read alike.
-/
import Derived.Test.YtfpcfpjnafnjiaaWordD
set_option linter.all false
namespace Go.Proofs.Ytfpcfpjnafnjiaa
open Go.RowKit Go.Shelf

set_option maxHeartbeats 1000000 in
theorem collect_in (n : Nat) (hn : 3 ≤ n) (Bn : Nat) (s : ByteArray) (hs : s.size ≤ 1900000) (w : World) (hlt : Bn < w.heap.size) (hc : w.cell? ⟨Bn, 0, none⟩ = some (.string s)) :
    CallsIn Fence.wide n Try.prog 48 #[.func (.func 64) #[] #[.pointer (some ⟨Bn, 0, none⟩)]] w (CollOut s w) := by
  have h1 : 1 ≤ n := by omega
  have H := hide (appendSeq_in (n - 1) (by omega) Bn s hs w hlt hc)
  clear hc
  refine callsIn_of_wp Try.func48 rfl trivial ?_ rfl
  simp only [Try.ntmps48, List.size_toArray, List.length_cons, List.length_nil, Nat.reduceAdd, Nat.reduceSub, Array.replicate_succ, Array.replicate_zero, List.push_toArray, List.append_toArray, List.nil_append, List.cons_append]
  gi_wp2_with (refine ⟨trivial, ?_⟩; gi_at_call 63; refine H.out.mono ?_; rintro e w' ⟨v, rfl, hrow, hb⟩)
  go_ret
  exact ⟨v, rfl, hrow, hb⟩

set_option maxHeartbeats 400000 in
theorem clipWds_any (A : Option Addr) (n c : Nat) (w : World) (h : n ≤ c) :
    Calls Try.prog 47 #[.slice A n c] w fun e w' => e = .returned (.slice A n n) ∧ w = w' := by
  go_enter Try.func47, Try.ntmps47
  go_wp2
  go_ret
  exact ⟨rfl, rfl⟩

/-- A slice of words reads as a list. -/
def WdsAt (w : World) (A : Option Addr) (l : List Wd) : Prop :=
  0 < l.length → ∃ b off, A = some ⟨b, off, none⟩ ∧ b < w.heap.size ∧ ∀ j (h : j < l.length), w.cell? ⟨b, off + j * 3, none⟩ = some (.string l[j].t) ∧ w.cell? ⟨b, off + j * 3 + 1, none⟩ = some (.int .i64 l[j].f) ∧ w.cell? ⟨b, off + j * 3 + 2, none⟩ = some (.int .i64 l[j].u)
theorem WdsAt.below {w w' : World} {A : Option Addr} {l : List Wd} (h : WdsAt w A l) (hb : Below w.heap.size w w') : WdsAt w' A l := fun hl => by
  obtain ⟨b, off, hA, hlt, hc⟩ := h hl
  refine ⟨b, off, hA, Nat.lt_of_lt_of_le hlt hb.size, fun j hj => ?_⟩
  have hk : ∀ i, w'.cell? ⟨b, i, none⟩ = w.cell? ⟨b, i, none⟩ := fun i => hb.cell (p := ⟨b, i, none⟩) hlt
  obtain ⟨h0, h1, h2⟩ := hc j hj
  exact ⟨(hk _).trans h0, (hk _).trans h1, (hk _).trans h2⟩
theorem flatW_get (xs : List Wd) : ∀ (j i : Nat) (h : j < xs.length), i < 3 → (flatW xs)[j * 3 + i]? = xs[j].cells[i]? := by
  induction xs with
  | nil => intro j i h; simp at h
  | cons x xs ih =>
    intro j i h hi
    cases j with
    | zero =>
      simp only [flatW, List.flatMap_cons, Nat.zero_mul, Nat.zero_add, List.getElem_cons_zero]
      rw [List.getElem?_append_left (by simp [Wd.cells]; omega)]
    | succ j =>
      have := ih j i (by simpa using h) hi
      simp only [flatW, List.flatMap_cons, List.getElem_cons_succ] at this ⊢
      rw [List.getElem?_append_right (by simp [Wd.cells]; omega)]
      simp only [Wd.cells, List.length_cons, List.length_nil] at this ⊢
      rw [show (j + 1) * 3 + i - (0 + 1 + 1 + 1) = j * 3 + i by omega]
      exact this
theorem OwnK.wds {w : World} {base n : Nat} {A : Option Addr} {c m : Nat} {l : List Wd} (h : OwnK 3 55 w base (.slice A m c) n (flatW l)) : m = n ∧ l.length = n ∧ n ≤ c ∧ WdsAt w A l := by
  obtain ⟨hl, A', c', hv, h1, h2, h3⟩ := h
  injection hv with e1 e2 e3
  subst e1 e2 e3
  rw [flatW_len] at hl
  have hn : l.length = m := by omega
  refine ⟨rfl, hn, h1, fun hp => ?_⟩
  rcases h3 with ⟨_, h0, _⟩ | ⟨g, cur, hA, hg, hb, h4, h5⟩
  · omega
  · refine ⟨g, 0, hA, (Array.getElem?_eq_some_iff.1 hb).1, fun j hj => ?_⟩
    have hc : ∀ i, i < 3 → w.cell? ⟨g, 0 + j * 3 + i, none⟩ = l[j].cells[i]? := fun i hi => by
      rw [Nat.zero_add, cell_of_row w g _ cur _ (0, 0) hb, ← flatW_get l j i hj hi, ← h5, List.getElem?_take_of_lt (by omega)]; simp
    exact ⟨hc 0 (by omega), hc 1 (by omega), hc 2 (by omega)⟩
theorem ownK_of_ownW {w : World} {base n : Nat} {v : Value} {xs : List Value} {e : TypeId} (h : w.ownsRow base e 3 v n xs) : OwnK 3 e w base v n xs := by
  refine ⟨h.1, ?_⟩
  rcases h.2 with ⟨rfl, rfl⟩ | ⟨g, cap, cur, rfl, hb, hh, h1, h2, h3, h4⟩
  · exact ⟨none, 0, rfl, Nat.le_refl _, by simp [maxLen], .inl ⟨rfl, rfl, rfl⟩⟩
  · exact ⟨_, cap, rfl, h1, h2, .inr ⟨g, cur, rfl, hb, hh, by omega, h4⟩⟩

def WordsOut (l : List Wd) (w : World) (e : Ending) (w' : World) : Prop := ∃ A c, e = .returned (.slice A l.length c) ∧ WdsAt w' A l ∧ Below w.heap.size w w'
theorem wordsOf_reads (s : ByteArray) (w : World) (hs : s.size ≤ 1900000) : Calls Try.prog 21 #[.string s] w (WordsOut (wordsAt s 0) w) :=
  (wordsOf_any s w hs).mono fun e w' ⟨v, he, ho, hb⟩ => by
    obtain ⟨A, c, rfl, _⟩ := ho.form
    exact ⟨A, c, he, ho.wds.2.2.2, hb⟩

set_option maxHeartbeats 1600000 in
theorem words_any (s : ByteArray) (w : World) (hs : s.size ≤ 1900000) : Calls Try.prog 30 #[.string s] w (WordsOut (wordsAt s 0) w) := by
  refine (callsIn_wide (n := 5)).1 ?_
  refine callsIn_of_wp Try.func30 rfl trivial ?_ rfl
  simp only [Try.ntmps30, List.size_toArray, List.length_cons, List.length_nil, Nat.reduceAdd, Nat.reduceSub, Array.replicate_succ, Array.replicate_zero, List.push_toArray, List.append_toArray, List.nil_append, List.cons_append]
  gi_wp2_with (first
    | (refine ⟨trivial, ?_⟩; gi_at_call 49; refine (wordsOf_in _ s w).mono ?_; rintro e w' ⟨rfl, rfl⟩)
    | (refine ⟨trivial, ?_⟩; gi_at_call 48; refine (collect_in _ (by omega) w.heap.size s hs _ (by simp) ((Blk.new w 9 #[.string s]).cell 0)).mono ?_; rintro e w' ⟨v, rfl, hrow, hb⟩; have ho := ownK_of_ownW hrow; obtain ⟨A, c, rfl, hcc, _⟩ := ho.form; have HO := hide ho; have HB := hide hb; clear ho hrow hb)
    | (refine ⟨trivial, ?_⟩; gi_at_call 47; refine (callsIn_wide.2 (clipWds_any _ _ _ _ hcc)).mono ?_; rintro e w' ⟨rfl, rfl⟩))
  go_ret
  exact ⟨A, _, rfl, HO.out.wds.2.2.2, (bl_alloc (Below.refl _ _) _).trans (HB.out.mono (by simp))⟩

theorem run_neq_wd (t : ByteArray) (f u : Int) (w : World) :
    (binOp .neq 55 (.agg #[.string t, .int .i64 f, .int .i64 u]) (.agg #[.string t, .int .i64 f, .int .i64 u])).run Try.prog w = .ok (.bool false) w := by
  simp [go_sem]
attribute [local go_sem ↓] run_neq_wd

end Go.Proofs.Ytfpcfpjnafnjiaa
