/-
  WALKS: rows of ints that the call owns, sorted, without doubles; the days of a month that a rule names, put into a row; years.
-/
import Derived.Test.YtpbkidjbbhkjnaaRbf
import Derived.Test.YtpbkidjbbhkjnaaRbl
import Derived.Sort.OwnSortedInts
namespace Go.Proofs.Ytpbkidjbbhkjnaa
open Go.RowKit Go.Sort Cal

theorem compactUpTo_mem {d : Array Int} (hs : ∀ i j, i ≤ j → j < d.size → d[i]! ≤ d[j]!) : ∀ m, m ≤ d.size → (Lib.compactUpTo d m).Pairwise (· < ·) ∧ ∀ x, x ∈ Lib.compactUpTo d m ↔ ∃ j, j < m ∧ d[j]! = x
  | 0, _ => ⟨by unfold Lib.compactUpTo; simp, fun x => by unfold Lib.compactUpTo; simp⟩
  | m + 1, hm => by
    obtain ⟨h1, h2⟩ := compactUpTo_mem hs m (by omega)
    rw [Lib.compactUpTo_succ]
    by_cases hk : m = 0
    · subst hk
      have h0 : Lib.compactUpTo d 0 = [] := by unfold Lib.compactUpTo; simp
      rw [h0, if_pos (Lib.keeps_lt_one d 0 (by omega))]
      refine ⟨by simp, fun x => ?_⟩
      simp only [List.nil_append, List.mem_singleton]
      constructor
      · rintro rfl
        exact ⟨0, by omega, rfl⟩
      · rintro ⟨j, hj, rfl⟩
        have : j = 0 := by omega
        rw [this]
    · by_cases he : d[m]! = d[m - 1]!
      · rw [Lib.keeps_neg (by omega) he, if_neg (by simp), List.append_nil]
        refine ⟨h1, fun x => ?_⟩
        rw [h2]
        constructor
        · rintro ⟨j, hj, e⟩
          exact ⟨j, by omega, e⟩
        · rintro ⟨j, hj, e⟩
          by_cases hjm : j = m
          · exact ⟨m - 1, by omega, by rw [← he, ← hjm]; exact e⟩
          · exact ⟨j, by omega, e⟩
      · rw [Lib.keeps_pos he, if_pos rfl]
        refine ⟨?_, fun x => ?_⟩
        · rw [List.pairwise_append]
          refine ⟨h1, List.pairwise_singleton .., fun a ha b hb => ?_⟩
          obtain ⟨j, hj, rfl⟩ := (h2 a).1 ha
          rw [List.mem_singleton] at hb
          subst hb
          have a1 := hs j (m - 1) (by omega) (by omega)
          have a2 := hs (m - 1) m (by omega) (by omega)
          omega
        · rw [List.mem_append, h2, List.mem_singleton]
          constructor
          · rintro (⟨j, hj, e⟩ | e)
            · exact ⟨j, by omega, e⟩
            · exact ⟨m, by omega, e.symm⟩
          · rintro ⟨j, hj, e⟩
            by_cases hjm : j = m
            · exact .inr (by rw [← e, hjm])
            · exact .inl ⟨j, by omega, e⟩
/-- A list in order, each number once. -/
def tidy (l : List Int) : List Int := Lib.compact (l.mergeSort fun x y => decide (x ≤ y))
theorem tidy_is (l : List Int) : (tidy l).Pairwise (· < ·) ∧ ∀ x, x ∈ tidy l ↔ x ∈ l := by
  have hp : (l.mergeSort fun x y => decide (x ≤ y)).Pairwise (· ≤ ·) := by
    have := List.pairwise_mergeSort (le := fun x y : Int => decide (x ≤ y)) (fun a b c h1 h2 => by simp at *; omega) (fun a b => by simp; omega) l
    exact this.imp (fun h => by simpa using h)
  have hm : ∀ x, x ∈ (l.mergeSort fun x y => decide (x ≤ y)) ↔ x ∈ l := fun x => (List.mergeSort_perm l _).mem_iff
  unfold tidy Lib.compact
  generalize (l.mergeSort fun x y => decide (x ≤ y)) = s at *
  have hs : ∀ i j, i ≤ j → j < s.toArray.size → s.toArray[i]! ≤ s.toArray[j]! := by
    intro i j hij hj
    have hj' : j < s.length := by simpa using hj
    simp only [List.getElem!_toArray, List.getElem!_eq_getElem?_getD, List.getElem?_eq_getElem hj', List.getElem?_eq_getElem (show i < s.length by omega), Option.getD_some]
    rcases Nat.lt_or_ge i j with hlt | hge
    · exact List.pairwise_iff_getElem.1 hp i j (by omega) hj' hlt
    · have : i = j := by omega
      subst this
      exact Int.le_refl _
  obtain ⟨h1, h2⟩ := compactUpTo_mem hs s.length (by simp)
  refine ⟨h1, fun x => ?_⟩
  rw [h2, ← hm x, List.mem_iff_getElem]
  constructor
  · rintro ⟨j, hj, e⟩
    refine ⟨j, hj, ?_⟩
    simpa [List.getElem?_eq_getElem hj] using e
  · rintro ⟨j, hj, e⟩
    refine ⟨j, hj, ?_⟩
    simpa [List.getElem?_eq_getElem hj] using e
theorem tidy_le (l : List Int) : (tidy l).length ≤ l.length := by
  have h : (tidy l).length ≤ (l.mergeSort fun x y => decide (x ≤ y)).length := by
    unfold tidy Lib.compact Lib.compactUpTo
    rw [List.length_map]
    exact Nat.le_trans (List.length_filter_le _ _) (by simp)
  rwa [List.length_mergeSort] at h
theorem tidy_eq {l m : List Int} (h : m.Pairwise (· < ·)) (hm : ∀ x, x ∈ m ↔ x ∈ l) : tidy l = m :=
  rise_ext (tidy_is l).1 h (fun x => by rw [(tidy_is l).2, hm])

theorem sortI_any (w : World) (base c : Nat) (A : Option Addr) (ss : List Int) (h : w.ownsRow base 3 1 (.slice A ss.length c) ss.length (ss.map (Value.int .i64))) (hl : ss.length < 4611686018427387904) :
    Calls Try.prog 106 #[.slice A ss.length c] w fun e w' => e = .returned (.tuple #[]) ∧ w'.ownsRow base 3 1 (.slice A ss.length c) ss.length ((ss.mergeSort fun x y => decide (x ≤ y)).map (Value.int .i64)) ∧ w.grownBy w' (Value.slice A ss.length c).ownBlock := by
  rcases h.2 with ⟨hv, h0⟩ | ⟨g, cap, cur, hv, hg, hb, h1, h2, h3, h4⟩
  · injection hv with e1 _ e3
    subst e1 e3
    obtain rfl := List.length_eq_zero_iff.1 h0
    refine (Go.Proofs.Any.slices_Sort_int_none Try.sortIL none 0 w).mono ?_
    rintro e w' ⟨rfl, rfl⟩
    exact ⟨rfl, by simpa using h, ⟨rfl, rfl, rfl, Nat.le_refl _, fun _ _ _ => rfl⟩⟩
  · injection hv with e1 _ e3
    subst e1 e3
    rw [Nat.mul_one] at h4
    refine (Go.Proofs.Any.slices_Sort_int Try.sortIL g 0 c ss w (holds_of_blockI hb h4) (Array.getElem?_eq_some_iff.1 hb).1 hl).mono ?_
    rintro e w' ⟨rfl, n, os, rfl⟩
    exact ⟨rfl, ownsRow_sortedI (by simp) hg hb h1 h2 h3, grownBy_sortedI _⟩
theorem compactI_le (zs : List Int) : (Lib.compact zs).length ≤ zs.length := by
  unfold Lib.compact Lib.compactUpTo
  rw [List.length_map]
  exact Nat.le_trans (List.length_filter_le _ _) (by simp)
theorem compactI_any (w : World) (base c : Nat) (A : Option Addr) (ss : List Int) (h : w.ownsRow base 3 1 (.slice A ss.length c) ss.length (ss.map (Value.int .i64))) (hl : ss.length ≤ 9223372036854775807) :
    Calls Try.prog 107 #[.slice A ss.length c] w fun e w' => e = .returned (.slice A (Lib.compact ss).length c) ∧ w'.ownsRow base 3 1 (.slice A (Lib.compact ss).length c) (Lib.compact ss).length ((Lib.compact ss).map (Value.int .i64)) ∧ w.grownBy w' (Value.slice A ss.length c).ownBlock := by
  have hle := compactI_le ss
  rcases h.2 with ⟨hv, h0⟩ | ⟨g, cap, cur, hv, hg, hb, h1, h2, h3, h4⟩
  · injection hv with e1 _ e3
    subst e1 e3
    obtain rfl := List.length_eq_zero_iff.1 h0
    refine (Go.Proofs.Any.slices_Compact_int_empty Try.compIL none 0 w).mono ?_
    rintro e w' ⟨rfl, rfl⟩
    exact ⟨rfl, World.ownsRow_nil _ _ _ _, ⟨rfl, rfl, rfl, Nat.le_refl _, fun _ _ _ => rfl⟩⟩
  · injection hv with e1 _ e3
    subst e1 e3
    rw [Nat.mul_one] at h4
    refine (Go.Proofs.Any.slices_Compact_int Try.compIL g 0 c ss w (holds_of_blockI hb h4) hl h1).mono ?_
    rintro e w' ⟨rfl, n, rfl⟩
    have hw := heap_sortedI (n := n) (os := #[]) (Lib.compact ss ++ List.replicate (ss.length - (Lib.compact ss).length) 0).toArray hb
    have hgr := grownBy_sortedI (w := w) (g := g) (n := n) (os := #[]) (Lib.compact ss ++ List.replicate (ss.length - (Lib.compact ss).length) 0).toArray
    rw [grow_empty] at hw hgr
    refine ⟨rfl, ⟨by rw [List.length_map, Nat.mul_one], .inr ⟨g, c, _, rfl, hg, hw, by omega, h2, by simpa [putCells] using h3, ?_⟩⟩, hgr⟩
    have ht := take_putCellsI cur (Lib.compact ss ++ List.replicate (ss.length - (Lib.compact ss).length) 0) (by rw [List.length_append, List.length_replicate]; omega)
    have h6 := congrArg (List.take (Lib.compact ss).length) ht
    rw [List.take_take, List.map_append, List.take_left' (List.length_map _)] at h6
    rw [Nat.mul_one, ← h6]
    congr 1
    rw [List.length_append, List.length_replicate]
    omega

theorem compactI_n (w : World) (base c n : Nat) (A : Option Addr) (ss : List Int) (hn : ss.length = n) (h : w.ownsRow base 3 1 (.slice A n c) n (ss.map (Value.int .i64))) (hl : ss.length ≤ 9223372036854775807) :
    Calls Try.prog 107 #[.slice A n c] w fun e w' => e = .returned (.slice A (Lib.compact ss).length c) ∧ w'.ownsRow base 3 1 (.slice A (Lib.compact ss).length c) (Lib.compact ss).length ((Lib.compact ss).map (Value.int .i64)) ∧ w.grownBy w' (Value.slice A n c).ownBlock := by
  subst hn
  exact compactI_any w base c A ss h hl
theorem own_ne {w : World} {base : Nat} {e : TypeId} {size n : Nat} {v : Value} {xs : List Value} {b : Nat} (h : w.ownsRow base e size v n xs) (hb : b < base) : some b ≠ v.ownBlock := fun e1 => by
  have := own_block h b e1.symm
  omega

/-- A row of ints that is being written: the slice lies in a cell behind V, its row behind that. -/
structure OutSt (V : World) (w : World) (xs : List Int) : Prop where
  below : Below V.heap.size V w
  row : ∃ A c, Blk w V.heap.size 33 #[.slice A xs.length c] ∧ w.ownsRow (V.heap.size + 1) 3 1 (.slice A xs.length c) xs.length (xs.map (Value.int .i64))
  lt : V.heap.size < w.heap.size

theorem own_set {w : World} {base : Nat} {e : TypeId} {size n : Nat} {v u : Value} {xs : List Value} {b : Nat} (h : w.ownsRow base e size v n xs) (hb : b < base) : (w.setCell ⟨b, 0, none⟩ u).ownsRow base e size v n xs := by
  refine h.kept (row := some b) ?_ ?_
  · refine ⟨rfl, rfl, rfl, by simp [World.setCell], fun k _ hne => ?_⟩
    exact Below.heap_setCell w ⟨b, 0, none⟩ u k (fun e => hne (by rw [e]))
  · right
    intro e1
    have := own_block h b e1
    omega
set_option maxHeartbeats 1600000 in
set_option maxRecDepth 100000 in
theorem put_yes (V w : World) (gl gf : Nat) (len first at_ : Int) (xs : List Int) (hl : V.cell? ⟨gl, 0, none⟩ = some (.int .i64 len)) (hf : V.cell? ⟨gf, 0, none⟩ = some (.int .i64 first)) (hgl : gl < V.heap.size) (hgf : gf < V.heap.size)
    (st : OutSt V w xs) (hx : xs.length < 1000) (h0 : 0 ≤ at_) (h1 : at_ < len) (hf0 : 0 ≤ first) (hf1 : first ≤ 1000000) (hlen : len ≤ 31) :
    Calls Try.prog 105 #[.int .i64 at_, .pointer (some ⟨gl, 0, none⟩), .pointer (some ⟨V.heap.size, 0, none⟩), .pointer (some ⟨gf, 0, none⟩)] w fun e w' => e = .returned (.tuple #[]) ∧ OutSt V w' (xs ++ [first + at_]) := by
  obtain ⟨hb, ⟨A, c, hblk, hown⟩, hlt⟩ := st
  have c1 := (hb.cell (p := ⟨gl, 0, none⟩) hgl).trans hl
  have c2 := (hb.cell (p := ⟨gf, 0, none⟩) hgf).trans hf
  have c3 := hblk.cell 0
  have c4 := hblk.frozen 0
  simp only [List.getElem?_toArray, List.getElem?_cons_zero] at c3
  have HO := hide hown
  have HB := hide hblk
  have HV := hide hb
  clear hl hf hown hblk hb
  go_enter Try.func105, Try.ntmps105
  go_wp2_with (at_builtin; refine wpList_append_int rfl (.tmp 12) (.tmp 16) rfl (V.heap.size + 1) xs.length _ xs (first + at_) _ rfl HO.out rfl rfl (by omega) (by omega) ?_; intro v' w1 hown1 hb1; have hbk := HB.out.below hb1 (Nat.lt_succ_self _); have d1 := hbk.cell 0; have d2 := hbk.frozen 0; simp only [List.getElem?_toArray, List.getElem?_cons_zero] at d1; obtain ⟨A2, c2, rfl, _⟩ := own_form hown1; have HO2 := hide hown1; have HB1 := hide hb1; have HBK := hide hbk; clear hown1 hb1 hbk)
  go_returns
  have e : (xs ++ [first + at_]).length = xs.length + 1 := by simp
  refine ⟨rfl, (HV.out.trans (HB1.out.mono (by omega))).setCell (Nat.le_refl _) _, ⟨A2, c2, ?_, ?_⟩, ?_⟩
  · rw [e]
    exact HBK.out.set_ 0 _
  · rw [e]
    exact own_set HO2.out (Nat.lt_succ_self _)
  · have := HB1.out.size
    simp only [World.setCell, Array.size_modify]
    omega

set_option maxHeartbeats 1600000 in
set_option maxRecDepth 100000 in
theorem put_no (V w : World) (gl gf : Nat) (len at_ : Int) (xs : List Int) (hl : V.cell? ⟨gl, 0, none⟩ = some (.int .i64 len)) (hgl : gl < V.heap.size)
    (st : OutSt V w xs) (h : at_ < 0 ∨ (0 ≤ at_ ∧ len ≤ at_)) :
    Calls Try.prog 105 #[.int .i64 at_, .pointer (some ⟨gl, 0, none⟩), .pointer (some ⟨V.heap.size, 0, none⟩), .pointer (some ⟨gf, 0, none⟩)] w fun e w' => e = .returned (.tuple #[]) ∧ OutSt V w' xs := by
  have c1 := (st.below.cell (p := ⟨gl, 0, none⟩) hgl).trans hl
  have ST := hide st
  clear hl st
  rcases h with h | ⟨h, h'⟩
  all_goals
    go_enter Try.func105, Try.ntmps105
    go_wp2
    go_returns
    exact ⟨rfl, ST.out⟩

/-- A day put into a row, if the month has it. -/
def putOut (first len : Int) (xs : List Int) (a : Int) : List Int := if 0 ≤ a ∧ a < len then xs ++ [first + a] else xs
def outsOf (first len : Int) (l : List Int) : List Int := (l.filter (fun a => decide (0 ≤ a ∧ a < len))).map (fun a => first + a)
theorem outs_step {first len : Int} {g : Int → Int} {l : List Int} {j : Nat} (h : j < l.length) : outsOf first len ((l.take (j + 1)).map g) = putOut first len (outsOf first len ((l.take j).map g)) (g l[j]) := by
  unfold outsOf putOut
  rw [List.take_succ_eq_append_getElem h, List.map_append, List.filter_append, List.map_append]
  split
  · rename_i hc
    simp [hc]
  · rename_i hc
    simp [hc]
theorem outsOf_le {first len : Int} (l : List Int) : (outsOf first len l).length ≤ l.length := by
  unfold outsOf
  rw [List.length_map]
  exact List.length_filter_le _ _
theorem put_any (V w : World) (gl gf : Nat) (len first at_ : Int) (xs : List Int) (hl : V.cell? ⟨gl, 0, none⟩ = some (.int .i64 len)) (hf : V.cell? ⟨gf, 0, none⟩ = some (.int .i64 first)) (hgl : gl < V.heap.size) (hgf : gf < V.heap.size)
    (st : OutSt V w xs) (hx : xs.length < 1000) (hf0 : 0 ≤ first) (hf1 : first ≤ 1000000) (hlen : len ≤ 31) :
    Calls Try.prog 105 #[.int .i64 at_, .pointer (some ⟨gl, 0, none⟩), .pointer (some ⟨V.heap.size, 0, none⟩), .pointer (some ⟨gf, 0, none⟩)] w fun e w' => e = .returned (.tuple #[]) ∧ OutSt V w' (putOut first len xs at_) := by
  unfold putOut
  by_cases h : 0 ≤ at_ ∧ at_ < len
  · rw [if_pos h]
    exact put_yes V w gl gf len first at_ xs hl hf hgl hgf st hx h.1 h.2 hf0 hf1 hlen
  · rw [if_neg h]
    exact put_no V w gl gf len at_ xs hl hgl st (by omega)

set_option maxHeartbeats 3200000 in
set_option maxRecDepth 100000 in
theorem monthDays_any (r : Rul) (h : r.Ok) (hu : r.u = 3) (k : Nat) (hk : k ≤ 100001) (v : Value) (w : World) (hr : RulAt w r v) :
    Calls Try.prog 85 #[v, .int .i64 k] w (UnitOut r k w) := by
  have HMM := hide (r.mem_months h hu k)
  obtain ⟨A, B, C, a, b, c, rfl, h1, h2, h3, h4, h5, h6⟩ := hr.ex
  unfold maxLen at h4 h5 h6
  have hblk : r.blk k = firstOf (r.mm k) := by unfold Rul.blk; rw [if_neg (by omega), if_neg (by omega), if_pos hu]
  have hm := k_mul hk h.e
  have hf := h.f
  have hyb := year_bd hf.1 (show r.f ≤ 200000 by omega)
  have hPp := parts_ok r.f
  obtain ⟨⟨p1, p2, p3, p4⟩, _⟩ := hPp
  have hDD := fun w => dateOfDay_any r.f w hf.1 hf.2
  have hmm : r.mm k = 12 * (parts r.f).y + (parts r.f).m - 1 + (k : Int) * r.e := rfl
  have hlw : r.wd.length ≤ 100 := by
    have hx := rise_mem h.wd
    have := pairwise_len (lo := 0) (N := 7) (rise_pairwise h.wd) (fun x hm => by have := hx x hm; omega)
    omega
  have hld : r.da.length ≤ 100 := by
    have hx := rise_mem h.da
    have := pairwise_len (lo := -31) (N := 63) (rise_pairwise h.da) (fun x hm => by have := hx x hm; omega)
    omega
  have HDD := hide hDD
  have hml := mlen_bd (r.mm k / 12) (r.mm k % 12 + 1)
  obtain ⟨ml1, ml2⟩ := hml
  have harg : 12 * (parts r.f).y + (parts r.f).m - 1 + (k : Int) * r.e = r.mm k := rfl
  have HPO : Hid ((∀ w' A c, r.blk k ≤ 100000 → (r.pl k).length ≤ 1000 → IntsAt w' A (r.pl k) → (∀ a, A = some a → w.heap.size ≤ a.block) → Below w.heap.size w w' → UnitOut r k w (.returned (.tuple #[.slice A (r.pl k).length c, .bool true])) w') ∧
      (∀ w' A n c, 100000 < r.blk k → Below w.heap.size w w' → UnitOut r k w (.returned (.tuple #[.slice A n c, .bool false])) w')) :=
    hide ⟨fun w' A c ha hl hi hn hb => unit_yes (c := c) ha rfl hi (fun _ => hn) hl hb, fun w' A n c ha hb => unit_no ha hb⟩
  generalize UnitOut r k w = PO at *
  rw [hblk] at HPO
  obtain ⟨y1, y2⟩ := hyb
  obtain ⟨q1, q2⟩ := hm
  have hMb : 24012 ≤ r.mm k ∧ r.mm k ≤ 1000000000 := by rw [hmm]; omega
  have hMl : r.mm k ≤ 1000000000 := hMb.2
  clear hDD
  by_cases hfar : 100000 < firstOf (r.mm k)
  · have HM := hide (fun w => month_no (r.mm k) w hMb.1 hMb.2 hfar)
    rw [← harg] at HM
    have HF := hide (HPO.out.2 · · · · hfar)
    clear HPO HMM hfar hblk hmm hMb hMl harg hlw hld ml1 ml2 hr h1 h2 h3
    have hff := h.f
    obtain ⟨f0, f1⟩ := hff
    clear h hf
    obtain ⟨u, e, f, t, cc, n, wd, da, sk⟩ := r
    simp only at *
    generalize parts f = P at *
    generalize hq : (k : Int) * e = q at *
    have HQ := hide hq
    clear hq hu
    have hmul : IntKind.i64.wrap ((k : Int) * e) = q := by rw [HQ.out]; exact IntWalk.i64_in _ (by omega)
    go_enter Try.func85, Try.ntmps85
    go_wp2_with (first | (go_at_call 103; refine (HDD.out _).mono ?_; rintro e w' ⟨rfl, hbl⟩; obtain ⟨os1, n1, rfl⟩ := below_plus hbl; clear hbl) | (go_at_call 104; refine (HM.out _).mono ?_; rintro e w' ⟨rfl, hbl⟩; obtain ⟨os2, n2, rfl⟩ := below_plus hbl; clear hbl))
    exact HF.out _ _ _ _ (by repeat (first | exact Below.refl _ _ | refine bl_plus ?_ | refine bl_alloc ?_ _ | refine bl_drew ?_ | refine bl_drewN ?_ _))
  · have HM := hide (show ∀ w, Calls Try.prog 104 #[.int .i64 (12 * (parts r.f).y + (parts r.f).m - 1 + (k : Int) * r.e)] w fun e w' => e = .returned (.tuple #[.int .i64 (firstOf (r.mm k)), .int .i64 (mlen (r.mm k / 12) (r.mm k % 12 + 1)), .bool true]) ∧ Below w.heap.size w w' from fun w => month_yes (r.mm k) w hMb.1 (by omega))
    have hfo : 0 ≤ firstOf (r.mm k) := by
      have := r.blk_ge h.e.1 h.f.1 k
      omega
    have HF := hide (HPO.out.1 · · · (by omega))
    have hpl : r.pl k = tidy (outsOf (firstOf (r.mm k)) (mlen (r.mm k / 12) (r.mm k % 12 + 1)) (r.ats (firstOf (r.mm k)) (mlen (r.mm k / 12) (r.mm k % 12 + 1)))) := (tidy_eq (r.pl_rising k) HMM.out).symm
    rw [hpl] at HF
    have hF1 : firstOf (r.mm k) ≤ 100000 := by omega
    clear hpl HPO HMM hfar hblk hmm hMb hMl hr
    generalize firstOf (r.mm k) = F at *
    generalize mlen (r.mm k / 12) (r.mm k % 12 + 1) = L at *
    clear harg
    have hats : ∀ F L, r.ats F L = if r.wd ≠ [] then r.wd.map (Rul.wAt r.n F L) else if r.da ≠ [] then r.da.map (Rul.dAt L) else [(parts r.f).d - 1] := fun _ _ => rfl
    rw [hats] at HF
    clear hats
    have hff := h.f
    obtain ⟨f0, f1⟩ := hff
    have HWB := hide (rise_mem h.wd)
    have HDB := hide (rise_mem h.da)
    have hnb := h.n
    obtain ⟨n0, n1⟩ := hnb
    have hPd : (parts r.f).d ≤ 31 := by have := mlen_bd (parts r.f).y (parts r.f).m; omega
    clear h hf p4
    obtain ⟨u, e, f, t, cc, n, wd, da, sk⟩ := r
    simp only at *
    generalize parts f = P at *
    generalize hq : (k : Int) * e = q at *
    have HQ := hide hq
    clear hq hu
    have hmul : IntKind.i64.wrap ((k : Int) * e) = q := by rw [HQ.out]; exact IntWalk.i64_in _ (by omega)
    have HI1 := hide h1
    have HI2 := hide h2
    clear h1 h2 h3
    go_enter Try.func85, Try.ntmps85
    go_upto_region 6 with (first | (go_at_call 103; refine (HDD.out _).mono ?_; rintro e w' ⟨rfl, hbl⟩; obtain ⟨os1, n1, rfl⟩ := below_plus hbl; clear hbl) | (go_at_call 104; refine (HM.out _).mono ?_; rintro e w' ⟨rfl, hbl⟩; obtain ⟨os2, n2, rfl⟩ := below_plus hbl; clear hbl))
    have hB1 : Blk (plus (plus (w.alloc (.cells #[.int .i64 u, .int .i64 e, .int .i64 f, .int .i64 t, .int .i64 cc, .slice A wd.length a, .slice B da.length b, .int .i64 n, .slice C sk.length c] 35)) os1 n1) os2 n2) w.heap.size 35 #[.int .i64 u, .int .i64 e, .int .i64 f, .int .i64 t, .int .i64 cc, .slice A wd.length a, .slice B da.length b, .int .i64 n, .slice C sk.length c] := Blk.plus (Blk.plus (Blk.new ..))
    have hBW : Below w.heap.size w (plus (plus (w.alloc (.cells #[.int .i64 u, .int .i64 e, .int .i64 f, .int .i64 t, .int .i64 cc, .slice A wd.length a, .slice B da.length b, .int .i64 n, .slice C sk.length c] 35)) os1 n1) os2 n2) := (by repeat (first | exact Below.refl _ _ | refine bl_plus ?_ | refine bl_alloc ?_ _ | refine bl_drew ?_ | refine bl_drewN ?_ _))
    have hsz : w.heap.size + 1 + os1.size + os2.size = (plus (plus (w.alloc (.cells #[.int .i64 u, .int .i64 e, .int .i64 f, .int .i64 t, .int .i64 cc, .slice A wd.length a, .slice B da.length b, .int .i64 n, .slice C sk.length c] 35)) os1 n1) os2 n2).heap.size := by simp only [plus_size, World.size_alloc]
    rw [hsz]
    have HB1 := hide hB1
    have HBW := hide hBW
    clear hB1 hBW hsz
    generalize (plus (plus (w.alloc (.cells #[.int .i64 u, .int .i64 e, .int .i64 f, .int .i64 t, .int .i64 cc, .slice A wd.length a, .slice B da.length b, .int .i64 n, .slice C sk.length c] 35)) os1 n1) os2 n2) = V0 at *
    have HVB := hide (show Below w.heap.size w ((V0.alloc (.cells #[.int .i64 F] 3)).alloc (.cells #[.int .i64 L] 3)) from bl_alloc (bl_alloc HBW.out _) _)
    have HVR := hide (show Blk ((V0.alloc (.cells #[.int .i64 F] 3)).alloc (.cells #[.int .i64 L] 3)) w.heap.size 35 #[.int .i64 u, .int .i64 e, .int .i64 f, .int .i64 t, .int .i64 cc, .slice A wd.length a, .slice B da.length b, .int .i64 n, .slice C sk.length c] from Blk.alloc (Blk.alloc HB1.out _) _)
    have HVF := hide (show Blk ((V0.alloc (.cells #[.int .i64 F] 3)).alloc (.cells #[.int .i64 L] 3)) V0.heap.size 3 #[.int .i64 F] from Blk.alloc (Blk.new ..) _)
    have HVL := hide (show Blk ((V0.alloc (.cells #[.int .i64 F] 3)).alloc (.cells #[.int .i64 L] 3)) (V0.heap.size + 1) 3 #[.int .i64 L] from by have := Blk.new (V0.alloc (.cells #[.int .i64 F] 3)) 3 #[.int .i64 L]; rwa [World.size_alloc] at this)
    have hVs : V0.heap.size + 1 + 1 = ((V0.alloc (.cells #[.int .i64 F] 3)).alloc (.cells #[.int .i64 L] 3)).heap.size := by simp only [World.size_alloc]
    rw [hVs]
    clear hVs HB1 HBW
    generalize ((V0.alloc (.cells #[.int .i64 F] 3)).alloc (.cells #[.int .i64 L] 3)) = V at *
    generalize V0.heap.size + 1 = gl at *
    generalize V0.heap.size = gf at *
    have HST := hide (show OutSt V (V.alloc (.cells #[.slice none 0 0] 33)) [] from ⟨bl_alloc (Below.refl _ _) _, ⟨none, 0, Blk.new .., World.ownsRow_nil _ _ _ _⟩, by simp⟩)
    generalize V.alloc (.cells #[.slice none 0 0] 33) = W at *
    have HC := hide (fun (wr : World) (xs : List Int) (st : OutSt V wr xs) => (⟨(st.below.cell (p := ⟨gf, 0, none⟩) HVF.out.lt).trans (HVF.out.cell 0), (st.below.cell (p := ⟨gl, 0, none⟩) HVL.out.lt).trans (HVL.out.cell 0),
      (st.below.cell (p := ⟨w.heap.size, 5, none⟩) HVR.out.lt).trans (HVR.out.cell 5), (st.below.cell (p := ⟨w.heap.size, 6, none⟩) HVR.out.lt).trans (HVR.out.cell 6), (st.below.cell (p := ⟨w.heap.size, 7, none⟩) HVR.out.lt).trans (HVR.out.cell 7)⟩ :
      wr.cell? ⟨gf, 0, none⟩ = some (.int .i64 F) ∧ wr.cell? ⟨gl, 0, none⟩ = some (.int .i64 L) ∧ wr.cell? ⟨w.heap.size, 5, none⟩ = some (.slice A wd.length a) ∧ wr.cell? ⟨w.heap.size, 6, none⟩ = some (.slice B da.length b) ∧ wr.cell? ⟨w.heap.size, 7, none⟩ = some (.int .i64 n)))
    have HPUT := hide (fun (wr : World) (xs : List Int) (at_ : Int) (st : OutSt V wr xs) (hx : xs.length < 1000) => put_any V wr gl gf L F at_ xs (HVL.out.cell 0) (HVF.out.cell 0) HVL.out.lt HVF.out.lt st hx hfo (by omega) ml2)
    by_cases hwd : wd = []
    · by_cases hda : da = []
      · subst hwd hda
        rw [if_neg (by simp), if_neg (by simp)] at HF
        obtain ⟨c1, c2, c3, c4, c5⟩ := HC.out _ _ HST.out
        simp only [List.length_nil] at c3 c4
        have HLN := hide (show (outsOf F L [P.d - 1]).length ≤ 1000 from Nat.le_trans (outsOf_le _) (by simp))
        have hpo : putOut F L [] (P.d - 1) = outsOf F L [P.d - 1] := (outs_step (first := F) (len := L) (g := fun x => x) (l := [P.d - 1]) (j := 0) (by simp)).symm
        have HPX := hide (HPUT.out _ _ (P.d - 1) HST.out (by simp))
        rw [hpo] at HPX
        clear hpo
        generalize outsOf F L [P.d - 1] = xs at *
        go_wp2_with (first | (go_at_call 105; refine HPX.out.mono ?_; rintro e w' ⟨rfl, hst⟩; obtain ⟨A3, c6, hblk, hown⟩ := hst.row; have d1 := hblk.cell 0; simp only [List.getElem?_toArray, List.getElem?_cons_zero] at d1; have HBK := hide hblk; have HOW := hide hown; have ST := hide hst; clear hst hblk hown) | (go_at_call 106; refine (sortI_any _ _ _ _ _ HOW.out (by have := HLN.out; omega)).mono ?_; rintro e w' ⟨rfl, hown, hgr⟩; have hblk2 := HBK.out.grown hgr (own_ne HOW.out (Nat.lt_succ_self _)); have d2 := hblk2.cell 0; simp only [List.getElem?_toArray, List.getElem?_cons_zero] at d2; have HO2 := hide hown; have HG1 := hide hgr; clear hblk2 hown hgr) | (go_at_call 107; refine (compactI_n _ _ _ _ _ _ (List.length_mergeSort _) HO2.out (by rw [List.length_mergeSort]; have := HLN.out; omega)).mono ?_; rintro e w' ⟨rfl, hown, hgr⟩; have HO3 := hide hown; have HG2 := hide hgr; clear hown hgr))
        exact HF.out _ _ _ (by have h1 := HLN.out; have h2 := tidy_le xs; omega) (intsAt_of_own HO3.out) (fun a ha => by have h1 := own_addr HO3.out a ha; have h2 := HVB.out.size; omega) (HVB.out.trans (Below.mono (Below.grown (Below.grown ST.out.below HG1.out ST.out.below.size (fun k hk => by have := own_block HOW.out k hk; omega)) HG2.out (by have h1 := ST.out.below.size; have h2 := HG1.out.size; omega) (fun k hk => by have := own_block HO2.out k hk; omega)) HVB.out.size))
      · subst hwd
        rw [if_neg (by simp), if_pos hda] at HF
        simp only [List.length_nil] at HC ⊢
        have hw0 : 0 < da.length := List.length_pos_iff.2 hda
        have HLN := hide (show (outsOf F L (da.map (Rul.dAt L))).length ≤ 1000 from Nat.le_trans (outsOf_le _) (by rw [List.length_map]; omega))
        obtain ⟨c1, c2, c3, c4, c5⟩ := HC.out _ _ HST.out
        have i0 : (0 : Int) < (da.length : Int) := by omega
        go_wp2
        go_loopw [107] (fun i wr => ∃ j : Nat, j ≤ da.length ∧ i = .int .i64 j ∧ Hid (OutSt V wr (outsOf F L ((da.take j).map (Rul.dAt L))))) (fun i _ => da.length - (intOf i).toNat)
        case atStart => exact ⟨0, Nat.zero_le _, rfl, hide (by exact HST.out)⟩
        case round =>
          obtain ⟨j, hj, rfl, ST⟩ := hrel
          clear c1 c2 c3 c4 c5 HST
          by_cases hlt : j < da.length
          · obtain ⟨b', off, rfl, hb', hcell⟩ := HI2.out (by omega)
            have c0 := (ST.out.below.cell (p := ⟨b', off + j, none⟩) (Nat.lt_of_lt_of_le hb' HVB.out.size)).trans ((HVB.out.cell (p := ⟨b', off + j, none⟩) hb').trans (hcell j hlt))
            obtain ⟨d1, d2, d3, d4, d5⟩ := HC.out _ _ ST.out
            have hwj := HDB.out da[j] (List.getElem_mem hlt)
            obtain ⟨x0, x1⟩ := hwj
            have hpx := HPUT.out wr _ ((Rul.dAt L) da[j]) ST.out (by have := outsOf_le (first := F) (len := L) ((da.take j).map (Rul.dAt L)); rw [List.length_map, List.length_take] at this; omega)
            rw [← outs_step (g := Rul.dAt L) hlt] at hpx
            have HPX := hide hpx
            have i1 : (j : Int) < (da.length : Int) := by omega
            clear hpx hcell
            generalize da[j] = x at *
            by_cases hc : 0 < x
            · rw [Rul.dAt, if_pos hc] at HPX
              go_wp2_with (go_at_call 105; refine HPX.out.mono ?_; rintro e w' ⟨rfl, hst⟩; have ST2 := hide hst; clear hst)
              go_roundw
              case rel => exact ⟨j + 1, hlt, by go_num, ST2⟩
              case measure => simp [intOf]; omega
            · rw [Rul.dAt, if_neg hc] at HPX
              go_wp2_with (go_at_call 105; refine HPX.out.mono ?_; rintro e w' ⟨rfl, hst⟩; have ST2 := hide hst; clear hst)
              go_roundw
              case rel => exact ⟨j + 1, hlt, by go_num, ST2⟩
              case measure => simp [intOf]; omega
          · have hjl : j = da.length := by omega
            subst hjl
            rw [List.take_length] at ST
            generalize outsOf F L (da.map (Rul.dAt L)) = xs at *
            obtain ⟨A3, c6, hblk, hown⟩ := ST.out.row
            have d1 := hblk.cell 0
            simp only [List.getElem?_toArray, List.getElem?_cons_zero] at d1
            have HBK := hide hblk
            have HOW := hide hown
            clear hblk hown
            go_wp2_with (first | (go_at_call 106; refine (sortI_any _ _ _ _ _ HOW.out (by have := HLN.out; omega)).mono ?_; rintro e w' ⟨rfl, hown, hgr⟩; have hblk2 := HBK.out.grown hgr (own_ne HOW.out (Nat.lt_succ_self _)); have d2 := hblk2.cell 0; simp only [List.getElem?_toArray, List.getElem?_cons_zero] at d2; have HO2 := hide hown; have HG1 := hide hgr; clear hblk2 hown hgr) | (go_at_call 107; refine (compactI_n _ _ _ _ _ _ (List.length_mergeSort _) HO2.out (by rw [List.length_mergeSort]; have := HLN.out; omega)).mono ?_; rintro e w' ⟨rfl, hown, hgr⟩; have HO3 := hide hown; have HG2 := hide hgr; clear hown hgr))
            exact HF.out _ _ _ (by have h1 := HLN.out; have h2 := tidy_le xs; omega) (intsAt_of_own HO3.out) (fun a ha => by have h1 := own_addr HO3.out a ha; have h2 := HVB.out.size; omega) (HVB.out.trans (Below.mono (Below.grown (Below.grown ST.out.below HG1.out ST.out.below.size (fun k hk => by have := own_block HOW.out k hk; omega)) HG2.out (by have h1 := ST.out.below.size; have h2 := HG1.out.size; omega) (fun k hk => by have := own_block HO2.out k hk; omega)) HVB.out.size))
    · rw [if_pos hwd] at HF
      have hw0 : 0 < wd.length := List.length_pos_iff.2 hwd
      have HLN := hide (show (outsOf F L (wd.map (Rul.wAt n F L))).length ≤ 1000 from Nat.le_trans (outsOf_le _) (by rw [List.length_map]; omega))
      obtain ⟨c1, c2, c3, c4, c5⟩ := HC.out _ _ HST.out
      have i0 : (0 : Int) < (wd.length : Int) := by omega
      go_wp2
      go_loopw [59] (fun i wr => ∃ j : Nat, j ≤ wd.length ∧ i = .int .i64 j ∧ Hid (OutSt V wr (outsOf F L ((wd.take j).map (Rul.wAt n F L))))) (fun i _ => wd.length - (intOf i).toNat)
      case atStart => exact ⟨0, Nat.zero_le _, rfl, hide (by exact HST.out)⟩
      case round =>
        obtain ⟨j, hj, rfl, ST⟩ := hrel
        clear c1 c2 c3 c4 c5 HST
        by_cases hlt : j < wd.length
        · obtain ⟨b', off, rfl, hb', hcell⟩ := HI1.out (by omega)
          have c0 := (ST.out.below.cell (p := ⟨b', off + j, none⟩) (Nat.lt_of_lt_of_le hb' HVB.out.size)).trans ((HVB.out.cell (p := ⟨b', off + j, none⟩) hb').trans (hcell j hlt))
          obtain ⟨d1, d2, d3, d4, d5⟩ := HC.out _ _ ST.out
          have hwj := HWB.out wd[j] (List.getElem_mem hlt)
          obtain ⟨x0, x1⟩ := hwj
          have hpx := HPUT.out wr _ ((Rul.wAt n F L) wd[j]) ST.out (by have := outsOf_le (first := F) (len := L) ((wd.take j).map (Rul.wAt n F L)); rw [List.length_map, List.length_take] at this; omega)
          rw [← outs_step (g := Rul.wAt n F L) hlt] at hpx
          have HPX := hide hpx
          have i1 : (j : Int) < (wd.length : Int) := by omega
          clear hpx hcell
          generalize wd[j] = x at *
          by_cases hc : n < 0
          · rw [Rul.wAt, if_pos hc, show ((F + L - 1) % 7 - x + 7) % 7 = (F + L - 1 - x) % 7 by omega] at HPX
            go_wp2_with (go_at_call 105; refine HPX.out.mono ?_; rintro e w' ⟨rfl, hst⟩; have ST2 := hide hst; clear hst)
            go_roundw
            case rel => exact ⟨j + 1, hlt, by go_num, ST2⟩
            case measure => simp [intOf]; omega
          · rw [Rul.wAt, if_neg hc, show (x - F % 7 + 7) % 7 = (x - F) % 7 by omega] at HPX
            go_wp2_with (go_at_call 105; refine HPX.out.mono ?_; rintro e w' ⟨rfl, hst⟩; have ST2 := hide hst; clear hst)
            go_roundw
            case rel => exact ⟨j + 1, hlt, by go_num, ST2⟩
            case measure => simp [intOf]; omega
        · have hjl : j = wd.length := by omega
          subst hjl
          rw [List.take_length] at ST
          generalize outsOf F L (wd.map (Rul.wAt n F L)) = xs at *
          obtain ⟨A3, c6, hblk, hown⟩ := ST.out.row
          have d1 := hblk.cell 0
          simp only [List.getElem?_toArray, List.getElem?_cons_zero] at d1
          have HBK := hide hblk
          have HOW := hide hown
          clear hblk hown
          go_wp2_with (first | (go_at_call 106; refine (sortI_any _ _ _ _ _ HOW.out (by have := HLN.out; omega)).mono ?_; rintro e w' ⟨rfl, hown, hgr⟩; have hblk2 := HBK.out.grown hgr (own_ne HOW.out (Nat.lt_succ_self _)); have d2 := hblk2.cell 0; simp only [List.getElem?_toArray, List.getElem?_cons_zero] at d2; have HO2 := hide hown; have HG1 := hide hgr; clear hblk2 hown hgr) | (go_at_call 107; refine (compactI_n _ _ _ _ _ _ (List.length_mergeSort _) HO2.out (by rw [List.length_mergeSort]; have := HLN.out; omega)).mono ?_; rintro e w' ⟨rfl, hown, hgr⟩; have HO3 := hide hown; have HG2 := hide hgr; clear hown hgr))
          exact HF.out _ _ _ (by have h1 := HLN.out; have h2 := tidy_le xs; omega) (intsAt_of_own HO3.out) (fun a ha => by have h1 := own_addr HO3.out a ha; have h2 := HVB.out.size; omega) (HVB.out.trans (Below.mono (Below.grown (Below.grown ST.out.below HG1.out ST.out.below.size (fun k hk => by have := own_block HOW.out k hk; omega)) HG2.out (by have h1 := ST.out.below.size; have h2 := HG1.out.size; omega) (fun k hk => by have := own_block HO2.out k hk; omega)) HVB.out.size))

end Go.Proofs.Ytpbkidjbbhkjnaa
