/-
  WALKS: the reader's phrase.
-/
import Derived.Test.YtfklaahakibljaaQryB
namespace Go.Proofs.Ytfklaahakibljaa
open Go.RowKit Go.Shelf
attribute [local go_sem] Oper.semAt_some

/-- What a reader's part hands back. -/
def PartOut (s : ByteArray) (g : Nat) (w : World) (r : PR) (e : Ending) (w' : World) : Prop :=
  match r with
  | .good p j => ∃ A c, e = .returned (.agg #[.int .i64 p.k, .slice A p.ws.length c]) ∧ StrsIn w' A p.ws ∧ RdTo w g s j (-1) w'
  | .bad k => ∃ k' A m c i', e = .returned (.agg #[.int .i64 k', .slice A m c]) ∧ i' ≤ s.size ∧ RdTo w g s (i' : Nat) k w'

theorem RdTo.base (w : World) (g : Nat) (s : ByteArray) (i wr : Int) : RdTo w g s i wr (putBlk w g 94 #[.string s, .int .i64 i, .int .i64 wr]) := ⟨#[], _, plus_nil.symm⟩
theorem RdTo.alloc {w w' : World} {g : Nat} {s : ByteArray} {i wr : Int} (h : RdTo w g s i wr w') (o : Obj) : RdTo w g s i wr (w'.alloc o) := by
  obtain ⟨os, n, rfl⟩ := h
  exact ⟨_, _, plus_alloc o⟩
theorem RdTo.plus {w w' : World} {g : Nat} {s : ByteArray} {i wr : Int} (h : RdTo w g s i wr w') (os : Array Obj) (n : Nat) : RdTo w g s i wr (Go.Proofs.Ytfklaahakibljaa.plus w' os n) := by
  obtain ⟨os1, n1, rfl⟩ := h
  exact ⟨_, _, plus_plus⟩

set_option maxHeartbeats 1600000 in
theorem phrase_none (s : ByteArray) (i g : Nat) (w : World) (h : Blk w g 94 #[.string s, .int .i64 i, .int .i64 (-1)]) (hi : i ≤ s.size) (h1 : 1 ≤ i) (hs : s.size ≤ 400) (hx : ixB (s.extract i s.size) 34 = -1) :
    Calls Try.prog 172 #[.pointer (some ⟨g, 0, none⟩)] w (PartOut s g w (.bad ((i : Int) - 1))) := by
  have c0 := h.cell 0
  have c1 := h.cell 1
  have hl := h.lt
  have H := hide h
  have HI := hide (fun w => indexByte_any (s.extract i s.size) 34 w)
  rw [hx] at HI
  clear h hx
  simp only [List.getElem?_toArray, List.getElem?_cons_zero, List.getElem?_cons_succ] at c0 c1
  have i1 : (i : Int) ≤ (s.size : Int) := by omega
  go_enter Try.func172, Try.ntmps172
  go_wp2_with (first
    | (go_at_call 138; refine (HI.out _).mono ?_; rintro e w' ⟨rfl, rfl⟩)
    | (go_at_call 137; refine (fail_yes s i _ g _ ((H.out.alloc _).alloc _)).mono ?_; rintro e w' ⟨rfl, os, n, rfl⟩))
  go_returns
  exact ⟨3, none, 0, 0, i, rfl, hi, (((RdTo.base w g s _ _).alloc _).alloc _).plus _ _⟩

theorem pbox_plus {w1 W : World} {v : Value} (hb : Below w1.heap.size w1 W) (hp : PBox W w1.heap.size v) : ∃ os n, W = plus (w1.alloc (.cells #[.int .i64 3, v] 102)) os n := by
  refine below_plus ⟨hb.os, hb.tape, hb.output, ?_, fun k hk => ?_⟩
  · have := hp.lt; simp; omega
  · by_cases h : k < w1.heap.size
    · exact (hb.block k h).trans (Below.heap_alloc w1 _ k h).symm
    · have : k = w1.heap.size := by simp at hk; omega
      subst this
      exact (show W.heap[w1.heap.size]? = _ from hp).trans (heap_alloc_new w1 _).symm
theorem plus_far {A B : World} {os : Array Obj} {m n D : Nat} (hs : B.heap.size = A.heap.size) (hD : A.heap.size ≤ D) : (plus B os m).heap[D]? = (plus A os n).heap[D]? := by
  simp only [plus, Array.getElem?_append]
  rw [if_neg (by omega), if_neg (by omega), hs]
theorem plus_putObj {W : World} {os : Array Obj} {n D : Nat} {o : Obj} (hD : W.heap.size ≤ D) : (plus W os n).putObj D o = plus W (os.setIfInBounds (D - W.heap.size) o) n := by
  simp only [World.putObj, plus]
  congr 1
  apply Array.ext_getElem?
  intro k
  simp only [Array.getElem?_setIfInBounds, Array.getElem?_append, Array.size_append]
  by_cases hk : k < W.heap.size
  · rw [if_pos hk, if_neg (by omega), if_pos hk]
  · rw [if_neg hk, if_neg hk]
    by_cases hd : D = k
    · subst hd
      by_cases h2 : D < W.heap.size + os.size
      · have h3 : D - W.heap.size < os.size := by omega
        simp [h2, h3]
      · have h3 : ¬ D - W.heap.size < os.size := by omega
        simp [h2, h3]
    · rw [if_neg hd, if_neg (by omega)]
theorem RdTo.putObj {w w' : World} {g D : Nat} {s : ByteArray} {i wr : Int} (h : RdTo w g s i wr w') (hD : w.heap.size ≤ D) (o : Obj) : RdTo w g s i wr (w'.putObj D o) := by
  obtain ⟨os, n, rfl⟩ := h
  exact ⟨_, n, plus_putObj (by rw [putBlk_size]; exact hD)⟩
theorem StrsIn.putObj {w : World} {A : Option Addr} {ws : List ByteArray} {D : Nat} {o o' : Obj} (h : StrsIn w A ws) (hd : w.heap[D]? = some o) (hc : o.isCells = false) : StrsIn (w.putObj D o') A ws := fun hl => by
  obtain ⟨b, cur, hA, hb, hc2⟩ := h hl
  refine ⟨b, cur, hA, (World.putObj_heap_other (fun e => ?_)).trans hb, hc2⟩
  subst e
  rw [hb] at hd; cases hd; cases hc


/-- The box of the loop's variable, above what lay. -/
def WBox2 (m : Nat) (x : Wd) (Bx : Nat) (W : World) : Prop := m < Bx ∧ W.heap[Bx]? = some (.cells #[.string x.t, .int .i64 x.f, .int .i64 x.u] 34 (0, 0))
theorem info_str : (Try.prog.info? 9).map (fun i => (i.zero, i.size, i.bytes)) = some (some (.string ByteArray.empty), 1, 16) := by kernel_rfl

theorem ownsRow_form {w : World} {base n size : Nat} {v : Value} {e : TypeId} {xs : List Value} (h : w.ownsRow base e size v n xs) : ∃ A c, v = .slice A n c := by
  rcases h.2 with ⟨rfl, rfl⟩ | ⟨g, cap, cur, rfl, _⟩
  · exact ⟨none, 0, rfl⟩
  · exact ⟨_, cap, rfl⟩
theorem keepT_two {w : World} {g m : Nat} {os : Array Obj} {cs cs' a b c d : Array Value} (hB : Blk w g 94 cs) :
    KeepT 9 (plus ((w.alloc (.cells a 102)).alloc (.cells b 102)) os m) (plus (((putBlk w g 94 cs').alloc (.cells c 102)).alloc (.cells d 102)) os m) := by
  intro x cur hx
  have hx' : Blk _ x 9 cur := hx
  by_cases h1 : x < w.heap.size
  · have e : ∀ (v : World) (q r : Obj), x < v.heap.size → (plus ((v.alloc q).alloc r) os m).heap[x]? = v.heap[x]? := fun v q r hv =>
      (plus_heap (by simp; omega)).trans ((Below.heap_alloc _ _ x (by simp; omega)).trans (Below.heap_alloc v _ x hv))
    rw [e w _ _ h1] at hx
    have hne : x ≠ g := Blk.ne_ (show Blk w x 9 cur from hx) hB (by decide)
    rw [e _ _ _ (by rw [putBlk_size]; exact h1), putBlk_heap hne]
    exact hx
  · by_cases h2 : x = w.heap.size
    · subst h2
      exact absurd rfl (Blk.ne_ hx' (((Blk.new w _ a).alloc _).plus) (by decide))
    · by_cases h3 : x = w.heap.size + 1
      · subst h3
        have := Blk.new (w.alloc (.cells a 102)) 102 b
        rw [World.size_alloc] at this
        exact absurd rfl (Blk.ne_ hx' this.plus (by decide))
      · exact (plus_far (by simp [putBlk_size]) (by simp; omega)).trans hx
@[go_sem] theorem putBlk_set {w : World} {g i : Nat} {t : TypeId} {cs : Array Value} {v : Value} : putBlk (w.setCell ⟨g, i, none⟩ v) g t cs = putBlk w g t cs := by
  simp only [World.setCell, putBlk]
  congr 1
  apply Array.ext_getElem?
  intro k
  simp only [Array.getElem?_modify, Array.getElem?_setIfInBounds, Array.size_modify]
  by_cases hk : g = k
  · subst hk; simp
  · simp [hk]
theorem new1_cell {w : World} {t : TypeId} {v : Value} {g : Nat} (hg : g = w.heap.size) : ∀ j u, ([v] : List Value)[j]? = some u → (w.alloc (.cells #[v] t)).cell? ((⟨g, 0, none⟩ : Addr).add j) = some u := by
  subst hg
  intro j u hj
  cases j with
  | zero =>
    simp only [List.getElem?_cons_zero] at hj
    show (w.alloc (.cells #[v] t)).cell? ⟨w.heap.size, 0, none⟩ = some u
    rw [(Blk.new w t #[v]).cell 0]
    simpa using hj
  | succ j => simp at hj

set_option maxRecDepth 100000 in
set_option maxHeartbeats 6400000 in
theorem phrase_some (n : Nat) (hn : 2 ≤ n) (s : ByteArray) (i N g : Nat) (w : World) (h : Blk w g 94 #[.string s, .int .i64 i, .int .i64 (-1)]) (hi : i + N < s.size) (h1 : 1 ≤ i) (hs : s.size ≤ 400) (hx : ixB (s.extract i s.size) 34 = N) :
    CallsIn Fence.wide n Try.prog 172 #[.pointer (some ⟨g, 0, none⟩)] w (PartOut s g w (if wTexts (s.extract i (i + N)) = [] then .bad ((i : Int) - 1) else .good ⟨3, wTexts (s.extract i (i + N))⟩ (i + N + 1))) := by
  have hn1 : 1 ≤ n := by omega
  have c0 := h.cell 0
  have c1 := h.cell 1
  have hl := h.lt
  have H := hide h
  have HI := hide (fun w => indexByte_any (s.extract i s.size) 34 w)
  rw [hx] at HI
  clear h hx
  simp only [List.getElem?_toArray, List.getElem?_cons_zero, List.getElem?_cons_succ] at c0 c1
  have i1 : (i : Int) ≤ (s.size : Int) := by omega
  have i2 : (i : Int) + (N : Int) ≤ (s.size : Int) := by omega
  have i3 : (i : Int) ≤ (i : Int) + (N : Int) := by omega
  have x1 : IntKind.i64.wrap ((i : Int) + (N : Int)) = (i : Int) + (N : Int) := by rw [wrap_small] <;> omega
  have x2 : ((i : Int) + (N : Int)).toNat = i + N := by omega
  obtain ⟨i0, hi0, hz0, hz1, hz2⟩ := info_parts info_str
  generalize hR : (if wTexts (s.extract i (i + N)) = [] then PR.bad ((i : Int) - 1) else PR.good ⟨3, wTexts (s.extract i (i + N))⟩ (i + N + 1)) = R
  have HR := hide hR
  clear hR
  refine callsIn_of_wp_marks Try.func172 rfl trivial ?_ rfl
  simp only [Try.ntmps172, List.size_toArray, List.length_cons, List.length_nil, Nat.reduceAdd, Nat.reduceSub, Array.replicate_succ, Array.replicate_zero, List.push_toArray, List.append_toArray, List.nil_append, List.cons_append]
  gi_wp2_with (first
    | (refine ⟨trivial, ?_⟩; gi_at_call 138; refine (callsIn_wide.2 (HI.out _)).mono ?_; rintro e w' ⟨rfl, rfl⟩)
    | (refine ⟨trivial, ?_⟩; gi_at_call 62; refine (wordsOf_in _ _ _).mono ?_; rintro e w' ⟨rfl, rfl⟩))
  have hsz : (s.extract i (i + N)).size ≤ 1900000 := by rw [ByteArray.size_extract]; omega
  have bS := (Blk.new ((w.alloc (.cells #[.int .i64 0, .slice none 0 0] 102)).alloc (.cells #[.int .i64 3, .slice none 0 0] 102)) 9 #[.string (s.extract i (i + N))]).cell 0
  rw [World.size_alloc, World.size_alloc] at bS
  have bP : PBox (((w.alloc (.cells #[.int .i64 0, .slice none 0 0] 102)).alloc (.cells #[.int .i64 3, .slice none 0 0] 102)).alloc (.cells #[.string (s.extract i (i + N))] 9)) (w.heap.size + 1) (.slice none 0 0) := by
    have := (Blk.new (w.alloc (.cells #[.int .i64 0, .slice none 0 0] 102)) 102 #[.int .i64 3, .slice none 0 0]).alloc (.cells #[.string (s.extract i (i + N))] 9)
    rwa [World.size_alloc] at this
  have hB0 : Below (w.heap.size + 1) (w.alloc (.cells #[.int .i64 0, .slice none 0 0] 102)) (((w.alloc (.cells #[.int .i64 0, .slice none 0 0] 102)).alloc (.cells #[.int .i64 3, .slice none 0 0] 102)).alloc (.cells #[.string (s.extract i (i + N))] 9)) :=
    ((Below.refl _ _).alloc (by simp) _).alloc (by simp) _
  refine wpIn_rangeFunc_ownH rfl hn1 (gf := 133) (lb := #[.pointer (some ⟨w.heap.size + 1 + 1, 0, none⟩)]) rfl trivial (enters_of Try.func133 (by kernel_rfl) rfl)
    (words_stops2 (n - 1) (by omega) (w.heap.size + 1 + 1) (s.extract i (i + N)) hsz _ (by simp) bS) (fun {_ _ _} => KB.trans) (fun W l o o' hl' _ _ _ => ⟨by simp, World.putObj_heap_other (fun e => by simp at hl'; omega)⟩) (Below.refl _ _) (fun _ => rfl)
    (fun (pre : List Wd) W => (∃ v, PBox W (w.heap.size + 1) v ∧ W.ownsRow (w.heap.size + 3) 9 1 v pre.length (pre.map fun (x : Wd) => Value.string x.t) ∧ True) ∧ Below (w.heap.size + 1) (w.alloc (.cells #[.int .i64 0, .slice none 0 0] 102)) W ∧ w.heap.size + 3 ≤ W.heap.size)
    (fun _ _ _ => False)
    (OwnFrom.and (Own.from (holdsP_own (w.heap.size + 3) (w.heap.size + 1) (fun (pre : List Wd) => pre.length) (fun (pre : List Wd) => pre.map fun (x : Wd) => Value.string x.t) (fun _ _ => True)) _) (OwnFrom.and (ownFrom_below (by simp) (by simp)) (fun _ _ _ _ hs hg _ => Nat.le_trans hs hg.size)))
    (fun _ _ _ _ _ hs _ _ => hs)
    ⟨⟨_, bP, World.ownsRow_nil _ _ _ _, trivial⟩, hB0, by simp⟩
    (fun x a' W => ∃ Bx, WBox2 (w.heap.size + 1 + 1) x Bx W ∧ a' = { tmps := #[.pointer (some ⟨g, 0, none⟩), undef, .pointer (some ⟨w.heap.size, 0, none⟩), .int .i64 i, .int .i64 N, .pointer (some ⟨w.heap.size + 1, 0, none⟩), .pointer (some ⟨Bx, 0, none⟩), .pointer (some ⟨g, 0, none⟩), .pointer (some ⟨g, 0, none⟩), .pointer (some ⟨g, 1, none⟩), .int .i64 i, .pointer (some ⟨g, 0, none⟩), .pointer (some ⟨g, 0, none⟩), .pointer (some ⟨g, 0, none⟩), .string s, .int .i64 i, .string (s.extract i s.size), .int .i64 N, .agg #[.int .i64 3, .slice none 0 0], .int .i64 N, .bool true, .pointer (some ⟨g, 0, none⟩), .pointer (some ⟨g, 0, none⟩), .pointer (some ⟨g, 0, none⟩), .string s, .int .i64 i, .int .i64 i, .int .i64 N, .int .i64 ((i : Int) + N), .string (s.extract i (i + N)), .func (.func 133) #[] #[.pointer (some ⟨w.heap.size + 1 + 1, 0, none⟩)], x.val, undef, undef, undef, undef, undef, undef, undef, undef, undef, undef, undef, undef, undef, undef, undef, undef, undef, undef, undef, undef, undef, undef, undef], defers := [] })
    (fun x a' => fun _ A B row hs hg hr => by
      obtain ⟨Bx, ⟨hb, hx⟩, ha⟩ := hs
      refine ⟨Bx, ⟨hb, ?_⟩, ha⟩
      refine (hg.block Bx (Array.getElem?_eq_some_iff.1 hx).1 (fun e => ?_)).trans hx
      obtain ⟨_, o, ho, hoc⟩ := hr Bx e.symm
      rw [hx] at ho; cases ho; cases hoc) ?assign ?body ?done ?stop
  case assign =>
    rintro l pre x W K hI hK
    simp only [Wd.val]
    gi_wp2
    obtain ⟨⟨v, hv, hrow, _⟩, hB, hsz3⟩ := hI
    exact hK _ _ ((KeepsOthers.alloc _ _).from _) ⟨by simp, Below.heap_alloc W _ _ (by omega)⟩ ⟨⟨v, hv.alloc _, hrow.alloc _, trivial⟩, hB.alloc (by omega) _, by simp; omega⟩ ⟨W.heap.size, ⟨by omega, heap_alloc_new W _⟩, rfl⟩
  case body =>
    rintro l pre x a' W hl' ⟨r, hr⟩ ⟨⟨v, hv, hrow, _⟩, hB, hsz3⟩ ⟨Bx, ⟨hBx, hbx⟩, rfl⟩ hlen
    have hcv := hv.cell1
    have x0 : W.cell? ⟨Bx, 0, none⟩ = some (.string x.t) := cell_of_row W Bx 0 _ _ _ hbx
    gi_wp2_with (first
      | (gi_at_builtin; go_loud (refine wpListIn_append_own _ rfl _ _ 62 rfl (w.heap.size + 3) 9 i0 (.string ByteArray.empty) 1 16 Try.underlying62 hi0 hz0 hz1 hz2 rfl (by decide) v pre.length (pre.map fun (x : Wd) => Value.string x.t) rfl (hrow.alloc _) ⟨W.heap.size, 0, none⟩ 1 1 [.string x.t] rfl rfl (new1_cell rfl) (by intro u hu; simp only [List.mem_cons, List.not_mem_nil, or_false] at hu; rcases hu with rfl; rfl) (by unfold maxLen; omega) (by omega) (by simp; omega) ?_; intro v' w1 hown' hgrow _; obtain ⟨g', cap', rfl⟩ := ownsRow_succ hown'; obtain ⟨hv1, hv2, hr2, hk2, hb2, hkb⟩ := hv.appended hrow (show w.heap.size + 1 ≤ w.heap.size + 3 by omega) hsz3 (Nat.le_refl _) hown' hgrow; have hc1 := hv1.cell1; have hf1 := hv1.frozen 1)))
    exact ⟨hk2.from _, hkb _ (by omega) (by omega), ⟨_, hv2, by rw [List.map_append, List.length_append]; exact hr2, trivial⟩, hB.trans hb2, Nat.le_trans hsz3 hb2.size⟩
  case done =>
    rintro D ys W hD rfl ⟨⟨v, hv, hrow, _⟩, hB, hsz3⟩ hK
    obtain ⟨A, c, rfl⟩ := ownsRow_form hrow
    have hstr : StrsIn W A (wTexts (s.extract i (i + N))) := (strsIn_own (by rw [wTexts, List.map_map]; exact hrow)).2.2
    obtain ⟨os, m, rfl⟩ := pbox_plus (w1 := w.alloc (.cells #[.int .i64 0, .slice none 0 0] 102)) (by simpa using hB) (by simpa using hv)
    have hlen : (wTexts (s.extract i (i + N))).length = (wordsAt (s.extract i (i + N)) 0).length := by rw [wTexts, List.length_map]
    have hR := HR.out
    generalize wTexts (s.extract i (i + N)) = ws at *
    rw [← hlen] at *
    simp only [World.size_alloc] at hD
    have HS := hide hstr
    have HK := hide hK
    have f1 := H.out.frozen 1
    have hpo : ∀ (W : World) (o : Obj) (q : Nat), (W.putObj D o).cell? ⟨w.heap.size, q, none⟩ = W.cell? ⟨w.heap.size, q, none⟩ := fun W o q => World.cell?_of_block (World.putObj_heap_other (fun e => by have e2 : w.heap.size = D := e; omega))
    have HPO := hide hpo
    clear hpo
    have e1 : ((i + N + 1 : Nat) : Int) = (i : Int) + (N : Int) + 1 := by omega
    have x3 : IntKind.i64.wrap ((i : Int) + (N : Int) + 1) = ((i + N + 1 : Nat) : Int) := by rw [wrap_small] <;> omega
    have x4 : IntKind.i64.wrap ((i : Int) - 1) = (i : Int) - 1 := by rw [wrap_small] <;> omega
    clear hstr hK hv hrow hB HR bS bP hB0 hlen
    by_cases h0 : ws = []
    · rw [if_pos h0] at hR
      subst hR h0
      simp only [List.length_nil] at *
      gi_wp2_with (first
        | (refine ⟨trivial, ?_⟩; gi_at_call 137; refine (callsIn_wide.2 (fail_yes s _ _ g _ ((((H.out.set_ 1 (.int .i64 (i + N + 1 : Nat))).alloc _).alloc _).plus))).mono ?_; rintro e w' ⟨rfl, os2, m2, rfl⟩))
      have hK2 := (plus_far (m := m) (os := os) (D := D) (A := (w.alloc (.cells #[.int .i64 0, .slice none 0 0] 102)).alloc (.cells #[.int .i64 3, .slice A (wordsAt (s.extract i (i + N)) 0).length c] 102)) (B := ((putBlk w g 94 #[.string s, .int .i64 ((i : Int) + N + 1), .int .i64 ((i : Int) - 1)]).alloc (.cells #[.int .i64 3, .slice A 0 c] 102)).alloc (.cells #[.int .i64 3, .slice A 0 c] 102)) (by simp [putBlk_size]) (by simp; omega)).trans HK.out
      have hK3 := (plus_heap (os := os2) (n := m2) (Array.getElem?_eq_some_iff.1 hK2).1).trans hK2
      refine ⟨by simp, .inl ⟨_, _, rfl, run_takeDeferred hK3, ?_⟩⟩
      refine ⟨_, by simp [results, Try.results172, go_sem, HPO.out], 3, A, 0, c, i + N + 1, rfl, by omega, ?_⟩
      rw [e1]
      exact (((((RdTo.base w g s _ _).alloc _).alloc _).plus _ _).plus _ _).putObj (by omega) _
    · rw [if_neg h0] at hR
      have hl0 : ¬ ((ws.length : Nat) : Int) = 0 := by have := List.length_pos_iff.2 h0; omega
      have hset : w.setCell ⟨g, 1, none⟩ (.int .i64 ((i : Int) + (N : Int) + 1)) = putBlk w g 94 #[.string s, .int .i64 ((i : Int) + (N : Int) + 1), .int .i64 (-1)] := set_put H.out
      subst hR
      gi_wp2
      have hK2 := (plus_far (m := m) (os := os) (D := D) (A := (w.alloc (.cells #[.int .i64 0, .slice none 0 0] 102)).alloc (.cells #[.int .i64 3, .slice A (wordsAt (s.extract i (i + N)) 0).length c] 102)) (B := ((putBlk w g 94 #[.string s, .int .i64 ((i : Int) + N + 1), .int .i64 (-1)]).alloc (.cells #[.int .i64 3, .slice A ws.length c] 102)).alloc (.cells #[.int .i64 3, .slice A ws.length c] 102)) (by simp [putBlk_size]) (by simp; omega)).trans HK.out
      have hstr2 := HS.out.keep (keepT_two (cs' := #[.string s, .int .i64 ((i : Int) + N + 1), .int .i64 (-1)]) (c := #[.int .i64 3, .slice A ws.length c]) (d := #[.int .i64 3, .slice A ws.length c]) H.out)
      refine ⟨by simp, .inl ⟨_, _, rfl, run_takeDeferred hK2, ?_⟩⟩
      refine ⟨_, by simp [results, Try.results172, go_sem, HPO.out], A, c, rfl, hstr2.putObj hK2 rfl, ?_⟩
      rw [e1]
      exact ((((RdTo.base w g s _ _).alloc _).alloc _).plus _ _).putObj (by omega) _
  case stop =>
    rintro D c pre W _ _ h _
    exact h.elim

end Go.Proofs.Ytfklaahakibljaa
