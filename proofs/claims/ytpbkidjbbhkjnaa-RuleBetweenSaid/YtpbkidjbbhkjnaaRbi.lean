/-
  WALK: the program's occurrences, over any function that sees the days and may stop.
-/
import Derived.Test.YtpbkidjbbhkjnaaRbh
import Derived.Scope
namespace Go.Proofs.Ytpbkidjbbhkjnaa
open Go.RowKit Cal

/-- A world turned within some blocks alone. -/
structure Turned (T : World → Nat → Prop) (w w' : World) : Prop where
  os : w'.os = w.os
  tape : w'.tape = w.tape
  output : w'.output = w.output
  size : w.heap.size ≤ w'.heap.size
  same : ∀ b, b < w.heap.size → ¬ T w b → w'.heap[b]? = w.heap[b]?
  old : ∀ b, T w' b → T w b ∨ w.heap.size ≤ b
theorem Turned.refl {T : World → Nat → Prop} (w : World) : Turned T w w := ⟨rfl, rfl, rfl, Nat.le_refl _, fun _ _ _ => rfl, fun _ h => .inl h⟩
theorem Turned.trans {T : World → Nat → Prop} {a b c : World} (h1 : Turned T a b) (h2 : Turned T b c) : Turned T a c := by
  refine ⟨h2.os.trans h1.os, h2.tape.trans h1.tape, h2.output.trans h1.output, Nat.le_trans h1.size h2.size, fun x hx hn => ?_, fun x hx => ?_⟩
  · rw [h2.same x (Nat.lt_of_lt_of_le hx h1.size) (fun ht => by
      rcases h1.old x ht with h | h
      · exact hn h
      · omega), h1.same x hx hn]
  · rcases h2.old x hx with h | h
    · exact h1.old x h
    · exact .inr (Nat.le_trans h1.size h)
theorem Turned.below {T : World → Nat → Prop} {a w w' : World} {B : Nat} (h : Turned T w w') (hT : ∀ b, T w b → B ≤ b) (hb : Below B a w) (hB : B ≤ w.heap.size) : Below B a w' := by
  refine ⟨h.os.trans hb.os, h.tape.trans hb.tape, h.output.trans hb.output, Nat.le_trans hb.size h.size, fun k hk => ?_⟩
  rw [h.same k (by omega) (fun ht => by have := hT k ht; omega), hb.block k hk]
/-- A block that is not turned. -/
def Still (T : World → Nat → Prop) (w : World) (b : Nat) : Prop := b < w.heap.size ∧ ¬ T w b
theorem Still.turned {T : World → Nat → Prop} {w w' : World} {b : Nat} (h : Still T w b) (ht : Turned T w w') : Still T w' b ∧ w'.heap[b]? = w.heap[b]? := by
  refine ⟨⟨Nat.lt_of_lt_of_le h.1 ht.size, fun h2 => ?_⟩, ht.same b h.1 h.2⟩
  rcases ht.old b h2 with h3 | h3
  · exact h.2 h3
  · have := h.1
    omega
theorem Still.blk {T : World → Nat → Prop} {w w' : World} {b : Nat} {t : TypeId} {cs : Array Value} (h : Still T w b) (ht : Turned T w w') (hb : Blk w b t cs) : Blk w' b t cs := (h.turned ht).2.trans hb
theorem Still.cell {T : World → Nat → Prop} {w w' : World} {b o : Nat} (h : Still T w b) (ht : Turned T w w') : w'.cell? ⟨b, o, none⟩ = w.cell? ⟨b, o, none⟩ := World.cell?_of_block (h.turned ht).2

/-- A function that sees days: what it keeps (Inv), which blocks it turns (T), whether it wants more (cont). -/
structure Sees (fid : FuncId) (caps : Array Value) (cont : Int → Bool) (Inv : List Int → World → Prop) (T : World → Nat → Prop) (B : Nat) : Prop where
  ent : ∀ args w, (callFunc fid args).run Try.prog w = .ok (.enter fid args) w
  call : ∀ l d w, Inv l w → (∀ x ∈ l, cont x = true) → l.length ≤ 200000 → 0 ≤ d → d ≤ 100000 → Calls Try.prog fid (#[.int .i64 d] ++ caps) w fun e w' => e = .returned (.bool (cont d)) ∧ Inv (l ++ [d]) w' ∧ Turned T w w'
  stay : ∀ l w w', Inv l w → Below w.heap.size w w' → Inv l w' ∧ ∀ b, T w' b → T w b
  own : ∀ l w b, Inv l w → T w b → B ≤ b ∧ b < w.heap.size
theorem Sees.turned {fid : FuncId} {caps : Array Value} {cont : Int → Bool} {Inv : List Int → World → Prop} {T : World → Nat → Prop} {B : Nat} (h : Sees fid caps cont Inv T B) {l : List Int} {w w' : World} (hi : Inv l w) (hb : Below w.heap.size w w') : Turned T w w' :=
  ⟨hb.os, hb.tape, hb.output, hb.size, fun b hlt _ => hb.block b hlt, fun b ht => .inl ((h.stay l w w' hi hb).2 b ht)⟩
theorem Sees.new {fid : FuncId} {caps : Array Value} {cont : Int → Bool} {Inv : List Int → World → Prop} {T : World → Nat → Prop} {B : Nat} (h : Sees fid caps cont Inv T B) {l : List Int} {w w' : World} (hi : Inv l w) (hb : Below w.heap.size w w') {b : Nat} (h1 : w.heap.size ≤ b) (h2 : b < w'.heap.size) : Still T w' b :=
  ⟨h2, fun ht => by have := (h.own l w b hi ((h.stay l w w' hi hb).2 b ht)).2; omega⟩

theorem visit_len {cont : Int → Bool} : ∀ (l : List Int), (visit cont l).length ≤ l.length
  | [] => Nat.le_refl _
  | d :: l => by
    unfold visit
    have := visit_len (cont := cont) l
    split <;> simp <;> omega
theorem occ_len (r : Rul) (h : r.Ok) : r.occ.length ≤ 100001 := by
  refine pairwise_len (lo := 0) r.occ_rising (fun x hx => ?_)
  have h1 := r.hit_in ((r.mem_occ).1 hx)
  have h2 := h.f
  have h3 := h.t
  have h4 : r.last ≤ 100000 := by unfold Rul.last; split <;> omega
  omega

/-- BinarySearch in a rising list. -/
theorem bs_any (A : Option Addr) (c : Nat) (l : List Int) (d : Int) (w : World) (hI : IntsAt w A l) (hl : l.length ≤ 1000) (hs : l.Pairwise (· < ·)) :
    Calls Try.prog 61 #[.slice A l.length c, .int .i64 d] w fun e w' => (∃ n : Int, e = .returned (.tuple #[.int .i64 n, .bool (l.contains d)])) ∧ Below w.heap.size w w' := by
  by_cases h0 : l.length = 0
  · obtain rfl := List.length_eq_zero_iff.1 h0
    refine (Go.Proofs.Any.slices_BinarySearch_int_empty Try.bsL A c d w).mono ?_
    rintro e w' ⟨rfl, rfl⟩
    exact ⟨⟨0, rfl⟩, Below.refl _ _⟩
  · obtain ⟨b, off, rfl, hb, hcell⟩ := hI (by omega)
    refine (Go.Proofs.Any.slices_BinarySearch_int Try.bsL b off l.length c l d w (Nat.le_refl _) (by omega) (fun j hj => by rw [hcell j hj]; simp [List.getD, List.getElem?_eq_getElem hj]) (by rw [List.take_length]; exact hs.imp (fun h => Int.le_of_lt h))).mono ?_
    rintro e w' ⟨rfl, q, rfl⟩
    rw [List.take_length]
    exact ⟨⟨_, rfl⟩, bl_drewN (Below.refl _ _) _⟩

/-! ### One day of the days of a period -/
theorem go_skip {r : Rul} {cont : Int → Bool} {d : Int} {l : List Int} {k : Nat} (h : d < r.f) : r.go cont (d :: l) k = r.go cont l k := by rw [Rul.go, if_pos h]
theorem go_end {r : Rul} {cont : Int → Bool} {d : Int} {l : List Int} {k : Nat} (h : ¬ d < r.f) (h2 : r.last < d ∨ (0 < r.c ∧ (k : Int) = r.c)) : r.go cont (d :: l) k = [] := by rw [Rul.go, if_neg h, if_pos h2]
theorem go_sk {r : Rul} {cont : Int → Bool} {d : Int} {l : List Int} {k : Nat} (h : ¬ d < r.f) (h2 : ¬ (r.last < d ∨ (0 < r.c ∧ (k : Int) = r.c))) (h3 : r.sk.contains d = true) : r.go cont (d :: l) k = r.go cont l (k + 1) := by rw [Rul.go, if_neg h, if_neg h2, if_pos h3]
theorem go_on {r : Rul} {cont : Int → Bool} {d : Int} {l : List Int} {k : Nat} (h : ¬ d < r.f) (h2 : ¬ (r.last < d ∨ (0 < r.c ∧ (k : Int) = r.c))) (h3 : r.sk.contains d = false) (h4 : cont d = true) : r.go cont (d :: l) k = d :: r.go cont l (k + 1) := by rw [Rul.go, if_neg h, if_neg h2, if_neg (by simpa using h3), if_pos h4]
theorem go_stop {r : Rul} {cont : Int → Bool} {d : Int} {l : List Int} {k : Nat} (h : ¬ d < r.f) (h2 : ¬ (r.last < d ∨ (0 < r.c ∧ (k : Int) = r.c))) (h3 : r.sk.contains d = false) (h4 : cont d = false) : r.go cont (d :: l) k = [d] := by rw [Rul.go, if_neg h, if_neg h2, if_neg (by simpa using h3), if_neg (by simpa using h4)]


/-- What holds ahead of a day: the days seen and those still to be seen are all days that are to be seen. -/
structure OccInv (r : Rul) (cont : Int → Bool) (Inv : List Int → World → Prop) (T : World → Nat → Prop) (W0 W : World) (g2 g5 : Nat) (X : Array Value) (ufid : FuncId) (l0 : List Int) (cnt : Nat) (w : World) : Prop where
  seen : ∃ l, Inv l w ∧ (∀ x ∈ l, cont x = true) ∧ l ++ r.go cont l0 cnt = visit cont r.occ
  turned : Turned T W w
  low : Below W0.heap.size W0 w
  st2 : Still T w g2
  st5 : Still T w g5
  rule : Blk w g2 35 X
  unit : Blk w g5 83 #[.func (.func ufid) #[] #[]]
section
variable {fid : FuncId} {caps : Array Value} {r : Rul} {cont : Int → Bool} {Inv : List Int → World → Prop} {T : World → Nat → Prop} {W0 W : World} {g2 g5 : Nat} {X : Array Value} {ufid : FuncId} {l0 : List Int} {cnt : Nat} {w w' : World}
theorem OccInv.start {N : Nat} (hS : Sees fid caps cont Inv T W0.heap.size) (hi : Inv [] W) (hb0 : Below W0.heap.size W0 W) (hb : Below W.heap.size W w) (h2 : Blk w W.heap.size 35 X) (hl2 : W.heap.size < w.heap.size) (hg5 : W.heap.size ≤ g5) (hl5 : g5 < w.heap.size) (h5 : Blk w g5 83 #[.func (.func ufid) #[] #[]])
    (hgo : r.go cont (r.rest 0 N) 0 = visit cont r.occ) : OccInv r cont Inv T W0 W W.heap.size g5 X ufid (r.rest 0 (N - 0)) 0 w :=
  ⟨⟨[], (hS.stay _ _ _ hi hb).1, fun x hx => absurd hx (by simp), hgo⟩, hS.turned hi hb, hb0.trans (hb.mono hb0.size), hS.new hi hb (Nat.le_refl _) hl2, hS.new hi hb hg5 hl5, h2, h5⟩
theorem OccInv.below (h : OccInv r cont Inv T W0 W g2 g5 X ufid l0 cnt w) (hS : Sees fid caps cont Inv T W0.heap.size) (hb : Below w.heap.size w w') : OccInv r cont Inv T W0 W g2 g5 X ufid l0 cnt w' := by
  obtain ⟨⟨l, h1, h2, h3⟩, h4, h5, h6, h7, h8, h9⟩ := h
  have ht := hS.turned h1 hb
  exact ⟨⟨l, (hS.stay _ _ _ h1 hb).1, h2, h3⟩, h4.trans ht, h5.trans (hb.mono h5.size), (h6.turned ht).1, (h7.turned ht).1, h6.blk ht h8, h7.blk ht h9⟩
theorem OccInv.next (h : OccInv r cont Inv T W0 W g2 g5 X ufid l0 cnt w) {l1 : List Int} {cnt1 : Nat} (he : r.go cont l0 cnt = r.go cont l1 cnt1) : OccInv r cont Inv T W0 W g2 g5 X ufid l1 cnt1 w := by
  obtain ⟨⟨l, h1, h2, h3⟩, h4, h5, h6, h7, h8, h9⟩ := h
  exact ⟨⟨l, h1, h2, by rw [← he]; exact h3⟩, h4, h5, h6, h7, h8, h9⟩
theorem OccInv.over (h : OccInv r cont Inv T W0 W g2 g5 X ufid l0 cnt w) (he : r.go cont l0 cnt = []) : Inv (visit cont r.occ) w ∧ Turned T W w := by
  obtain ⟨⟨l, h1, h2, h3⟩, h4, _⟩ := h
  rw [he, List.append_nil] at h3
  exact ⟨by rw [← h3]; exact h1, h4⟩
/-- A day is shown. -/
theorem OccInv.show_ (h : OccInv r cont Inv T W0 W g2 g5 X ufid l0 cnt w) (hS : Sees fid caps cont Inv T W0.heap.size) (hr : r.Ok) {d : Int} {l1 : List Int} (he : r.go cont l0 cnt = d :: l1) (h0 : 0 ≤ d) (h1 : d ≤ 100000) :
    ∃ l, Inv l w ∧ (∀ x ∈ l, cont x = true) ∧ l ++ (d :: l1) = visit cont r.occ ∧ Calls Try.prog fid (#[.int .i64 d] ++ caps) w fun e w' => e = .returned (.bool (cont d)) ∧ Inv (l ++ [d]) w' ∧ Turned T w w' := by
  obtain ⟨⟨l, h2, h3, h4⟩, _⟩ := h
  rw [he] at h4
  refine ⟨l, h2, h3, h4, hS.call l d w h2 h3 ?_ h0 h1⟩
  have := congrArg List.length h4
  have h5 := visit_len (cont := cont) r.occ
  have h6 := occ_len r hr
  rw [List.length_append] at this
  omega
theorem OccInv.shown (h : OccInv r cont Inv T W0 W g2 g5 X ufid l0 cnt w) (hS : Sees fid caps cont Inv T W0.heap.size) {l1 l : List Int} {d : Int} {cnt1 : Nat} (hi : Inv l w) (ha : ∀ x ∈ l, cont x = true) (he : l ++ (d :: r.go cont l1 cnt1) = visit cont r.occ) (hd : cont d = true) (hi2 : Inv (l ++ [d]) w') (ht : Turned T w w') :
    OccInv r cont Inv T W0 W g2 g5 X ufid l1 cnt1 w' := by
  obtain ⟨_, h4, h5, h6, h7, h8, h9⟩ := h
  refine ⟨⟨l ++ [d], hi2, fun x hx => ?_, by rw [List.append_assoc]; exact he⟩, h4.trans ht, ht.below (fun b hb => (hS.own l w b hi hb).1) h5 h5.size, (h6.turned ht).1, (h7.turned ht).1, h6.blk ht h8, h7.blk ht h9⟩
  rcases List.mem_append.1 hx with h | h
  · exact ha x h
  · rw [List.mem_singleton.1 h]
    exact hd
theorem OccInv.last_ (h : OccInv r cont Inv T W0 W g2 g5 X ufid l0 cnt w) {l : List Int} {d : Int} (he : l ++ [d] = visit cont r.occ) (hi2 : Inv (l ++ [d]) w') (ht : Turned T w w') : Inv (visit cont r.occ) w' ∧ Turned T W w' := by
  rw [← he]
  exact ⟨hi2, h.turned.trans ht⟩

/-- A list that lies in a block that is not turned. -/
def ListSt (T : World → Nat → Prop) (w : World) (A : Option Addr) (l : List Int) : Prop := 0 < l.length → ∃ b off, A = some ⟨b, off, none⟩ ∧ Still T w b ∧ ∀ j (h : j < l.length), w.cell? ⟨b, off + j, none⟩ = some (.int .i64 l[j])
theorem ListSt.turned {A : Option Addr} {l : List Int} (h : ListSt T w A l) (ht : Turned T w w') : ListSt T w' A l := fun hl => by
  obtain ⟨b, off, hA, hs, hc⟩ := h hl
  exact ⟨b, off, hA, (hs.turned ht).1, fun j hj => (hs.cell ht).trans (hc j hj)⟩
theorem ListSt.below {A : Option Addr} {l : List Int} (h : ListSt T w A l) (hS : Sees fid caps cont Inv T W0.heap.size) (ho : OccInv r cont Inv T W0 W g2 g5 X ufid l0 cnt w) (hb : Below w.heap.size w w') : ListSt T w' A l := by
  obtain ⟨l', h1, _⟩ := ho.seen
  exact h.turned (hS.turned h1 hb)
theorem listSt_new {A : Option Addr} {l : List Int} (hS : Sees fid caps cont Inv T W0.heap.size) (ho : OccInv r cont Inv T W0 W g2 g5 X ufid l0 cnt w) (hb : Below w.heap.size w w') (hI : IntsAt w' A l) (hn : 0 < l.length → ∀ a, A = some a → w.heap.size ≤ a.block) : ListSt T w' A l := fun hl => by
  obtain ⟨b, off, rfl, hlt, hc⟩ := hI hl
  obtain ⟨l', h1, _⟩ := ho.seen
  exact ⟨b, off, rfl, hS.new h1 hb (hn hl _ rfl) hlt, hc⟩
end

theorem unit_more {fid : FuncId} {r : Rul} {k : Nat} {args : Array Value} {w : World} (h : r.blk k ≤ 100000) (hc : Calls Try.prog fid args w (UnitOut r k w)) :
    Calls Try.prog fid args w fun e w' => (∃ A c, e = .returned (.tuple #[.slice A (r.pl k).length c, .bool true]) ∧ IntsAt w' A (r.pl k) ∧ (0 < (r.pl k).length → ∀ a, A = some a → w.heap.size ≤ a.block) ∧ (r.pl k).length ≤ 1000) ∧ Below w.heap.size w w' :=
  hc.mono fun e w' hx => by
    obtain ⟨hb, ⟨_, h1⟩ | ⟨h2, _⟩⟩ := hx
    · exact ⟨h1, hb⟩
    · omega
theorem unit_done {fid : FuncId} {r : Rul} {k : Nat} {args : Array Value} {w : World} (h : 100000 < r.blk k) (hc : Calls Try.prog fid args w (UnitOut r k w)) :
    Calls Try.prog fid args w fun e w' => (∃ A n c, e = .returned (.tuple #[.slice A n c, .bool false])) ∧ Below w.heap.size w w' :=
  hc.mono fun e w' hx => by
    obtain ⟨hb, ⟨h2, _⟩ | ⟨_, h1⟩⟩ := hx
    · omega
    · exact ⟨h1, hb⟩

set_option maxHeartbeats 6400000 in
set_option maxRecDepth 100000 in
theorem occurrences_any (r : Rul) (h : r.Ok) (v : Value) (W0 W : World) (hr : RulAt W0 r v) (hb0 : Below W0.heap.size W0 W)
    (fid : FuncId) (caps : Array Value) (cont : Int → Bool) (Inv : List Int → World → Prop) (T : World → Nat → Prop) (hS : Sees fid caps cont Inv T W0.heap.size) (hi : Inv [] W) :
    Calls Try.prog 37 #[v, .func (.func fid) #[] caps] W fun e w' => e = .returned (.tuple #[]) ∧ Inv (visit cont r.occ) w' ∧ Turned T W w' := by
  obtain ⟨ufid, uent, hU1, hU2⟩ := unit_any r h
  obtain ⟨N, hN1, hN2, hN3⟩ := r.period_end h.e.1 h.f.1
  have hgo := r.go_all h cont hN1
  have hent := hS.ent
  obtain ⟨A, B, C, a, b, c, rfl, h1, h2, h3, h4, h5, h6⟩ := hr.ex
  generalize hPO : (fun e w' => e = Ending.returned (.tuple #[]) ∧ Inv (visit cont r.occ) w' ∧ Turned T W w') = PO
  have HPO := hide (fun w' (hx : Inv (visit cont r.occ) w') (ht : Turned T W w') => (by rw [← hPO]; exact ⟨rfl, hx, ht⟩ : PO (Ending.returned (.tuple #[])) w'))
  clear hPO
  have HGO := hide hgo
  have HS := hide hS
  have HR := hide hr
  have HB0 := hide hb0
  have HU1 := hide (hU1 _ (W.alloc (.cells #[.int .i64 r.u, .int .i64 r.e, .int .i64 r.f, .int .i64 r.t, .int .i64 r.c, .slice A r.wd.length a, .slice B r.da.length b, .int .i64 r.n, .slice C r.sk.length c] 35)) (hr.below (hb0.trans (bl_alloc (Below.refl _ _) _ |>.mono hb0.size))))

  have HI3 := hide h3
  have HOK := hide h
  clear hgo hS hr hb0 hU1 h1 h2 h3
  unfold maxLen at h4 h5 h6
  have HN1 := hide hN1
  have HN2 := hide hN2
  have hff := h.f
  obtain ⟨f0, f1⟩ := hff
  have hcc := h.c
  obtain ⟨cc0, cc1⟩ := hcc
  have htt := h.t
  obtain ⟨tt0, tt1⟩ := htt
  have hee := h.e
  have hskl := h.skl
  have HSK := hide (rise_pairwise h.sk)
  clear hN1 hN2 h
  by_cases ht : 0 ≤ r.t
  · have HLA := hide (show r.last = r.t from if_pos ht)
    go_enter Try.func37, Try.ntmps37
    go_wp2
    refine wp_scope_straight ?_
    go_wp2_with (go_at_call 60; refine HU1.out.mono ?_; rintro e w' ⟨rfl, hbl⟩; obtain ⟨os1, n1, rfl⟩ := below_plus hbl; clear hbl)
    have hVB : Below W.heap.size W ((plus (W.alloc (.cells #[.int .i64 r.u, .int .i64 r.e, .int .i64 r.f, .int .i64 r.t, .int .i64 r.c, .slice A r.wd.length a, .slice B r.da.length b, .int .i64 r.n, .slice C r.sk.length c] 35)) os1 n1).alloc (.cells #[.func (.func ufid) #[] #[]] 83)) := (by repeat (first | exact Below.refl _ _ | refine bl_plus ?_ | refine bl_alloc ?_ _ | refine bl_drew ?_ | refine bl_drewN ?_ _))
    have HO0 := hide (OccInv.start (N := N) (ufid := ufid) HS.out hi HB0.out hVB (Blk.alloc (Blk.plus (Blk.new ..)) _ : Blk ((plus (W.alloc (.cells #[.int .i64 r.u, .int .i64 r.e, .int .i64 r.f, .int .i64 r.t, .int .i64 r.c, .slice A r.wd.length a, .slice B r.da.length b, .int .i64 r.n, .slice C r.sk.length c] 35)) os1 n1).alloc (.cells #[.func (.func ufid) #[] #[]] 83)) W.heap.size 35 #[.int .i64 r.u, .int .i64 r.e, .int .i64 r.f, .int .i64 r.t, .int .i64 r.c, .slice A r.wd.length a, .slice B r.da.length b, .int .i64 r.n, .slice C r.sk.length c]) (by simp only [World.size_alloc, plus_size]; omega) (g5 := W.heap.size + 1 + os1.size) (by omega) (by simp only [World.size_alloc, plus_size]; omega) (by have := Blk.new (plus (W.alloc (.cells #[.int .i64 r.u, .int .i64 r.e, .int .i64 r.f, .int .i64 r.t, .int .i64 r.c, .slice A r.wd.length a, .slice B r.da.length b, .int .i64 r.n, .slice C r.sk.length c] 35)) os1 n1) 83 #[.func (.func ufid) #[] #[]]; rwa [plus_size, World.size_alloc] at this) HGO.out)
    clear hVB hi HU1
    generalize ((plus (W.alloc (.cells #[.int .i64 r.u, .int .i64 r.e, .int .i64 r.f, .int .i64 r.t, .int .i64 r.c, .slice A r.wd.length a, .slice B r.da.length b, .int .i64 r.n, .slice C r.sk.length c] 35)) os1 n1).alloc (.cells #[.func (.func ufid) #[] #[]] 83)) = V at *
    generalize W.heap.size + 1 + os1.size = g5 at *
    generalize W.heap.size = g2 at *
    apply wp_label
    go_wp2
    go_loopw [6, 7] (fun cs ns wr => ∃ (k cnt : Nat), k ≤ N ∧ ns = .int .i64 k ∧ cs = .int .i64 cnt ∧ cnt ≤ 1000 * k ∧ Hid (OccInv r cont Inv T W0 W g2 g5 #[.int .i64 r.u, .int .i64 r.e, .int .i64 r.f, .int .i64 r.t, .int .i64 r.c, .slice A r.wd.length a, .slice B r.da.length b, .int .i64 r.n, .slice C r.sk.length c] ufid (Rul.rest r k (N - k)) cnt wr)) (fun _ ns _ => N - (intOf ns).toNat)
    case atStart => exact ⟨0, 0, Nat.zero_le _, rfl, rfl, Nat.zero_le _, HO0⟩
    case round =>
      clear HO0
      obtain ⟨k, cnt, hk, rfl, rfl, hcnt, HO⟩ := hrel
      have c1 := HO.out.unit.cell 0
      simp only [List.getElem?_toArray, List.getElem?_cons_zero] at c1
      have hkw : (k : Int) ≤ 100001 := by omega
      have HUC := hide (hU2 k (by omega) _ wr (HR.out.below HO.out.low))
      obtain ⟨b0, b1, b2, b3, b4, b5, b6, b7, b8, b9, b10⟩ := HO.out.rule.nine
      by_cases hkN : k < N
      · have HUC2 := hide (unit_more (HN2.out k hkN) HUC.out)
        have hHO := HO.out
        rw [show N - k = (N - (k + 1)) + 1 by omega] at hHO
        have HO := hide (show OccInv r cont Inv T W0 W g2 g5 #[.int .i64 r.u, .int .i64 r.e, .int .i64 r.f, .int .i64 r.t, .int .i64 r.c, .slice A r.wd.length a, .slice B r.da.length b, .int .i64 r.n, .slice C r.sk.length c] ufid (r.pl k ++ Rul.rest r (k + 1) (N - (k + 1))) cnt wr from hHO)
        clear HUC hHO
        go_wp2_with (refine HUC2.out.mono ?_; rintro e w' ⟨⟨A1, c7, rfl, hI, hnw, hdl⟩, hbl⟩; have HL0 := hide (listSt_new HS.out HO.out hbl hI hnw); have HO1 := hide (HO.out.below HS.out hbl); clear hbl hI hnw b0 b1 b2 b3 b4 b5 b6 b7 b8 b9 b10 c1)
        clear HUC2 HO
        generalize r.pl k = ds at *
        generalize hRR : Rul.rest r (k + 1) (N - (k + 1)) = R at *
        have HRR := hide hRR
        clear hRR
        go_loopw [6, 35] (fun cs is wr => ∃ (j cnt : Nat), j ≤ ds.length ∧ is = .int .i64 j ∧ cs = .int .i64 cnt ∧ cnt ≤ 1000 * k + j ∧ Hid (OccInv r cont Inv T W0 W g2 g5 #[.int .i64 r.u, .int .i64 r.e, .int .i64 r.f, .int .i64 r.t, .int .i64 r.c, .slice A r.wd.length a, .slice B r.da.length b, .int .i64 r.n, .slice C r.sk.length c] ufid (ds.drop j ++ R) cnt wr) ∧ Hid (ListSt T wr A1 ds)) (fun _ is _ => ds.length - (intOf is).toNat)
        case atStart => exact ⟨0, cnt, Nat.zero_le _, rfl, rfl, by omega, HO1, HL0⟩
        case round =>
          clear HO1 HL0
          obtain ⟨j, cnt, hj, rfl, rfl, hcnt, HO, HL⟩ := hrel
          by_cases hlt : j < ds.length
          · obtain ⟨bb, off, rfl, hst, hcell⟩ := HL.out (by omega)
            have e1 := hcell j hlt
            obtain ⟨b0, b1, b2, b3, b4, b5, b6, b7, b8, b9, b10⟩ := HO.out.rule.nine
            have HC8 := hide (HI3.out.below HO.out.low)
            have hHO := HO.out
            rw [List.drop_eq_getElem_cons hlt, List.cons_append] at hHO
            have HO := hide hHO
            have i1 : (j : Int) < (ds.length : Int) := by omega
            clear hcell hHO hst
            generalize ds[j] = d at *
            by_cases hA : d < r.f
            · have HGE := hide (go_skip (cont := cont) (l := ds.drop (j + 1) ++ R) (k := cnt) hA)
              go_wp2
              go_roundw
              case rel => exact ⟨j + 1, cnt, by omega, by go_num, rfl, by omega, hide (HO.out.next HGE.out), HL⟩
              case measure => simp [intOf]; omega
            · by_cases hB : r.t < d
              · have HGE := hide (go_end (cont := cont) (l := ds.drop (j + 1) ++ R) (k := cnt) hA (.inl (by rw [HLA.out]; exact hB)))
                go_wp2
                have hfin := HO.out.over HGE.out
                go_end0
                exact HPO.out _ hfin.1 hfin.2
              · have d0 : 0 ≤ d := by omega
                have d1 : d ≤ 100000 := by omega
                by_cases hC : 0 < r.c
                · by_cases hD : (cnt : Int) = r.c
                  · have HGE := hide (go_end (cont := cont) (l := ds.drop (j + 1) ++ R) (k := cnt) hA (.inr ⟨hC, hD⟩))
                    have hD2 : ((cnt : Int) == r.c) = true := by simpa using hD
                    clear hD
                    go_wp2
                    have hfin := HO.out.over HGE.out
                    go_end0
                    exact HPO.out _ hfin.1 hfin.2
                  · have hD2 : ((cnt : Int) == r.c) = false := by simpa using hD
                    have HNB := hide (show ¬ (r.last < d ∨ (0 < r.c ∧ (cnt : Int) = r.c)) by rw [HLA.out]; omega)
                    clear hD
                    by_cases hs : r.sk.contains d = true
                    · have HBS := hide (fun w hI => bs_any C c r.sk d w hI (by omega) HSK.out)
                      rw [hs] at HBS
                      have HGE := hide (go_sk (cont := cont) (l := ds.drop (j + 1) ++ R) hA HNB.out hs)
                      clear hs
                      go_wp2_with (first | (go_at_call 61; (with_reducible refine (HBS.out _ HC8.out).mono ?_); rintro e w' ⟨⟨nn, rfl⟩, hbl⟩; have HO1 := hide (HO.out.below HS.out hbl); have HL1 := hide (HL.out.below HS.out HO.out hbl); clear hbl))
                      go_roundw
                      case rel => exact ⟨j + 1, cnt + 1, by omega, by go_num, by go_num, by omega, hide (HO1.out.next HGE.out), HL1⟩
                      case measure => simp [intOf]; omega
                    · have hs2 : r.sk.contains d = false := by simpa using hs
                      have HBS := hide (fun w hI => bs_any C c r.sk d w hI (by omega) HSK.out)
                      rw [hs2] at HBS
                      cases hcd : cont d with
                      | true =>
                        have HGE := hide (go_on (cont := cont) (l := ds.drop (j + 1) ++ R) hA HNB.out hs2 hcd)
                        have HCD := hide hcd
                        clear hs hs2 hcd
                        go_wp2_with (first | (go_at_call 61; (with_reducible refine (HBS.out _ HC8.out).mono ?_); rintro e w' ⟨⟨nn, rfl⟩, hbl⟩; have HO1 := hide (HO.out.below HS.out hbl); have HL1 := hide (HL.out.below HS.out HO.out hbl); obtain ⟨l, hi1, ha1, he1, hcall⟩ := HO1.out.show_ HS.out HOK.out HGE.out d0 d1; rw [HCD.out] at hcall; have HCALL := hide hcall; have HX := hide (And.intro hi1 (And.intro ha1 he1)); clear hbl hi1 ha1 he1 hcall) | (refine HCALL.out.mono ?_; rintro e w' ⟨rfl, hi2, ht2⟩; have HY := hide (And.intro hi2 ht2); clear hi2 ht2))
                        go_roundw
                        case rel => exact ⟨j + 1, cnt + 1, by omega, by go_num, by go_num, by omega, hide (HO1.out.shown HS.out HX.out.1 HX.out.2.1 HX.out.2.2 HCD.out HY.out.1 HY.out.2), hide (HL1.out.turned HY.out.2)⟩
                        case measure => simp [intOf]; omega
                      | false =>
                        have HGE := hide (go_stop (cont := cont) (l := ds.drop (j + 1) ++ R) hA HNB.out hs2 hcd)
                        have HCD := hide hcd
                        clear hs hs2 hcd
                        go_wp2_with (first | (go_at_call 61; (with_reducible refine (HBS.out _ HC8.out).mono ?_); rintro e w' ⟨⟨nn, rfl⟩, hbl⟩; have HO1 := hide (HO.out.below HS.out hbl); have HL1 := hide (HL.out.below HS.out HO.out hbl); obtain ⟨l, hi1, ha1, he1, hcall⟩ := HO1.out.show_ HS.out HOK.out HGE.out d0 d1; rw [HCD.out] at hcall; have HCALL := hide hcall; have HX := hide (And.intro hi1 (And.intro ha1 he1)); clear hbl hi1 ha1 he1 hcall) | (refine HCALL.out.mono ?_; rintro e w' ⟨rfl, hi2, ht2⟩; have HY := hide (And.intro hi2 ht2); clear hi2 ht2))
                        have hfin := HO1.out.last_ HX.out.2.2 HY.out.1 HY.out.2
                        go_end0
                        exact HPO.out _ hfin.1 hfin.2

                · have HNB := hide (show ¬ (r.last < d ∨ (0 < r.c ∧ (cnt : Int) = r.c)) by rw [HLA.out]; omega)
                  by_cases hs : r.sk.contains d = true
                  · have HBS := hide (fun w hI => bs_any C c r.sk d w hI (by omega) HSK.out)
                    rw [hs] at HBS
                    have HGE := hide (go_sk (cont := cont) (l := ds.drop (j + 1) ++ R) hA HNB.out hs)
                    clear hs
                    go_wp2_with (first | (go_at_call 61; (with_reducible refine (HBS.out _ HC8.out).mono ?_); rintro e w' ⟨⟨nn, rfl⟩, hbl⟩; have HO1 := hide (HO.out.below HS.out hbl); have HL1 := hide (HL.out.below HS.out HO.out hbl); clear hbl))
                    go_roundw
                    case rel => exact ⟨j + 1, cnt + 1, by omega, by go_num, by go_num, by omega, hide (HO1.out.next HGE.out), HL1⟩
                    case measure => simp [intOf]; omega
                  · have hs2 : r.sk.contains d = false := by simpa using hs
                    have HBS := hide (fun w hI => bs_any C c r.sk d w hI (by omega) HSK.out)
                    rw [hs2] at HBS
                    cases hcd : cont d with
                    | true =>
                      have HGE := hide (go_on (cont := cont) (l := ds.drop (j + 1) ++ R) hA HNB.out hs2 hcd)
                      have HCD := hide hcd
                      clear hs hs2 hcd
                      go_wp2_with (first | (go_at_call 61; (with_reducible refine (HBS.out _ HC8.out).mono ?_); rintro e w' ⟨⟨nn, rfl⟩, hbl⟩; have HO1 := hide (HO.out.below HS.out hbl); have HL1 := hide (HL.out.below HS.out HO.out hbl); obtain ⟨l, hi1, ha1, he1, hcall⟩ := HO1.out.show_ HS.out HOK.out HGE.out d0 d1; rw [HCD.out] at hcall; have HCALL := hide hcall; have HX := hide (And.intro hi1 (And.intro ha1 he1)); clear hbl hi1 ha1 he1 hcall) | (refine HCALL.out.mono ?_; rintro e w' ⟨rfl, hi2, ht2⟩; have HY := hide (And.intro hi2 ht2); clear hi2 ht2))
                      go_roundw
                      case rel => exact ⟨j + 1, cnt + 1, by omega, by go_num, by go_num, by omega, hide (HO1.out.shown HS.out HX.out.1 HX.out.2.1 HX.out.2.2 HCD.out HY.out.1 HY.out.2), hide (HL1.out.turned HY.out.2)⟩
                      case measure => simp [intOf]; omega
                    | false =>
                      have HGE := hide (go_stop (cont := cont) (l := ds.drop (j + 1) ++ R) hA HNB.out hs2 hcd)
                      have HCD := hide hcd
                      clear hs hs2 hcd
                      go_wp2_with (first | (go_at_call 61; (with_reducible refine (HBS.out _ HC8.out).mono ?_); rintro e w' ⟨⟨nn, rfl⟩, hbl⟩; have HO1 := hide (HO.out.below HS.out hbl); have HL1 := hide (HL.out.below HS.out HO.out hbl); obtain ⟨l, hi1, ha1, he1, hcall⟩ := HO1.out.show_ HS.out HOK.out HGE.out d0 d1; rw [HCD.out] at hcall; have HCALL := hide hcall; have HX := hide (And.intro hi1 (And.intro ha1 he1)); clear hbl hi1 ha1 he1 hcall) | (refine HCALL.out.mono ?_; rintro e w' ⟨rfl, hi2, ht2⟩; have HY := hide (And.intro hi2 ht2); clear hi2 ht2))
                      have hfin := HO1.out.last_ HX.out.2.2 HY.out.1 HY.out.2
                      go_end0
                      exact HPO.out _ hfin.1 hfin.2

          · have hjl : j = ds.length := by omega
            subst hjl
            have hHO := HO.out
            rw [List.drop_length, List.nil_append, ← HRR.out] at hHO
            have HO := hide hHO
            clear hHO
            go_wp2
            go_roundw
            case rel => exact ⟨k + 1, cnt, by omega, by go_num, rfl, by omega, HO⟩
            case measure => simp [intOf]; omega
      · obtain rfl : k = N := by omega
        have HUC2 := hide (unit_done HN1.out HUC.out)
        clear HUC
        go_wp2_with (refine HUC2.out.mono ?_; rintro e w' ⟨⟨A1, n7, c7, rfl⟩, hbl⟩; have HO1 := hide (HO.out.below HS.out hbl); clear hbl)
        have hfin := HO1.out.over (by rw [Nat.sub_self]; rfl)
        go_end0
        exact HPO.out _ hfin.1 hfin.2

  · have HLA := hide (show r.last = 100000 from if_neg ht)
    go_enter Try.func37, Try.ntmps37
    go_wp2
    refine wp_scope_straight ?_
    go_wp2_with (go_at_call 60; refine HU1.out.mono ?_; rintro e w' ⟨rfl, hbl⟩; obtain ⟨os1, n1, rfl⟩ := below_plus hbl; clear hbl)
    have hVB : Below W.heap.size W ((plus (W.alloc (.cells #[.int .i64 r.u, .int .i64 r.e, .int .i64 r.f, .int .i64 r.t, .int .i64 r.c, .slice A r.wd.length a, .slice B r.da.length b, .int .i64 r.n, .slice C r.sk.length c] 35)) os1 n1).alloc (.cells #[.func (.func ufid) #[] #[]] 83)) := (by repeat (first | exact Below.refl _ _ | refine bl_plus ?_ | refine bl_alloc ?_ _ | refine bl_drew ?_ | refine bl_drewN ?_ _))
    have HO0 := hide (OccInv.start (N := N) (ufid := ufid) HS.out hi HB0.out hVB (Blk.alloc (Blk.plus (Blk.new ..)) _ : Blk ((plus (W.alloc (.cells #[.int .i64 r.u, .int .i64 r.e, .int .i64 r.f, .int .i64 r.t, .int .i64 r.c, .slice A r.wd.length a, .slice B r.da.length b, .int .i64 r.n, .slice C r.sk.length c] 35)) os1 n1).alloc (.cells #[.func (.func ufid) #[] #[]] 83)) W.heap.size 35 #[.int .i64 r.u, .int .i64 r.e, .int .i64 r.f, .int .i64 r.t, .int .i64 r.c, .slice A r.wd.length a, .slice B r.da.length b, .int .i64 r.n, .slice C r.sk.length c]) (by simp only [World.size_alloc, plus_size]; omega) (g5 := W.heap.size + 1 + os1.size) (by omega) (by simp only [World.size_alloc, plus_size]; omega) (by have := Blk.new (plus (W.alloc (.cells #[.int .i64 r.u, .int .i64 r.e, .int .i64 r.f, .int .i64 r.t, .int .i64 r.c, .slice A r.wd.length a, .slice B r.da.length b, .int .i64 r.n, .slice C r.sk.length c] 35)) os1 n1) 83 #[.func (.func ufid) #[] #[]]; rwa [plus_size, World.size_alloc] at this) HGO.out)
    clear hVB hi HU1
    generalize ((plus (W.alloc (.cells #[.int .i64 r.u, .int .i64 r.e, .int .i64 r.f, .int .i64 r.t, .int .i64 r.c, .slice A r.wd.length a, .slice B r.da.length b, .int .i64 r.n, .slice C r.sk.length c] 35)) os1 n1).alloc (.cells #[.func (.func ufid) #[] #[]] 83)) = V at *
    generalize W.heap.size + 1 + os1.size = g5 at *
    generalize W.heap.size = g2 at *
    apply wp_label
    go_wp2
    go_loopw [6, 7] (fun cs ns wr => ∃ (k cnt : Nat), k ≤ N ∧ ns = .int .i64 k ∧ cs = .int .i64 cnt ∧ cnt ≤ 1000 * k ∧ Hid (OccInv r cont Inv T W0 W g2 g5 #[.int .i64 r.u, .int .i64 r.e, .int .i64 r.f, .int .i64 r.t, .int .i64 r.c, .slice A r.wd.length a, .slice B r.da.length b, .int .i64 r.n, .slice C r.sk.length c] ufid (Rul.rest r k (N - k)) cnt wr)) (fun _ ns _ => N - (intOf ns).toNat)
    case atStart => exact ⟨0, 0, Nat.zero_le _, rfl, rfl, Nat.zero_le _, HO0⟩
    case round =>
      clear HO0
      obtain ⟨k, cnt, hk, rfl, rfl, hcnt, HO⟩ := hrel
      have c1 := HO.out.unit.cell 0
      simp only [List.getElem?_toArray, List.getElem?_cons_zero] at c1
      have hkw : (k : Int) ≤ 100001 := by omega
      have HUC := hide (hU2 k (by omega) _ wr (HR.out.below HO.out.low))
      obtain ⟨b0, b1, b2, b3, b4, b5, b6, b7, b8, b9, b10⟩ := HO.out.rule.nine
      by_cases hkN : k < N
      · have HUC2 := hide (unit_more (HN2.out k hkN) HUC.out)
        have hHO := HO.out
        rw [show N - k = (N - (k + 1)) + 1 by omega] at hHO
        have HO := hide (show OccInv r cont Inv T W0 W g2 g5 #[.int .i64 r.u, .int .i64 r.e, .int .i64 r.f, .int .i64 r.t, .int .i64 r.c, .slice A r.wd.length a, .slice B r.da.length b, .int .i64 r.n, .slice C r.sk.length c] ufid (r.pl k ++ Rul.rest r (k + 1) (N - (k + 1))) cnt wr from hHO)
        clear HUC hHO
        go_wp2_with (refine HUC2.out.mono ?_; rintro e w' ⟨⟨A1, c7, rfl, hI, hnw, hdl⟩, hbl⟩; have HL0 := hide (listSt_new HS.out HO.out hbl hI hnw); have HO1 := hide (HO.out.below HS.out hbl); clear hbl hI hnw b0 b1 b2 b3 b4 b5 b6 b7 b8 b9 b10 c1)
        clear HUC2 HO
        generalize r.pl k = ds at *
        generalize hRR : Rul.rest r (k + 1) (N - (k + 1)) = R at *
        have HRR := hide hRR
        clear hRR
        go_loopw [6, 35] (fun cs is wr => ∃ (j cnt : Nat), j ≤ ds.length ∧ is = .int .i64 j ∧ cs = .int .i64 cnt ∧ cnt ≤ 1000 * k + j ∧ Hid (OccInv r cont Inv T W0 W g2 g5 #[.int .i64 r.u, .int .i64 r.e, .int .i64 r.f, .int .i64 r.t, .int .i64 r.c, .slice A r.wd.length a, .slice B r.da.length b, .int .i64 r.n, .slice C r.sk.length c] ufid (ds.drop j ++ R) cnt wr) ∧ Hid (ListSt T wr A1 ds)) (fun _ is _ => ds.length - (intOf is).toNat)
        case atStart => exact ⟨0, cnt, Nat.zero_le _, rfl, rfl, by omega, HO1, HL0⟩
        case round =>
          clear HO1 HL0
          obtain ⟨j, cnt, hj, rfl, rfl, hcnt, HO, HL⟩ := hrel
          by_cases hlt : j < ds.length
          · obtain ⟨bb, off, rfl, hst, hcell⟩ := HL.out (by omega)
            have e1 := hcell j hlt
            obtain ⟨b0, b1, b2, b3, b4, b5, b6, b7, b8, b9, b10⟩ := HO.out.rule.nine
            have HC8 := hide (HI3.out.below HO.out.low)
            have hHO := HO.out
            rw [List.drop_eq_getElem_cons hlt, List.cons_append] at hHO
            have HO := hide hHO
            have i1 : (j : Int) < (ds.length : Int) := by omega
            clear hcell hHO hst
            generalize ds[j] = d at *
            by_cases hA : d < r.f
            · have HGE := hide (go_skip (cont := cont) (l := ds.drop (j + 1) ++ R) (k := cnt) hA)
              go_wp2
              go_roundw
              case rel => exact ⟨j + 1, cnt, by omega, by go_num, rfl, by omega, hide (HO.out.next HGE.out), HL⟩
              case measure => simp [intOf]; omega
            · by_cases hB : 100000 < d
              · have HGE := hide (go_end (cont := cont) (l := ds.drop (j + 1) ++ R) (k := cnt) hA (.inl (by rw [HLA.out]; exact hB)))
                go_wp2
                have hfin := HO.out.over HGE.out
                go_end0
                exact HPO.out _ hfin.1 hfin.2
              · have d0 : 0 ≤ d := by omega
                have d1 : d ≤ 100000 := by omega
                by_cases hC : 0 < r.c
                · by_cases hD : (cnt : Int) = r.c
                  · have HGE := hide (go_end (cont := cont) (l := ds.drop (j + 1) ++ R) (k := cnt) hA (.inr ⟨hC, hD⟩))
                    have hD2 : ((cnt : Int) == r.c) = true := by simpa using hD
                    clear hD
                    go_wp2
                    have hfin := HO.out.over HGE.out
                    go_end0
                    exact HPO.out _ hfin.1 hfin.2
                  · have hD2 : ((cnt : Int) == r.c) = false := by simpa using hD
                    have HNB := hide (show ¬ (r.last < d ∨ (0 < r.c ∧ (cnt : Int) = r.c)) by rw [HLA.out]; omega)
                    clear hD
                    by_cases hs : r.sk.contains d = true
                    · have HBS := hide (fun w hI => bs_any C c r.sk d w hI (by omega) HSK.out)
                      rw [hs] at HBS
                      have HGE := hide (go_sk (cont := cont) (l := ds.drop (j + 1) ++ R) hA HNB.out hs)
                      clear hs
                      go_wp2_with (first | (go_at_call 61; (with_reducible refine (HBS.out _ HC8.out).mono ?_); rintro e w' ⟨⟨nn, rfl⟩, hbl⟩; have HO1 := hide (HO.out.below HS.out hbl); have HL1 := hide (HL.out.below HS.out HO.out hbl); clear hbl))
                      go_roundw
                      case rel => exact ⟨j + 1, cnt + 1, by omega, by go_num, by go_num, by omega, hide (HO1.out.next HGE.out), HL1⟩
                      case measure => simp [intOf]; omega
                    · have hs2 : r.sk.contains d = false := by simpa using hs
                      have HBS := hide (fun w hI => bs_any C c r.sk d w hI (by omega) HSK.out)
                      rw [hs2] at HBS
                      cases hcd : cont d with
                      | true =>
                        have HGE := hide (go_on (cont := cont) (l := ds.drop (j + 1) ++ R) hA HNB.out hs2 hcd)
                        have HCD := hide hcd
                        clear hs hs2 hcd
                        go_wp2_with (first | (go_at_call 61; (with_reducible refine (HBS.out _ HC8.out).mono ?_); rintro e w' ⟨⟨nn, rfl⟩, hbl⟩; have HO1 := hide (HO.out.below HS.out hbl); have HL1 := hide (HL.out.below HS.out HO.out hbl); obtain ⟨l, hi1, ha1, he1, hcall⟩ := HO1.out.show_ HS.out HOK.out HGE.out d0 d1; rw [HCD.out] at hcall; have HCALL := hide hcall; have HX := hide (And.intro hi1 (And.intro ha1 he1)); clear hbl hi1 ha1 he1 hcall) | (refine HCALL.out.mono ?_; rintro e w' ⟨rfl, hi2, ht2⟩; have HY := hide (And.intro hi2 ht2); clear hi2 ht2))
                        go_roundw
                        case rel => exact ⟨j + 1, cnt + 1, by omega, by go_num, by go_num, by omega, hide (HO1.out.shown HS.out HX.out.1 HX.out.2.1 HX.out.2.2 HCD.out HY.out.1 HY.out.2), hide (HL1.out.turned HY.out.2)⟩
                        case measure => simp [intOf]; omega
                      | false =>
                        have HGE := hide (go_stop (cont := cont) (l := ds.drop (j + 1) ++ R) hA HNB.out hs2 hcd)
                        have HCD := hide hcd
                        clear hs hs2 hcd
                        go_wp2_with (first | (go_at_call 61; (with_reducible refine (HBS.out _ HC8.out).mono ?_); rintro e w' ⟨⟨nn, rfl⟩, hbl⟩; have HO1 := hide (HO.out.below HS.out hbl); have HL1 := hide (HL.out.below HS.out HO.out hbl); obtain ⟨l, hi1, ha1, he1, hcall⟩ := HO1.out.show_ HS.out HOK.out HGE.out d0 d1; rw [HCD.out] at hcall; have HCALL := hide hcall; have HX := hide (And.intro hi1 (And.intro ha1 he1)); clear hbl hi1 ha1 he1 hcall) | (refine HCALL.out.mono ?_; rintro e w' ⟨rfl, hi2, ht2⟩; have HY := hide (And.intro hi2 ht2); clear hi2 ht2))
                        have hfin := HO1.out.last_ HX.out.2.2 HY.out.1 HY.out.2
                        go_end0
                        exact HPO.out _ hfin.1 hfin.2

                · have HNB := hide (show ¬ (r.last < d ∨ (0 < r.c ∧ (cnt : Int) = r.c)) by rw [HLA.out]; omega)
                  by_cases hs : r.sk.contains d = true
                  · have HBS := hide (fun w hI => bs_any C c r.sk d w hI (by omega) HSK.out)
                    rw [hs] at HBS
                    have HGE := hide (go_sk (cont := cont) (l := ds.drop (j + 1) ++ R) hA HNB.out hs)
                    clear hs
                    go_wp2_with (first | (go_at_call 61; (with_reducible refine (HBS.out _ HC8.out).mono ?_); rintro e w' ⟨⟨nn, rfl⟩, hbl⟩; have HO1 := hide (HO.out.below HS.out hbl); have HL1 := hide (HL.out.below HS.out HO.out hbl); clear hbl))
                    go_roundw
                    case rel => exact ⟨j + 1, cnt + 1, by omega, by go_num, by go_num, by omega, hide (HO1.out.next HGE.out), HL1⟩
                    case measure => simp [intOf]; omega
                  · have hs2 : r.sk.contains d = false := by simpa using hs
                    have HBS := hide (fun w hI => bs_any C c r.sk d w hI (by omega) HSK.out)
                    rw [hs2] at HBS
                    cases hcd : cont d with
                    | true =>
                      have HGE := hide (go_on (cont := cont) (l := ds.drop (j + 1) ++ R) hA HNB.out hs2 hcd)
                      have HCD := hide hcd
                      clear hs hs2 hcd
                      go_wp2_with (first | (go_at_call 61; (with_reducible refine (HBS.out _ HC8.out).mono ?_); rintro e w' ⟨⟨nn, rfl⟩, hbl⟩; have HO1 := hide (HO.out.below HS.out hbl); have HL1 := hide (HL.out.below HS.out HO.out hbl); obtain ⟨l, hi1, ha1, he1, hcall⟩ := HO1.out.show_ HS.out HOK.out HGE.out d0 d1; rw [HCD.out] at hcall; have HCALL := hide hcall; have HX := hide (And.intro hi1 (And.intro ha1 he1)); clear hbl hi1 ha1 he1 hcall) | (refine HCALL.out.mono ?_; rintro e w' ⟨rfl, hi2, ht2⟩; have HY := hide (And.intro hi2 ht2); clear hi2 ht2))
                      go_roundw
                      case rel => exact ⟨j + 1, cnt + 1, by omega, by go_num, by go_num, by omega, hide (HO1.out.shown HS.out HX.out.1 HX.out.2.1 HX.out.2.2 HCD.out HY.out.1 HY.out.2), hide (HL1.out.turned HY.out.2)⟩
                      case measure => simp [intOf]; omega
                    | false =>
                      have HGE := hide (go_stop (cont := cont) (l := ds.drop (j + 1) ++ R) hA HNB.out hs2 hcd)
                      have HCD := hide hcd
                      clear hs hs2 hcd
                      go_wp2_with (first | (go_at_call 61; (with_reducible refine (HBS.out _ HC8.out).mono ?_); rintro e w' ⟨⟨nn, rfl⟩, hbl⟩; have HO1 := hide (HO.out.below HS.out hbl); have HL1 := hide (HL.out.below HS.out HO.out hbl); obtain ⟨l, hi1, ha1, he1, hcall⟩ := HO1.out.show_ HS.out HOK.out HGE.out d0 d1; rw [HCD.out] at hcall; have HCALL := hide hcall; have HX := hide (And.intro hi1 (And.intro ha1 he1)); clear hbl hi1 ha1 he1 hcall) | (refine HCALL.out.mono ?_; rintro e w' ⟨rfl, hi2, ht2⟩; have HY := hide (And.intro hi2 ht2); clear hi2 ht2))
                      have hfin := HO1.out.last_ HX.out.2.2 HY.out.1 HY.out.2
                      go_end0
                      exact HPO.out _ hfin.1 hfin.2

          · have hjl : j = ds.length := by omega
            subst hjl
            have hHO := HO.out
            rw [List.drop_length, List.nil_append, ← HRR.out] at hHO
            have HO := hide hHO
            clear hHO
            go_wp2
            go_roundw
            case rel => exact ⟨k + 1, cnt, by omega, by go_num, rfl, by omega, HO⟩
            case measure => simp [intOf]; omega
      · obtain rfl : k = N := by omega
        have HUC2 := hide (unit_done HN1.out HUC.out)
        clear HUC
        go_wp2_with (refine HUC2.out.mono ?_; rintro e w' ⟨⟨A1, n7, c7, rfl⟩, hbl⟩; have HO1 := hide (HO.out.below HS.out hbl); clear hbl)
        have hfin := HO1.out.over (by rw [Nat.sub_self]; rfl)
        go_end0
        exact HPO.out _ hfin.1 hfin.2

end Go.Proofs.Ytpbkidjbbhkjnaa
