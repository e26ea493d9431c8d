/-
  WALKS: Distance.
-/
import Derived.Test.YtfpcfpjnafnjiaaDistB
set_option linter.all false
namespace Go.Proofs.Ytfpcfpjnafnjiaa
open Go.RowKit Osa
attribute [local go_sem high] run_min_i run_max_i

theorem cell_far {w : World} {p : Addr} {u : Value} {g i : Nat} (h : g ≠ p.block) : (w.setCell p u).cell? ⟨g, i, none⟩ = w.cell? ⟨g, i, none⟩ := World.cell?_of_block (w := w) (Below.heap_setCell w p u g h)

/-- Three rows of the distance in blocks of their own. -/
structure Three (w wr : World) (b : ByteArray) (M N gb gl gn : Nat) (rb rl rn : Nat → Int) : Prop where
  bel : Below w.heap.size w wr
  c4 : wr.cell? ⟨w.heap.size, 0, none⟩ = some (.string b)
  c8 : wr.cell? ⟨w.heap.size + 1, 0, none⟩ = some (.int .i64 ((M : Int) + 1))
  kb : Blk wr gb 3 (ints (rowOf N rb))
  kl : Blk wr gl 3 (ints (rowOf N rl))
  kn : Blk wr gn 3 (ints (rowOf N rn))
  n1 : gb ≠ gl
  n2 : gb ≠ gn
  n3 : gl ≠ gn
  hb : w.heap.size + 2 ≤ gb
  hl : w.heap.size + 2 ≤ gl
  hn : w.heap.size + 2 ≤ gn
section
variable {w wr : World} {b : ByteArray} {M N gb gl gn : Nat} {rb rl rn : Nat → Int}
theorem Three.turn (h : Three w wr b M N gb gl gn rb rl rn) : Three w wr b M N gl gn gb rl rn rb :=
  ⟨h.bel, h.c4, h.c8, h.kl, h.kn, h.kb, h.n3, h.n1.symm, h.n2.symm, h.hl, h.hn, h.hb⟩
theorem Three.drewN (h : Three w wr b M N gb gl gn rb rl rn) (k : Nat) : Three w (wr.drewN k) b M N gb gl gn rb rl rn :=
  ⟨bl_drewN h.bel k, h.c4, h.c8, h.kb.drewN k, h.kl.drewN k, h.kn.drewN k, h.n1, h.n2, h.n3, h.hb, h.hl, h.hn⟩
theorem Three.store (h : Three w wr b M N gb gl gn rb rl rn) {k : Nat} {x : Int} {f : Nat → Int} (hx : f k = x) (hf : ∀ i, i ≠ k → f i = rn i) : Three w (wr.setCell ⟨gn, k, none⟩ (.int .i64 x)) b M N gb gl gn rb rl f := by
  have hn := h.hn
  refine ⟨h.bel.setCell (by show w.heap.size ≤ gn; omega) _, (cell_far (by show _ ≠ gn; omega)).trans h.c4, (cell_far (by show _ ≠ gn; omega)).trans h.c8, h.kb.far h.n2 _, h.kl.far h.n3 _, ?_, h.n1, h.n2, h.n3, h.hb, h.hl, h.hn⟩
  have := h.kn.set_ k (.int .i64 x)
  rw [ints_set, rowOf_set hx hf] at this
  exact this
theorem Three.at_ (h : Three w wr b M N gb gl gn rb rl rn) {k : Nat} (hk : k < N) : wr.cell? ⟨gb, k, none⟩ = some (.int .i64 (rb k)) ∧ wr.cell? ⟨gl, k, none⟩ = some (.int .i64 (rl k)) ∧ wr.cell? ⟨gn, k, none⟩ = some (.int .i64 (rn k)) :=
  ⟨(h.kb.cell k).trans (rowOf_get hk), (h.kl.cell k).trans (rowOf_get hk), (h.kn.cell k).trans (rowOf_get hk)⟩
end

/-- What the three rows hold when p rows are done. -/
structure RowsInv (A B : Nat → UInt8) (M m p : Nat) (rb rl rn : Nat → Int) : Prop where
  vn : ∀ j, j ≤ m → p ≤ j + M + 1 → rn j = C A B (M + 1) p j
  vl : 1 ≤ p → ∀ j, j ≤ m → p - 1 ≤ j + M + 1 → rl j = C A B (M + 1) (p - 1) j
  fb : ∀ j, j ≤ m → p + 1 + M < j → rb j = (M : Int) + 1
  fl : ∀ j, j ≤ m → p + 2 + M < j → rl j = (M : Int) + 1
theorem RowsInv.start (A B : Nat → UInt8) (M m cnt : Nat) (hc : cnt = min m M + 1) : RowsInv A B M m 0 (fun _ => (M : Int) + 1) (fun _ => (M : Int) + 1) (fun i => if i < cnt then (i : Int) else (M : Int) + 1) := by
  refine ⟨fun j hj _ => ?_, fun h => by omega, fun _ _ _ => rfl, fun _ _ _ => rfl⟩
  unfold C
  rw [D_0]
  split <;> omega
/-- One row more. -/
theorem RowsInv.next {A B : Nat → UInt8} {M m p lo hi : Nat} {rb rl rn : Nat → Int} (h : RowsInv A B M m p rb rl rn) (hlo : lo = p + 1 - M) (hhi : hi = min m (p + 1 + M)) {f : Nat → Int}
    (h1 : ∀ t, lo ≤ t → t ≤ hi → f t = C A B (M + 1) (p + 1) t) (h2 : ∀ t, t + 1 = lo → t ≤ hi → f t = (M : Int) + 1) (h3 : ∀ t, hi < t → f t = rb t) : RowsInv A B M m (p + 1) rl rn f := by
  refine ⟨fun j hj hp => ?_, fun _ j hj hp => by rw [Nat.add_sub_cancel] at hp ⊢; exact h.vn j hj hp, fun j hj hp => h.fl j hj (by omega), fun j hj hp => ?_⟩
  · by_cases c1 : hi < j
    · rw [h3 j c1, h.fb j hj (by omega), C_far (by omega)]; rfl
    · by_cases c2 : lo ≤ j
      · exact h1 j c2 (by omega)
      · rw [h2 j (by omega) (by omega), C_far (by omega)]; rfl
  · rw [h.vn j hj (by omega), C_far (by omega)]; rfl

def distR (a b : ByteArray) (most : Int) : Int × Bool := if (D (sb a) (sb b) a.size b.size : Int) ≤ most then ((D (sb a) (sb b) a.size b.size : Int), true) else (0, false)
def DistOut (r : Int × Bool) (w : World) (e : Ending) (w' : World) : Prop := e = .returned (.tuple #[.int .i64 r.1, .bool r.2]) ∧ Below w.heap.size w w'

set_option maxHeartbeats 12800000 in
set_option maxRecDepth 100000 in
theorem distance_run (a b : ByteArray) (most : Int) (M : Nat) (w : World) (h0 : 0 ≤ most) (h1 : (a.size : Int) - b.size ≤ most) (h2 : (b.size : Int) - a.size ≤ most) (ha : a.size ≤ 2000000) (hb : b.size ≤ 2000000) (hM : min most (max (a.size : Int) b.size) = M) :
    Calls Try.prog 11 #[.string a, .string b, .int .i64 most] w (DistOut (distR a b most) w) := by
  have hMb : M ≤ 2000000 := by omega
  have hup := upper (a := sb a) (b := sb b) a.size b.size
  have hr : distR a b most = if C (sb a) (sb b) (M + 1) a.size b.size ≤ M then ((C (sb a) (sb b) (M + 1) a.size b.size : Int), true) else (0, false) := by
    unfold distR C
    by_cases hd : (D (sb a) (sb b) a.size b.size : Int) ≤ most
    · have e : min (D (sb a) (sb b) a.size b.size) (M + 1) = D (sb a) (sb b) a.size b.size := by omega
      rw [if_pos hd, if_pos (by omega), e]
    · rw [if_neg hd, if_neg (by omega)]
  generalize hRR : distR a b most = RR at hr ⊢
  have HRR := hide hr
  have hnm : a.size ≤ b.size + M := by omega
  have hrow := fun g4 g8 w h4 h8 l4 l8 => rowClo_any b ((M : Int) + 1) g4 g8 w h4 h8 l4 l8 (by omega)
  have HROW := hide hrow
  have d1 : ¬ most < 0 := by omega
  have d2 : ¬ most < (a.size : Int) - b.size := by omega
  have d3 : ¬ most < (b.size : Int) - a.size := by omega
  have HM := hide hM
  clear hr hup hRR hrow hM h1 h2
  go_enter Try.func11, Try.ntmps11
  go_upto_region 4 with (fail)
  rw [HM.out]
  clear HM
  go_upto_region 7 with (go_at_call 32; refine (HROW.out _ _ _ ?_ ?_ ?_ ?_).mono ?_; go_simp; go_simp; go_simp; go_simp; rintro e w' ⟨rfl, rfl⟩)
  have hT : Three w (((((w.alloc (.cells #[.string b] 9)).alloc (.cells #[.int .i64 ((M : Int) + 1)] 3)).alloc (.cells (ints (List.replicate (b.size + 1) ((M : Int) + 1))) 3)).alloc (.cells (ints (List.replicate (b.size + 1) ((M : Int) + 1))) 3)).alloc (.cells (ints (List.replicate (b.size + 1) ((M : Int) + 1))) 3)) b M (b.size + 1) (w.heap.size + 1 + 1) (w.heap.size + 1 + 1 + 1) (w.heap.size + 1 + 1 + 1 + 1) (fun _ => (M : Int) + 1) (fun _ => (M : Int) + 1) (fun _ => (M : Int) + 1) := by
    have k4 := (((((Blk.new w 9 #[.string b]).alloc (.cells #[.int .i64 ((M : Int) + 1)] 3)).alloc (.cells (ints (List.replicate (b.size + 1) ((M : Int) + 1))) 3)).alloc (.cells (ints (List.replicate (b.size + 1) ((M : Int) + 1))) 3)).alloc (.cells (ints (List.replicate (b.size + 1) ((M : Int) + 1))) 3))
    have k8 := ((((Blk.new (w.alloc (.cells #[.string b] 9)) 3 #[.int .i64 ((M : Int) + 1)]).alloc (.cells (ints (List.replicate (b.size + 1) ((M : Int) + 1))) 3)).alloc (.cells (ints (List.replicate (b.size + 1) ((M : Int) + 1))) 3)).alloc (.cells (ints (List.replicate (b.size + 1) ((M : Int) + 1))) 3))
    have kb := (((Blk.new ((w.alloc (.cells #[.string b] 9)).alloc (.cells #[.int .i64 ((M : Int) + 1)] 3)) 3 (ints (List.replicate (b.size + 1) ((M : Int) + 1)))).alloc (.cells (ints (List.replicate (b.size + 1) ((M : Int) + 1))) 3)).alloc (.cells (ints (List.replicate (b.size + 1) ((M : Int) + 1))) 3))
    have kl := ((Blk.new (((w.alloc (.cells #[.string b] 9)).alloc (.cells #[.int .i64 ((M : Int) + 1)] 3)).alloc (.cells (ints (List.replicate (b.size + 1) ((M : Int) + 1))) 3)) 3 (ints (List.replicate (b.size + 1) ((M : Int) + 1)))).alloc (.cells (ints (List.replicate (b.size + 1) ((M : Int) + 1))) 3))
    have kn := Blk.new ((((w.alloc (.cells #[.string b] 9)).alloc (.cells #[.int .i64 ((M : Int) + 1)] 3)).alloc (.cells (ints (List.replicate (b.size + 1) ((M : Int) + 1))) 3)).alloc (.cells (ints (List.replicate (b.size + 1) ((M : Int) + 1))) 3)) 3 (ints (List.replicate (b.size + 1) ((M : Int) + 1)))
    simp only [World.size_alloc, ← rowOf_const] at k8 kb kl kn k4
    simp only [← rowOf_const]
    exact ⟨by repeat (first | exact Below.refl _ _ | refine bl_plus ?_ | refine bl_alloc ?_ _ | refine bl_drew ?_), k4.cell 0, k8.cell 0, kb, kl, kn, by omega, by omega, by omega, by omega, by omega, by omega⟩
  generalize (((((w.alloc (.cells #[.string b] 9)).alloc (.cells #[.int .i64 ((M : Int) + 1)] 3)).alloc (.cells (ints (List.replicate (b.size + 1) ((M : Int) + 1))) 3)).alloc (.cells (ints (List.replicate (b.size + 1) ((M : Int) + 1))) 3)).alloc (.cells (ints (List.replicate (b.size + 1) ((M : Int) + 1))) 3)) = W at hT ⊢
  generalize w.heap.size + 1 + 1 + 1 + 1 = gn at hT ⊢
  generalize w.heap.size + 1 + 1 + 1 = gl at hT ⊢
  generalize w.heap.size + 1 + 1 = gb at hT ⊢
  generalize hg4 : w.heap.size = g4
  generalize hg8 : g4 + 1 = g8
  obtain ⟨N, hN⟩ : ∃ N, b.size + 1 = N := ⟨_, rfl⟩
  rw [hN] at hT ⊢
  obtain ⟨cnt, hcnt⟩ : ∃ c : Nat, c = min b.size M + 1 := ⟨_, rfl⟩
  have hci : min (b.size : Int) (M : Int) + 1 = (cnt : Int) := by omega
  have HCI := hide hci
  have HT := hide hT
  have HCN := hide hcnt
  have HNN := hide hN
  have hcb : cnt ≤ N := by omega
  have hNb : N ≤ 2000001 := by omega
  clear hci hT hcnt hN
  have c4 := HT.out.c4
  have hG := hide (And.intro hg4 hg8)
  rw [hg4] at c4
  clear hg4 hg8
  go_upto_region 8 with (fail)
  rw [HCI.out]
  clear c4
  go_loopw [61] (fun i wr => ∃ k : Nat, k ≤ cnt ∧ i = .int .i64 k ∧ Hid (Three w wr b M N gb gl gn (fun _ => (M : Int) + 1) (fun _ => (M : Int) + 1) (fun i => if i < k then (i : Int) else (M : Int) + 1))) (fun i _ => cnt - (intOf i).toNat)
  case atStart => exact ⟨0, Nat.zero_le _, rfl, hide (by simpa using HT.out)⟩
  case round =>
  clear HT
  obtain ⟨k, hk, rfl, HT⟩ := hrel
  by_cases hlt : k < cnt
  · have cn := (HT.out.at_ (k := k) (by omega)).2.2
    have fz := HT.out.kn.frozen k
    have i1 : (k : Int) < (cnt : Int) := by omega
    have i2 : (k : Int) < (N : Int) := by omega
    simp only [Nat.lt_irrefl, if_false] at cn
    go_wp2
    go_roundw
    case rel => exact ⟨k + 1, by omega, by go_num, hide (HT.out.store (by rw [if_pos (by omega)]) (fun i hi => by
      by_cases h : i < k
      · rw [if_pos h, if_pos (by omega)]
      · rw [if_neg h, if_neg (by omega)]))⟩
    case measure => simp [intOf]; omega
  have hkc : k = cnt := by omega
  subst hkc
  have hI := RowsInv.start (sb a) (sb b) M b.size k HCN.out
  have HST := hide (And.intro HT.out hI)
  clear hI HT HCN HCI hk hlt
  go_upto_region 13 with (fail)
  go_loopw [10, 11, 12, 14] (fun v1 v2 v3 i wr => ∃ (p gb gl gn : Nat) (rb rl rn : Nat → Int), p ≤ a.size ∧ v1 = .slice (some ⟨gb, 0, none⟩) N N ∧ v2 = .slice (some ⟨gl, 0, none⟩) N N ∧ v3 = .slice (some ⟨gn, 0, none⟩) N N ∧ i = .int .i64 ((p : Int) + 1) ∧ Hid (Three w wr b M N gb gl gn rb rl rn ∧ RowsInv (sb a) (sb b) M b.size p rb rl rn)) (fun _ _ _ i _ => a.size + 1 - (intOf i).toNat)
  case atStart => exact ⟨0, gb, gl, gn, _, _, _, Nat.zero_le _, rfl, rfl, rfl, rfl, HST⟩
  case round =>
  clear HST
  obtain ⟨p, gb, gl, gn, rb, rl, rn, hp, rfl, rfl, rfl, rfl, HST⟩ := hrel
  by_cases hlt : p < a.size
  · have HT := hide HST.out.1.turn
    have HI := hide HST.out.2
    clear HST
    obtain ⟨lo, hlo⟩ : ∃ x : Nat, x = p + 1 - M := ⟨_, rfl⟩
    obtain ⟨hi, hhi⟩ : ∃ x : Nat, x = min b.size (p + 1 + M) := ⟨_, rfl⟩
    obtain ⟨l1, hl1⟩ : ∃ x : Nat, x = lo - 1 := ⟨_, rfl⟩
    have hloi : max (0 : Int) ((p : Int) + 1 - M) = lo := by omega
    have hhii : min (b.size : Int) ((p : Int) + 1 + M) = hi := by omega
    have hl1i : max (0 : Int) ((lo : Int) - 1) = l1 := by omega
    have hlh : lo ≤ hi + 1 := by omega
    have hhN : hi < N := by have := HNN.out; omega
    have HLO := hide (And.intro hloi (And.intro hhii (And.intro hlo (And.intro hhi hl1))))
    have HL1 := hide hl1i
    have hl1b : l1 ≤ lo ∧ lo ≤ l1 + 1 := by omega
    have hlob : lo ≤ 2000001 ∧ hi ≤ 2000001 := by omega
    obtain ⟨q1, q2⟩ := hl1b
    obtain ⟨q3, q4⟩ := hlob
    clear hlo hhi hl1 hloi hhii hl1i
    have c4 := HT.out.c4
    rw [hG.out.1] at c4
    have i1 : (p : Int) + 1 ≤ (a.size : Int) := by omega
    have w1 : IntKind.i64.wrap ((p : Int) + 1 - M) = (p : Int) + 1 - M := by rw [IntKind.wrap_i64]; omega
    have w2 : IntKind.i64.wrap ((p : Int) + 1 + M) = (p : Int) + 1 + M := by rw [IntKind.wrap_i64]; omega
    go_upto_region 16 with (fail)
    go_quiet (fail)
    clear w1 w2
    rw [HLO.out.1, HLO.out.2.1]
    go_upto_region 18 with (fail)
    rw [HL1.out]
    clear c4 HL1
    go_loopw [17] (fun v wx => ∃ j : Nat, l1 ≤ j ∧ j ≤ hi + 1 ∧ v = .int .i64 j ∧ Hid (Three w wx b M N gl gn gb rl rn (fun t => if l1 ≤ t ∧ t < j then (M : Int) + 1 else rb t))) (fun v _ => hi + 1 - (intOf v).toNat)
    case atStart => exact ⟨l1, Nat.le_refl _, by omega, rfl, hide (by
      have e : (fun t => if l1 ≤ t ∧ t < l1 then (M : Int) + 1 else rb t) = rb := by funext t; rw [if_neg (by omega)]
      rw [e]; exact HT.out.drewN _)⟩
    case round =>
    clear HT
    obtain ⟨j, hj1, hj2, rfl, HT⟩ := hrel
    by_cases hlj : j ≤ hi
    · have cn := (HT.out.at_ (k := j) (by omega)).2.2
      have fz := HT.out.kn.frozen j
      have c8 := HT.out.c8
      rw [hG.out.1, hG.out.2] at c8
      have i2 : (j : Int) ≤ (hi : Int) := by omega
      have i3 : (j : Int) < (N : Int) := by omega
      generalize (if l1 ≤ j ∧ j < j then (M : Int) + 1 else rb j) = x0 at cn
      go_wp2
      go_roundw
      case rel => exact ⟨j + 1, by omega, by omega, by go_num, hide (HT.out.store (by rw [if_pos (by omega)]) (fun t ht => by
        by_cases h : l1 ≤ t ∧ t < j
        · rw [if_pos h, if_pos (by omega)]
        · rw [if_neg h, if_neg (by omega)]))⟩
      case measure => simp [intOf]; omega
    have hjh : j = hi + 1 := by omega
    subst hjh
    rw [show (((hi + 1 : Nat) : Int)) = (hi : Int) + 1 by omega]
    go_upto_region 22 with (fail)
    go_loopw [18] (fun v wx => ∃ j : Nat, lo ≤ j ∧ j ≤ hi + 1 ∧ v = .int .i64 j ∧ Hid (Three w wx b M N gl gn gb rl rn (fun t => if lo ≤ t ∧ t < j then (C (sb a) (sb b) (M + 1) (p + 1) t : Int) else if l1 ≤ t ∧ t < hi + 1 then (M : Int) + 1 else rb t))) (fun v _ => hi + 1 - (intOf v).toNat)
    case atStart => exact ⟨lo, Nat.le_refl _, by omega, rfl, hide (by
      have e : (fun t => if lo ≤ t ∧ t < lo then (C (sb a) (sb b) (M + 1) (p + 1) t : Int) else if l1 ≤ t ∧ t < hi + 1 then (M : Int) + 1 else rb t) = (fun t => if l1 ≤ t ∧ t < hi + 1 then (M : Int) + 1 else rb t) := by funext t; rw [if_neg (by omega)]
      rw [e]; exact HT.out)⟩
    case round =>
    clear HT
    obtain ⟨j, hj1, hj2, rfl, HT⟩ := hrel
    obtain ⟨_, _, hlo, hhi, hl1⟩ := HLO.out
    by_cases hlj : j ≤ hi
    · have hat := fun k (hk : k < N) => HT.out.at_ (k := k) hk
      have cn := (hat j (by omega)).2.2
      have fz := HT.out.kn.frozen j
      have c8 := HT.out.c8
      have c4 := HT.out.c4
      rw [hG.out.1] at c4
      rw [hG.out.1, hG.out.2] at c8
      have hst := step_C a b (p + 1) j (M + 1) gl gn gb N wr (by omega) (by omega) (by omega) (by have := HNN.out; omega) (by omega) (by omega) (by omega)
        (fun h1j => ⟨by
          rw [(hat j (by omega)).2.1, HI.out.vn j (by omega) (by omega)]; rfl, by
          rw [(hat (j - 1) (by omega)).2.1, HI.out.vn (j - 1) (by omega) (by omega)]; rfl, by
          rw [(hat (j - 1) (by omega)).2.2]
          by_cases hlj1 : lo ≤ j - 1
          · rw [if_pos (by omega)]
          · rw [if_neg (by omega), if_pos (by omega), C_far (by omega)]; rfl⟩)
        (fun h2i h2j => by
          rw [(hat (j - 2) (by omega)).1, HI.out.vl (by omega) (j - 2) (by omega) (by omega)]; rfl)
      rw [show ((p + 1 : Nat) : Int) = (p : Int) + 1 by omega, show ((M + 1 : Nat) : Int) = (M : Int) + 1 by omega] at hst
      have HSTEP := hide hst
      have i2 : (j : Int) ≤ (hi : Int) := by omega
      have i3 : (j : Int) < (N : Int) := by omega
      clear hst hat hlo hhi hl1
      generalize hx0 : (if lo ≤ j ∧ j < j then (C (sb a) (sb b) (M + 1) (p + 1) j : Int) else if l1 ≤ j ∧ j < hi + 1 then (M : Int) + 1 else rb j) = x0 at cn
      clear hx0
      go_wp2_with (go_at_call 33; refine HSTEP.out.mono ?_; rintro e w' ⟨rfl, nq2, rfl⟩)
      go_roundw
      case rel => exact ⟨j + 1, by omega, by omega, by go_num, hide (by
        have h9 := (HT.out.drewN nq2).store (k := j) (x := (C (sb a) (sb b) (M + 1) (p + 1) j : Int)) (f := fun t => if lo ≤ t ∧ t < j + 1 then (C (sb a) (sb b) (M + 1) (p + 1) t : Int) else if l1 ≤ t ∧ t < hi + 1 then (M : Int) + 1 else rb t) (by rw [if_pos (by omega)]) (fun t ht => by
          by_cases h : lo ≤ t ∧ t < j
          · rw [if_pos h, if_pos (by omega)]
          · rw [if_neg h, if_neg (by omega)])
        exact h9)⟩
      case measure => simp [intOf]; omega
    have hjh : j = hi + 1 := by omega
    subst hjh
    have hinv : RowsInv (sb a) (sb b) M b.size (p + 1) rl rn (fun t => if lo ≤ t ∧ t < hi + 1 then (C (sb a) (sb b) (M + 1) (p + 1) t : Int) else if l1 ≤ t ∧ t < hi + 1 then (M : Int) + 1 else rb t) :=
      HI.out.next hlo hhi (fun t h1 h2 => by rw [if_pos (by omega)]) (fun t h1 h2 => by rw [if_neg (by omega), if_pos (by omega)]) (fun t h1 => by rw [if_neg (by omega), if_neg (by omega)])
    have HF := hide (And.intro HT.out hinv)
    clear hinv HT HI HLO hlo hhi hl1
    go_wp2
    go_roundw
    case rel => exact ⟨p + 1, gl, gn, gb, _, _, _, by omega, rfl, rfl, rfl, by go_num, HF⟩
    case measure => simp [intOf]; omega
  · have hpa : p = a.size := by omega
    subst hpa
    have cn := (HST.out.1.at_ (k := b.size) (by have := HNN.out; omega)).2.2
    rw [HST.out.2.vn b.size (Nat.le_refl _) (by omega)] at cn
    have hbel := HST.out.1.bel
    have c4 := HST.out.1.c4
    rw [hG.out.1] at c4
    have i1 : ¬ (a.size : Int) + 1 ≤ (a.size : Int) := by omega
    have i3 : (b.size : Int) < (N : Int) := by have := HNN.out; omega
    have hr := HRR.out
    generalize C (sb a) (sb b) (M + 1) a.size b.size = r at cn hr
    by_cases hrM : r ≤ M
    · rw [if_pos hrM] at hr
      subst hr
      have i4 : (r : Int) ≤ (M : Int) := by omega
      clear HRR HST
      go_wp2
      go_returns
      exact ⟨rfl, hbel⟩
    · rw [if_neg hrM] at hr
      subst hr
      have i4 : ¬ (r : Int) ≤ (M : Int) := by omega
      clear HRR HST
      go_wp2
      go_returns
      exact ⟨rfl, hbel⟩

end Go.Proofs.Ytfpcfpjnafnjiaa
