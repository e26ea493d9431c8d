/-
  WALKS: the reference's distance: a matrix, row by row.
-/
import Derived.Test.YtfpcfpjnafnjiaaDistC
import Derived.StillTailTactics
set_option linter.all false
namespace Go.Proofs.Ytfpcfpjnafnjiaa
open Go.RowKit Osa
attribute [local go_sem high] run_min_i run_max_i

theorem run_min_i3 {P : Program} {w : World} (ts : Array TypeId) (t : TypeId) (x y z : Int) : (Builtin.min_ ts t #[.int .i64 x, .int .i64 y, .int .i64 z]).run P w = .ok (.int .i64 (min (min x y) z)) w := by
  rw [run_min_int3]; congr 2; repeat' split <;> omega
attribute [local go_sem high] run_min_i3
/-- The slice of rows, of which i are made. -/
def dcells (g N K i : Nat) : Array Value := ((List.range K).map fun r => if r < i then rowV N (g + 1 + r) else .slice none 0 0).toArray
theorem dcells_get {g N K i r : Nat} (h : r < K) : (dcells g N K i)[r]? = some (if r < i then rowV N (g + 1 + r) else .slice none 0 0) := by simp [dcells, h]
theorem dcells_set {g N K i : Nat} : (dcells g N K i).setIfInBounds i (rowV N (g + 1 + i)) = dcells g N K (i + 1) := by
  apply Array.ext_getElem?
  intro r
  rw [Array.getElem?_setIfInBounds]
  by_cases hr : r < K
  · rw [dcells_get hr, dcells_get hr]
    by_cases h : i = r
    · subst h
      rw [if_pos rfl, if_pos (by simp [dcells]; exact hr), if_pos (by omega)]
    · rw [if_neg h]
      by_cases h2 : r < i
      · rw [if_pos h2, if_pos (by omega)]
      · rw [if_neg h2, if_neg (by omega)]
  · have e1 : (dcells g N K i)[r]? = none := by rw [Array.getElem?_eq_none]; simp [dcells]; omega
    have e2 : (dcells g N K (i + 1))[r]? = none := by rw [Array.getElem?_eq_none]; simp [dcells]; omega
    rw [e1, e2]
    split
    · rw [if_neg (by simp [dcells]; omega)]
    · rfl
theorem make_rows (K g N : Nat) (w : World) (h : K ≤ 5000000000000) : (Instr.makeSlice 83 (.int .i64 K) (.int .i64 K)).run Try.prog w = .ok (.slice (some ⟨w.heap.size, 0, none⟩) K K) (w.alloc (.cells (dcells g N K 0) 70)) := by
  obtain ⟨i0, hi, hz0, hz1, hz2⟩ := info_parts info_slint
  have := run_make (P := Try.prog) w 83 70 i0 (.slice none 0 0) Try.underlying83 hi hz0 .i64 .i64 K K (by omega) (Int.le_refl _) (by rw [hz2]; omega) (by omega)
  rw [this, hz1]
  have e : madeCells (Value.slice none 0 0).cells (K * 1) = dcells g N K 0 := by
    rw [Nat.mul_one]
    apply Array.ext_getElem?
    intro i
    by_cases h : i < K
    · rw [dcells_get h]; simp [madeCells, Value.cells, h, Nat.mod_one]
    · rw [Array.getElem?_eq_none (by simp [madeCells]; omega), Array.getElem?_eq_none (by simp [dcells]; omega)]
  rw [show (K : Int).toNat = K from by omega, e]

theorem D_step {a b : Nat → UInt8} {i j p q : Nat} (hi : i = p + 1) (hj : j = q + 1) : D a b i j = if 1 ≤ p ∧ 1 ≤ q ∧ a p = b (q - 1) ∧ a (p - 1) = b q then min (min (min (D a b p j + 1) (D a b i q + 1)) (D a b p q + if a p = b q then 0 else 1)) (D a b (p - 1) (q - 1) + 1)
    else min (min (D a b p j + 1) (D a b i q + 1)) (D a b p q + if a p = b q then 0 else 1) := by
  subst hi hj
  rw [D]
/-- The matrix with i rows whole. -/
structure Mat (w wr : World) (A B : Nat → UInt8) (N K i : Nat) : Prop where
  bel : Below w.heap.size w wr
  size : wr.heap.size = w.heap.size + 1 + i
  kd : Blk wr w.heap.size 70 (dcells w.heap.size N K i)
  kr : ∀ r, r < i → Blk wr (w.heap.size + 1 + r) 3 (ints (rowOf N (fun j => (D A B r j : Int))))
  dr : w.drawn ≤ wr.drawn
/-- .. and the row i under way. -/
structure MatF (w wr : World) (A B : Nat → UInt8) (N K i : Nat) (f : Nat → Int) : Prop where
  bel : Below w.heap.size w wr
  size : wr.heap.size = w.heap.size + 1 + (i + 1)
  kd : Blk wr w.heap.size 70 (dcells w.heap.size N K (i + 1))
  kr : ∀ r, r < i → Blk wr (w.heap.size + 1 + r) 3 (ints (rowOf N (fun j => (D A B r j : Int))))
  ki : Blk wr (w.heap.size + 1 + i) 3 (ints (rowOf N f))
  dr : w.drawn ≤ wr.drawn
section
variable {w wr : World} {A B : Nat → UInt8} {N K i : Nat} {f : Nat → Int}
theorem MatF.drewN (h : MatF w wr A B N K i f) (k : Nat) : MatF w (wr.drewN k) A B N K i f :=
  ⟨bl_drewN h.bel k, h.size, h.kd.drewN k, fun r hr => (h.kr r hr).drewN k, h.ki.drewN k, Nat.le_trans h.dr (Nat.le_add_right _ _)⟩
theorem MatF.drew (h : MatF w wr A B N K i f) : MatF w wr.drew A B N K i f :=
  ⟨bl_drew h.bel, h.size, h.kd.drew, fun r hr => (h.kr r hr).drew, h.ki.drew, Nat.le_trans h.dr (Nat.le_succ _)⟩
theorem MatF.store (h : MatF w wr A B N K i f) {k : Nat} {x : Int} {f' : Nat → Int} (hx : f' k = x) (hf : ∀ t, t ≠ k → f' t = f t) : MatF w (wr.setCell ⟨w.heap.size + 1 + i, k, none⟩ (.int .i64 x)) A B N K i f' := by
  refine ⟨h.bel.setCell (by show w.heap.size ≤ _; simp only []; omega) _, by have := h.size; simp [World.setCell]; exact this, h.kd.far (by show _ ≠ _; simp only []; omega) _, fun r hr => (h.kr r hr).far (by show _ ≠ _; simp only []; omega) _, ?_, h.dr⟩
  have := h.ki.set_ k (.int .i64 x)
  rw [ints_set, rowOf_set hx hf] at this
  exact this
theorem MatF.full (h : MatF w wr A B N K i f) (hf : ∀ t, t < N → f t = (D A B i t : Int)) : Mat w wr A B N K (i + 1) :=
  ⟨h.bel, h.size, h.kd, fun r hr => by
    by_cases h1 : r < i
    · exact h.kr r h1
    · have : r = i := by omega
      subst this
      rw [← rowOf_congr hf]
      exact h.ki, h.dr⟩
theorem MatF.d (h : MatF w wr A B N K i f) {r : Nat} (hr : r ≤ i) (hK : r < K) : wr.cell? ⟨w.heap.size, r, none⟩ = some (.slice (some ⟨w.heap.size + 1 + r, 0, none⟩) N N) := by
  rw [h.kd.cell, dcells_get hK, if_pos (by omega)]; rfl
theorem MatF.row (h : MatF w wr A B N K i f) {r t : Nat} (hr : r < i) (ht : t < N) : wr.cell? ⟨w.heap.size + 1 + r, t, none⟩ = some (.int .i64 (D A B r t)) := by
  rw [(h.kr r hr).cell, rowOf_get ht]
theorem MatF.cur (h : MatF w wr A B N K i f) {t : Nat} (ht : t < N) : wr.cell? ⟨w.heap.size + 1 + i, t, none⟩ = some (.int .i64 (f t)) := by
  rw [h.ki.cell, rowOf_get ht]
end

set_option maxHeartbeats 25600000 in
set_option maxRecDepth 100000 in
theorem steps_grow (a b : ByteArray) (w : World) (ha : a.size ≤ 2000000) (hb : b.size ≤ 2000000) :
    Calls Try.prog 26 #[.string a, .string b] w fun e w' => e = .returned (.int .i64 (D (sb a) (sb b) a.size b.size)) ∧ Below w.heap.size w w' ∧ w.drawn ≤ w'.drawn := by
  have hmk := fun w => make_rows (a.size + 1) w.heap.size (b.size + 1) w (by omega)
  have hmr := fun w => make_big (b.size + 1) w (by omega)
  have hca : (((a.size + 1 : Nat) : Int)) = (a.size : Int) + 1 := by omega
  have hcb : (((b.size + 1 : Nat) : Int)) = (b.size : Int) + 1 := by omega
  rw [hca] at hmk
  rw [hcb] at hmr
  have HMR := hide hmr
  generalize hK : a.size + 1 = K at *
  generalize hN : b.size + 1 = N at *
  have HK := hide hK
  have HN := hide hN
  clear hca hcb hK hN hmr
  have hKb : K ≤ 2000001 := by have := HK.out; omega
  have hNb : N ≤ 2000001 := by have := HN.out; omega
  go_enter Try.func26, Try.ntmps26
  go_wp2
  clear hmk
  have hM0 : Mat w (w.alloc (.cells (dcells w.heap.size N K 0) 70)) (sb a) (sb b) N K 0 := ⟨bl_alloc (Below.refl _ _) _, by rw [World.size_alloc], Blk.new w _ _, fun r hr => absurd hr (by omega), Nat.le_refl _⟩
  have HM0 := hide hM0
  generalize w.alloc (.cells (dcells w.heap.size N K 0) 70) = W0 at HM0 ⊢
  clear hM0
  generalize hg : w.heap.size = g
  have HG := hide hg
  clear hg
  go_loopw [14] (fun v wx => ∃ i : Nat, i ≤ K ∧ v = .int .i64 i ∧ Hid (Mat w wx (sb a) (sb b) N K i)) (fun v _ => K - (intOf v).toNat)
  case atStart => exact ⟨0, Nat.zero_le _, rfl, HM0⟩
  case round =>
  clear HM0
  obtain ⟨i, hi, rfl, HM⟩ := hrel
  by_cases hlt : i < K
  · have cd := HM.out.kd.cell i
    have fd := HM.out.kd.frozen i
    have ld := HM.out.kd.lt
    have hsz := HM.out.size
    rw [dcells_get hlt, if_neg (by omega), HG.out] at cd
    rw [HG.out] at fd ld hsz
    have hmr := HMR.out wr
    have HSZ := hide hsz
    rw [hsz] at hmr
    have i1 : (i : Int) < (K : Int) := by omega
    clear hsz
    go_upto_region 6 with (fail)
    have hF : MatF w ((wr.setCell ⟨g, i, none⟩ (.slice (some ⟨g + 1 + i, 0, none⟩) N N)).alloc (.cells (ints (List.replicate N 0)) 3)) (sb a) (sb b) N K i (fun t => if t < 0 then (D (sb a) (sb b) i t : Int) else 0) := by
      have hg := HG.out
      have hs : (wr.setCell ⟨g, i, none⟩ (.slice (some ⟨g + 1 + i, 0, none⟩) N N)).heap.size = g + 1 + i := by simp [World.setCell]; exact HSZ.out
      have e0 : rowOf N (fun t => if t < 0 then (D (sb a) (sb b) i t : Int) else 0) = List.replicate N 0 := by simp only [Nat.not_lt_zero, if_false, rowOf_const]
      refine ⟨((HM.out.bel.setCell (by show w.heap.size ≤ g; omega) _).alloc (by rw [hs]; omega) _), by rw [World.size_alloc, hs, hg]; omega, ?_, fun r hr => ((HM.out.kr r hr).far (by show _ ≠ g; omega) _).alloc _, ?_, HM.out.dr⟩
      · have := (HM.out.kd.set_ i (rowV N (g + 1 + i)))
        rw [hg] at this ⊢
        rw [dcells_set] at this
        exact this.alloc _
      · rw [e0]
        have := Blk.new (wr.setCell ⟨g, i, none⟩ (.slice (some ⟨g + 1 + i, 0, none⟩) N N)) 3 (ints (List.replicate N 0))
        rw [hs] at this
        rw [hg]
        exact this
    have HF := hide hF
    clear hF hmr cd fd ld HSZ HM
    generalize (wr.setCell ⟨g, i, none⟩ (.slice (some ⟨g + 1 + i, 0, none⟩) N N)).alloc (.cells (ints (List.replicate N 0)) 3) = W1 at HF ⊢
    have cd := HF.out.d (Nat.le_refl i) hlt
    rw [HG.out] at cd
    go_wp2
    clear cd
    go_loopw [29] (fun v wx => ∃ j : Nat, j ≤ N ∧ v = .int .i64 j ∧ Hid (MatF w wx (sb a) (sb b) N K i (fun t => if t < j then (D (sb a) (sb b) i t : Int) else 0))) (fun v _ => N - (intOf v).toNat)
    case atStart => exact ⟨0, Nat.zero_le _, rfl, HF⟩
    case round =>
    clear HF
    obtain ⟨j, hj, rfl, HF⟩ := hrel
    by_cases hltj : j < N
    · have cd := HF.out.d (Nat.le_refl i) hlt
      have cc := HF.out.cur hltj
      have fc := HF.out.ki.frozen j
      simp only [Nat.lt_irrefl, if_false] at cc
      rw [HG.out] at cd cc fc
      have j1 : (j : Int) < (N : Int) := by omega
      have hstore : ∀ (wx : World) (f : Nat → Int), MatF w wx (sb a) (sb b) N K i f → ∀ x : Int, (∀ t, t ≠ j → f t = if t < j then (D (sb a) (sb b) i t : Int) else 0) → MatF w (wx.setCell ⟨g + 1 + i, j, none⟩ (.int .i64 x)) (sb a) (sb b) N K i (fun t => if t = j then x else if t < j then (D (sb a) (sb b) i t : Int) else 0) := fun wx f h x hf => by
        have hg := HG.out
        rw [← hg]
        exact h.store (if_pos rfl) (fun t ht => by rw [if_neg ht, hf t ht])
      have hlast : ∀ (wx : World) (x : Int), MatF w wx (sb a) (sb b) N K i (fun t => if t = j then x else if t < j then (D (sb a) (sb b) i t : Int) else 0) → x = D (sb a) (sb b) i j → MatF w wx (sb a) (sb b) N K i (fun t => if t < j + 1 then (D (sb a) (sb b) i t : Int) else 0) := fun wx x h hx => by
        have e : (fun t => if t = j then x else if t < j then (D (sb a) (sb b) i t : Int) else 0) = (fun t => if t < j + 1 then (D (sb a) (sb b) i t : Int) else 0) := by
          funext t
          by_cases h1 : t = j
          · subst h1; rw [if_pos rfl, if_pos (by omega), hx]
          · rw [if_neg h1]
            by_cases h2 : t < j
            · rw [if_pos h2, if_pos (by omega)]
            · rw [if_neg h2, if_neg (by omega)]
        rw [← e]
        exact h
      have HSTO := hide hstore
      have HLAST := hide hlast
      clear hstore hlast
      by_cases hz : i = 0 ∨ j = 0
      · have hD : ((i : Int) + j) = D (sb a) (sb b) i j := by
          rcases hz with rfl | rfl
          · rw [D_0]; simp
          · rw [D_i0]; simp
        have HD := hide hD
        clear hD
        have hzc : ((i : Int) == 0) = true ∨ (((i : Int) == 0) = false ∧ ((j : Int) == 0) = true) := by
          by_cases h : i = 0
          · exact .inl (by simp [h])
          · exact .inr ⟨by simp [h], by simp; omega⟩
        clear hz
        rcases hzc with z1 | ⟨z1, z2⟩
        all_goals
          go_wp2
          go_roundw
          case rel => exact ⟨j + 1, by omega, by go_num, hide (HLAST.out _ _ (HSTO.out _ _ HF.out _ (fun t ht => rfl)) HD.out)⟩
          case measure => simp [intOf]; omega
      · have z1 : ((i : Int) == 0) = false := by simp; omega
        have z2 : ((j : Int) == 0) = false := by simp; omega
        obtain ⟨p, hp⟩ : ∃ p, p = i - 1 := ⟨_, rfl⟩
        obtain ⟨q, hq⟩ : ∃ q, q = j - 1 := ⟨_, rfl⟩
        have hi1 : 1 ≤ i ∧ 1 ≤ j := by omega
        have dp := HF.out.d (r := p) (by omega) (by omega)
        have r1 := HF.out.row (r := p) (t := j) (by omega) hltj
        have r2 := HF.out.row (r := p) (t := q) (by omega) (by omega)
        have r3 := HF.out.cur (t := q) (by omega)
        rw [if_pos (by omega)] at r3
        rw [HG.out] at dp r1 r2 r3
        have u1 := upper (a := sb a) (b := sb b) p j
        have u2 := upper (a := sb a) (b := sb b) p q
        have u3 := upper (a := sb a) (b := sb b) i q
        have hIA : i ≤ a.size ∧ j ≤ b.size := by have := HK.out; have := HN.out; omega
        obtain ⟨ia, jb⟩ := hIA
        have w1 : IntKind.i64.wrap ((i : Int) - 1) = (p : Int) := by rw [IntKind.wrap_i64]; omega
        have w2 : IntKind.i64.wrap ((j : Int) - 1) = (q : Int) := by rw [IntKind.wrap_i64]; omega
        have w3 : IntKind.i64.wrap ((D (sb a) (sb b) p j : Int) + 1) = (D (sb a) (sb b) p j : Int) + 1 := by rw [IntKind.wrap_i64]; omega
        have w4 : IntKind.i64.wrap ((D (sb a) (sb b) p q : Int) + 1) = (D (sb a) (sb b) p q : Int) + 1 := by rw [IntKind.wrap_i64]; omega
        have w5 : IntKind.i64.wrap ((D (sb a) (sb b) i q : Int) + 1) = (D (sb a) (sb b) i q : Int) + 1 := by rw [IntKind.wrap_i64]; omega
        have i2 : (p : Int) < (K : Int) := by omega
        have j2 : (q : Int) < (N : Int) := by omega
        have i3 : (p : Int) < (a.size : Int) := by omega
        have j3 : (q : Int) < (b.size : Int) := by omega
        have HU := hide (And.intro u1 (And.intro u2 u3))
        have HPQ := hide (And.intro hp (And.intro hq hi1))
        clear u1 u2 u3 hp hq hi1 hz
        go_upto_region 9 with (fail)
        go_still_tail 35, (by kernel_rfl)
        change wpList _ _ _ _ _ wr.drew
        go_wp2_with fail
        generalize hv1 : min (D (sb a) (sb b) p j : Int) (min (D (sb a) (sb b) i q : Int) (D (sb a) (sb b) p q : Int)) + 1 = v1
        have HV1 := hide hv1
        have h2 := (HSTO.out wr _ HF.out v1 (fun t ht => rfl)).drew
        clear hv1 w3 w4 w5 cd cc fc dp r1 r2 r3 HF
        generalize (wr.setCell ⟨g + 1 + i, j, none⟩ (.int .i64 v1)).drew = W2 at h2 ⊢
        have H2 := hide h2
        clear h2
        have hbe := byte_cases a[p] b[q]
        have hbeq : (sb a p = sb b q) ↔ a[p] = b[q] := by rw [sb_at (show p < a.size by omega), sb_at (show q < b.size by omega)]
        rcases hbe with ⟨e1, f1⟩ | ⟨e1, f1⟩
        · have HE := hide (hbeq.2 e1)
          clear e1 hbeq
          go_quiet (fail)
          have h3 := H2.out.drewN nq
          generalize W2.drewN nq = W3 at h3 ⊢
          have H3 := hide h3
          have cd := h3.d (Nat.le_refl i) hlt
          have dp := h3.d (r := p) (by have := HPQ.out; omega) (by omega)
          have r2 := h3.row (r := p) (t := q) (by have := HPQ.out; omega) (by omega)
          have cc := h3.cur hltj
          have fc := h3.ki.frozen j
          simp only [if_true] at cc
          rw [HG.out] at cd dp r2 cc fc
          clear h3 H2
          go_upto_region 11 with (fail)
          go_still_tail 23, (by kernel_rfl)
          change wpList _ _ _ _ _ W3.drew
          go_wp2_with fail
          clear cd dp r2 cc fc f1
          generalize hv2 : min v1 (D (sb a) (sb b) p q : Int) = v2
          have h4 := (HSTO.out W3 _ H3.out v2 (fun t ht => if_neg ht)).drew
          generalize (W3.setCell ⟨g + 1 + i, j, none⟩ (.int .i64 v2)).drew = W4 at h4 ⊢
          have H4 := hide h4
          have hV2 : v2 = min (min ((D (sb a) (sb b) p j : Int) + 1) ((D (sb a) (sb b) i q : Int) + 1)) ((D (sb a) (sb b) p q : Int) + ((if sb a p = sb b q then 0 else 1 : Nat) : Int)) := by
            rw [if_pos HE.out]; have := HV1.out; omega
          have HV2 := hide hV2
          clear h4 hv2 hV2 H3
          have hD := D_step (a := sb a) (b := sb b) (i := i) (j := j) (p := p) (q := q) (by have := HPQ.out; omega) (by have := HPQ.out; omega)
          obtain ⟨pm, hpm⟩ : ∃ x, x = p - 1 := ⟨_, rfl⟩
          obtain ⟨qm, hqm⟩ : ∃ x, x = q - 1 := ⟨_, rfl⟩
          rw [← hpm, ← hqm] at hD
          have hpq : (p = 0 ∧ ¬ (1 : Int) < (i : Int)) ∨ (q = 0 ∧ (1 : Int) < (i : Int) ∧ ¬ (1 : Int) < (j : Int)) ∨ ((1 ≤ p ∧ 1 ≤ q) ∧ (1 : Int) < (i : Int) ∧ (1 : Int) < (j : Int)) := by have := HPQ.out; omega
          rcases hpq with ⟨p0, g1⟩ | ⟨q0, g1, g2⟩ | ⟨hpq, g1, g2⟩
          · rw [if_neg (by omega)] at hD
            have hv : v2 = (D (sb a) (sb b) i j : Int) := by have := HV2.out; omega
            have HV := hide hv
            have gt1 : decide ((1 : Int) < (i : Int)) = false := decide_eq_false g1
            clear hD hpm hqm hv g1 p0
            go_quiet (fail)
            go_wp2
            go_roundw
            case rel => exact ⟨j + 1, by omega, by go_num, hide (HLAST.out _ _ (H4.out.drewN _) HV.out)⟩
            case measure => simp [intOf]; omega
          · rw [if_neg (by omega)] at hD
            have hv : v2 = (D (sb a) (sb b) i j : Int) := by have := HV2.out; omega
            have HV := hide hv
            have gt1 : decide ((1 : Int) < (i : Int)) = true := decide_eq_true g1
            have gt2 : decide ((1 : Int) < (j : Int)) = false := decide_eq_false g2
            clear hD hpm hqm hv g1 g2 q0
            go_quiet (fail)
            go_wp2
            go_roundw
            case rel => exact ⟨j + 1, by omega, by go_num, hide (HLAST.out _ _ (H4.out.drewN _) HV.out)⟩
            case measure => simp [intOf]; omega
          · have gt1 : decide ((1 : Int) < (i : Int)) = true := decide_eq_true g1
            have gt2 : decide ((1 : Int) < (j : Int)) = true := decide_eq_true g2
            have w6 : IntKind.i64.wrap ((i : Int) - 2) = (pm : Int) := by rw [IntKind.wrap_i64]; have := HPQ.out; omega
            have w7 : IntKind.i64.wrap ((j : Int) - 2) = (qm : Int) := by rw [IntKind.wrap_i64]; have := HPQ.out; omega
            have k3 : (pm : Int) < (a.size : Int) := by omega
            have k4 : (qm : Int) < (b.size : Int) := by omega
            have kpm : pm < a.size := by omega
            have kqm : qm < b.size := by omega
            have kp : p < a.size := by omega
            have kq : q < b.size := by omega
            have s1 := sb_at (s := a) (i := p) kp
            have s2 := sb_at (s := b) (i := q) kq
            have s3 := sb_at (s := a) (i := pm) kpm
            have s4 := sb_at (s := b) (i := qm) kqm
            have hcond : (1 ≤ p ∧ 1 ≤ q ∧ sb a p = sb b qm ∧ sb a pm = sb b q) ↔ (a[p] = b[qm] ∧ a[pm] = b[q]) := by
              rw [s1, s2, s3, s4]
              exact ⟨fun h => h.2.2, fun h => ⟨hpq.1, hpq.2, h⟩⟩
            clear s1 s2 s3 s4 g1 g2
            rcases byte_cases a[p] b[qm] with ⟨e2, f2⟩ | ⟨e2, f2⟩
            · rcases byte_cases a[pm] b[q] with ⟨e3, f3⟩ | ⟨e3, f3⟩
              · rw [if_pos (hcond.2 ⟨e2, e3⟩)] at hD
                have HD := hide hD
                have HPM := hide (And.intro hpm hqm)
                clear hD hcond e2 e3 hpm hqm
                go_quiet (fail)
                have h5 := H4.out.drewN nq
                generalize W4.drewN nq = W5 at h5 ⊢
                have H5 := hide h5
                have cd := h5.d (Nat.le_refl i) hlt
                have dp := h5.d (r := pm) (by have := HPQ.out; have := HPM.out; omega) (by have := HPQ.out; have := HPM.out; omega)
                have r2 := h5.row (r := pm) (t := qm) (by have := HPQ.out; have := HPM.out; omega) (by have := HPQ.out; have := HPM.out; omega)
                have cc := h5.cur hltj
                have fc := h5.ki.frozen j
                have u5 := upper (a := sb a) (b := sb b) pm qm
                have w8 : IntKind.i64.wrap ((D (sb a) (sb b) pm qm : Int) + 1) = (D (sb a) (sb b) pm qm : Int) + 1 := by rw [IntKind.wrap_i64]; have := HPM.out; omega
                have kk : (pm : Int) < (K : Int) := by have := HPM.out; omega
                have kn : (qm : Int) < (N : Int) := by have := HPM.out; omega
                simp only [if_true] at cc
                rw [HG.out] at cd dp r2 cc fc
                clear h5 H4 u5
                go_upto_region 13 with (fail)
                go_still_tail 24, (by kernel_rfl)
                change wpList _ _ _ _ _ W5.drew
                go_wp2
                go_roundw
                case rel => exact ⟨j + 1, by omega, by go_num, hide (HLAST.out _ _ ((HSTO.out W5 _ H5.out _ (fun t ht => if_neg ht)).drew) (by have := HV2.out; have := HD.out; omega))⟩
                case measure => simp [intOf]; omega
              · rw [if_neg (fun h => e3 (hcond.1 h).2)] at hD
                have hv : v2 = (D (sb a) (sb b) i j : Int) := by have := HV2.out; omega
                have HV := hide hv
                clear hD hpm hqm hv hcond e2 e3
                go_quiet (fail)
                go_wp2
                go_roundw
                case rel => exact ⟨j + 1, by omega, by go_num, hide (HLAST.out _ _ (H4.out.drewN _) HV.out)⟩
                case measure => simp [intOf]; omega
            · rw [if_neg (fun h => e2 (hcond.1 h).1)] at hD
              have hv : v2 = (D (sb a) (sb b) i j : Int) := by have := HV2.out; omega
              have HV := hide hv
              clear hD hpm hqm hv hcond e2
              go_quiet (fail)
              go_wp2
              go_roundw
              case rel => exact ⟨j + 1, by omega, by go_num, hide (HLAST.out _ _ (H4.out.drewN _) HV.out)⟩
              case measure => simp [intOf]; omega
        · have HE := hide (fun h => e1 (hbeq.1 h))
          clear e1 hbeq
          go_quiet (fail)
          have h4 := H2.out.drewN nq
          generalize W2.drewN nq = W4 at h4 ⊢
          have H4 := hide h4
          have hV2 : v1 = min (min ((D (sb a) (sb b) p j : Int) + 1) ((D (sb a) (sb b) i q : Int) + 1)) ((D (sb a) (sb b) p q : Int) + ((if sb a p = sb b q then 0 else 1 : Nat) : Int)) := by
            rw [if_neg HE.out]; have := HV1.out; omega
          have HV2 := hide hV2
          clear h4 hV2 H2 f1
          go_upto_region 12 with (fail)
          have hD := D_step (a := sb a) (b := sb b) (i := i) (j := j) (p := p) (q := q) (by have := HPQ.out; omega) (by have := HPQ.out; omega)
          obtain ⟨pm, hpm⟩ : ∃ x, x = p - 1 := ⟨_, rfl⟩
          obtain ⟨qm, hqm⟩ : ∃ x, x = q - 1 := ⟨_, rfl⟩
          rw [← hpm, ← hqm] at hD
          have hpq : (p = 0 ∧ ¬ (1 : Int) < (i : Int)) ∨ (q = 0 ∧ (1 : Int) < (i : Int) ∧ ¬ (1 : Int) < (j : Int)) ∨ ((1 ≤ p ∧ 1 ≤ q) ∧ (1 : Int) < (i : Int) ∧ (1 : Int) < (j : Int)) := by have := HPQ.out; omega
          rcases hpq with ⟨p0, g1⟩ | ⟨q0, g1, g2⟩ | ⟨hpq, g1, g2⟩
          · rw [if_neg (by omega)] at hD
            have hv : v1 = (D (sb a) (sb b) i j : Int) := by have := HV2.out; omega
            have HV := hide hv
            have gt1 : decide ((1 : Int) < (i : Int)) = false := decide_eq_false g1
            clear hD hpm hqm hv g1 p0
            go_quiet (fail)
            go_wp2
            go_roundw
            case rel => exact ⟨j + 1, by omega, by go_num, hide (HLAST.out _ _ (H4.out.drewN _) HV.out)⟩
            case measure => simp [intOf]; omega
          · rw [if_neg (by omega)] at hD
            have hv : v1 = (D (sb a) (sb b) i j : Int) := by have := HV2.out; omega
            have HV := hide hv
            have gt1 : decide ((1 : Int) < (i : Int)) = true := decide_eq_true g1
            have gt2 : decide ((1 : Int) < (j : Int)) = false := decide_eq_false g2
            clear hD hpm hqm hv g1 g2 q0
            go_quiet (fail)
            go_wp2
            go_roundw
            case rel => exact ⟨j + 1, by omega, by go_num, hide (HLAST.out _ _ (H4.out.drewN _) HV.out)⟩
            case measure => simp [intOf]; omega
          · have gt1 : decide ((1 : Int) < (i : Int)) = true := decide_eq_true g1
            have gt2 : decide ((1 : Int) < (j : Int)) = true := decide_eq_true g2
            have w6 : IntKind.i64.wrap ((i : Int) - 2) = (pm : Int) := by rw [IntKind.wrap_i64]; have := HPQ.out; omega
            have w7 : IntKind.i64.wrap ((j : Int) - 2) = (qm : Int) := by rw [IntKind.wrap_i64]; have := HPQ.out; omega
            have k3 : (pm : Int) < (a.size : Int) := by omega
            have k4 : (qm : Int) < (b.size : Int) := by omega
            have kpm : pm < a.size := by omega
            have kqm : qm < b.size := by omega
            have kp : p < a.size := by omega
            have kq : q < b.size := by omega
            have s1 := sb_at (s := a) (i := p) kp
            have s2 := sb_at (s := b) (i := q) kq
            have s3 := sb_at (s := a) (i := pm) kpm
            have s4 := sb_at (s := b) (i := qm) kqm
            have hcond : (1 ≤ p ∧ 1 ≤ q ∧ sb a p = sb b qm ∧ sb a pm = sb b q) ↔ (a[p] = b[qm] ∧ a[pm] = b[q]) := by
              rw [s1, s2, s3, s4]
              exact ⟨fun h => h.2.2, fun h => ⟨hpq.1, hpq.2, h⟩⟩
            clear s1 s2 s3 s4 g1 g2
            rcases byte_cases a[p] b[qm] with ⟨e2, f2⟩ | ⟨e2, f2⟩
            · rcases byte_cases a[pm] b[q] with ⟨e3, f3⟩ | ⟨e3, f3⟩
              · rw [if_pos (hcond.2 ⟨e2, e3⟩)] at hD
                have HD := hide hD
                have HPM := hide (And.intro hpm hqm)
                clear hD hcond e2 e3 hpm hqm
                go_quiet (fail)
                have h5 := H4.out.drewN nq
                generalize W4.drewN nq = W5 at h5 ⊢
                have H5 := hide h5
                have cd := h5.d (Nat.le_refl i) hlt
                have dp := h5.d (r := pm) (by have := HPQ.out; have := HPM.out; omega) (by have := HPQ.out; have := HPM.out; omega)
                have r2 := h5.row (r := pm) (t := qm) (by have := HPQ.out; have := HPM.out; omega) (by have := HPQ.out; have := HPM.out; omega)
                have cc := h5.cur hltj
                have fc := h5.ki.frozen j
                have u5 := upper (a := sb a) (b := sb b) pm qm
                have w8 : IntKind.i64.wrap ((D (sb a) (sb b) pm qm : Int) + 1) = (D (sb a) (sb b) pm qm : Int) + 1 := by rw [IntKind.wrap_i64]; have := HPM.out; omega
                have kk : (pm : Int) < (K : Int) := by have := HPM.out; omega
                have kn : (qm : Int) < (N : Int) := by have := HPM.out; omega
                simp only [if_true] at cc
                rw [HG.out] at cd dp r2 cc fc
                clear h5 H4 u5
                go_upto_region 13 with (fail)
                go_still_tail 24, (by kernel_rfl)
                change wpList _ _ _ _ _ W5.drew
                go_wp2
                go_roundw
                case rel => exact ⟨j + 1, by omega, by go_num, hide (HLAST.out _ _ ((HSTO.out W5 _ H5.out _ (fun t ht => if_neg ht)).drew) (by have := HV2.out; have := HD.out; omega))⟩
                case measure => simp [intOf]; omega
              · rw [if_neg (fun h => e3 (hcond.1 h).2)] at hD
                have hv : v1 = (D (sb a) (sb b) i j : Int) := by have := HV2.out; omega
                have HV := hide hv
                clear hD hpm hqm hv hcond e2 e3
                go_quiet (fail)
                go_wp2
                go_roundw
                case rel => exact ⟨j + 1, by omega, by go_num, hide (HLAST.out _ _ (H4.out.drewN _) HV.out)⟩
                case measure => simp [intOf]; omega
            · rw [if_neg (fun h => e2 (hcond.1 h).1)] at hD
              have hv : v1 = (D (sb a) (sb b) i j : Int) := by have := HV2.out; omega
              have HV := hide hv
              clear hD hpm hqm hv hcond e2
              go_quiet (fail)
              go_wp2
              go_roundw
              case rel => exact ⟨j + 1, by omega, by go_num, hide (HLAST.out _ _ (H4.out.drewN _) HV.out)⟩
              case measure => simp [intOf]; omega
    · have hjN : j = N := by omega
      subst hjN
      have hm := HF.out.full (fun t ht => by rw [if_pos ht])
      have HM2 := hide hm
      clear hm HF
      have j1 : ¬ (j : Int) < (j : Int) := by omega
      go_wp2
      go_roundw
      case rel => exact ⟨i + 1, by omega, by go_num, HM2⟩
      case measure => simp [intOf]; omega
  · have hiK : i = K := by omega
    subst hiK
    have hk := HK.out
    have hn := HN.out
    have cd := HM.out.kd.cell a.size
    rw [dcells_get (by omega), if_pos (by omega), HG.out] at cd
    have cc := (HM.out.kr a.size (by omega)).cell b.size
    rw [rowOf_get (by omega), HG.out] at cc
    have hbel := HM.out.bel
    have hdr := HM.out.dr
    have hi1 : ¬ (i : Int) < (i : Int) := by omega
    have a1 : (a.size : Int) < (i : Int) := by omega
    have b1 : (b.size : Int) < (N : Int) := by omega
    simp only [rowV] at cd
    clear hk hn HM
    go_wp2
    go_ret
    exact ⟨rfl, hbel, hdr⟩

theorem steps_any (a b : ByteArray) (w : World) (ha : a.size ≤ 2000000) (hb : b.size ≤ 2000000) :
    Calls Try.prog 26 #[.string a, .string b] w fun e w' => e = .returned (.int .i64 (D (sb a) (sb b) a.size b.size)) ∧ Below w.heap.size w w' :=
  (steps_grow a b w ha hb).mono fun _ _ h => ⟨h.1, h.2.1⟩

end Go.Proofs.Ytfpcfpjnafnjiaa
