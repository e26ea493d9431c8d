/-
  WALKS: the reader's clause.
-/
import Derived.Test.YtfklaahakibljaaQryE
import Derived.Test.YtfklaahakibljaaQryM
import Derived.Deep.RegionLaw
namespace Go.Proofs.Ytfklaahakibljaa
open Go.RowKit Go.Shelf

/-! ### A law at a step of a region that draws: append to a row that the call owns -/

theorem step_append_k {K : Nat} {t e : TypeId} {i0 : TypeInfo} {z : Value} {ops : Array Oper} {o : Oper} {a : Act} {W : World} {KK : Act → World → Prop} {Q : Exit → Act → World → Prop} {E : Prop} (hgd : o.guard = none) (s x : Operand)
    (ho : o.op = .call { callee := .builtin .append, args := #[s, x], argTypes := #[t, t] }) (hty : o.type = t) (ht : Try.prog.underlying t = some (.slice e)) (hi : Try.prog.info? e = some i0) (hz0 : i0.zero = some z) (hz1 : i0.size = K) (hK : 0 < K) (hzs : z.cells.size = K) (hby : i0.bytes ≤ 1000)
    (base n : Nat) (v : Value) (xs news : List Value) (g : Nat) (hs : a.eval s = v) (hown : OwnK K e W base v n xs) (hl : news.length = K) (h1 : ∀ u ∈ news, u.oneCell' = true)
    (hx : a.eval x = .slice (some ⟨g, 0, none⟩) 1 1) (hnews : ∀ j u, news[j]? = some u → W.cell? ((⟨g, 0, none⟩ : Addr).add j) = some u) (hn : n < 1000000) (hbase : base ≤ W.heap.size)
    (h : ∀ v' w', OwnK K e w' base v' (n + 1) (xs ++ news) → W.grownBy w' v.ownBlock → (v'.ownBlock = v.ownBlock ∨ ∃ g, v'.ownBlock = some g ∧ W.heap.size ≤ g) → KK (a.put o.dst v') w') :
    if Region.wanted o (yielded ops a.tmps) = true then Oper.wp Try.prog o a W KK Q else E := by
  have hw : Region.wanted o (yielded ops a.tmps) = true := by simp [Region.wanted, hgd]
  rw [if_pos hw]
  obtain ⟨v', w', hr, h2, h3, h4⟩ := run_append_k ht hi hz0 hz1 hK hzs hby hown hl hnews h1 hn hbase
  unfold Oper.wp execOp
  simp only [ho, resolve, invoke, builtin, Sem.run_bind, Sem.run_pure, Result.andThen_ok, List.map_toArray, List.map_cons, List.map_nil, hs, hx, hty, hr]
  exact h v' w' h2 h3 h4

/-! ### Words for memory -/

@[go_sem] theorem plus_drewN {w : World} {os : Array Obj} {n q : Nat} : (plus w os n).drewN q = plus w os (n + q) := rfl

theorem OwnK.plus2 {K : Nat} {e : TypeId} {L L' : World} {os : Array Obj} {n n' base : Nat} {v : Value} {m : Nat} {xs : List Value} (h : OwnK K e (Go.Proofs.Ytfklaahakibljaa.plus L os n) base v m xs) (hb : L.heap.size ≤ base) (hs : L'.heap.size = L.heap.size) : OwnK K e (Go.Proofs.Ytfklaahakibljaa.plus L' os n') base v m xs :=
  h.kept fun k hk => plus_far hs (by have := (h.lt k hk).1; omega)
theorem keepT_put2 {t t' : TypeId} {w : World} {g : Nat} {cs cs1 cs2 : Array Value} (hB : Blk w g t' cs) (hne : t ≠ t') : KeepT t (putBlk w g t' cs1) (putBlk w g t' cs2) := fun b cur hb => by
  by_cases hbg : b = g
  · subst hbg
    exact absurd rfl (Blk.ne_ (show Blk _ b t cur from hb) (putBlk_at hB.lt) hne)
  · rw [putBlk_heap hbg] at hb ⊢
    exact hb
def failTo (wr k : Int) : Int := if wr < 0 then k else wr
theorem fail_any (s : ByteArray) (i j k : Int) (g : Nat) (w : World) (h : Blk w g 94 #[.string s, .int .i64 i, .int .i64 j]) (hj : j = -1 ∨ 0 ≤ j) :
    Calls Try.prog 137 #[.pointer (some ⟨g, 0, none⟩), .int .i64 k] w fun e w' => e = .returned (.tuple #[]) ∧ RdTo w g s i (failTo j k) w' := by
  rcases hj with rfl | hj
  · exact fail_yes s i k g w h
  · have : failTo j k = j := if_neg (by omega)
    rw [this]
    exact fail_no s i j k g w h hj
theorem take_any (s : ByteArray) (i g : Nat) (wrong c : Int) (w : World) (h : Blk w g 94 #[.string s, .int .i64 i, .int .i64 wrong]) (hi : i ≤ s.size) (hs : s.size ≤ 400) (hc : 0 < c) :
    Calls Try.prog 65 #[.pointer (some ⟨g, 0, none⟩), .int .u8 c] w fun e w' => e = .returned (.bool (decide (((sb s i).toNat : Int) = c))) ∧ RdTo w g s ((if ((sb s i).toNat : Int) = c then i + 1 else i : Nat)) wrong w' := by
  by_cases h1 : i < s.size
  · rw [sb_at h1]
    by_cases h2 : (s[i].toNat : Int) = c
    · rw [if_pos h2, decide_eq_true h2]
      exact take_yes s i g wrong c w h h1 h2 hs
    · rw [if_neg h2, decide_eq_false h2]
      exact take_no s i g wrong c w h hi (fun _ => h2) hs
  · have h2 : sb s i = 0 := dif_neg h1
    have h3 : ¬ (((sb s i).toNat : Int) = c) := by rw [h2]; simp; omega
    rw [if_neg h3, decide_eq_false h3]
    exact take_no s i g wrong c w h hi (fun h => absurd h h1) hs

def qm (g N : Nat) (w : World) : Nat := if intOf ((w.cell? ⟨g, 2, none⟩).getD undef) < 0 then N + 1 - (intOf ((w.cell? ⟨g, 1, none⟩).getD undef)).toNat else 0
theorem qm_at {w : World} {g N : Nat} {t : TypeId} {v : Value} {j wr : Int} (h : Blk w g t #[v, .int .i64 j, .int .i64 wr]) : qm g N w = if wr < 0 then N + 1 - j.toNat else 0 := by
  unfold qm
  rw [h.cell 1, h.cell 2]
  rfl

/-- What a reader's clause hands back. -/
def ClOut (s : ByteArray) (g : Nat) (neg : Bool) (w : World) (r : CR) (e : Ending) (w' : World) : Prop :=
  match r with
  | .good ps j => ∃ A c, e = .returned (.agg #[.bool neg, .slice A ps.length c]) ∧ PsIn w' A ps ∧ RdTo w g s j (-1) w'
  | .bad k => ∃ A m c i', e = .returned (.agg #[.bool neg, .slice A m c]) ∧ i' ≤ s.size ∧ RdTo w g s (i' : Nat) k w'

theorem info_pt : (Try.prog.info? 102).map (fun i => (i.zero, i.size, i.bytes)) = some (some (.agg #[.int .i64 0, .slice none 0 0]), 2, 32) := by kernel_rfl
theorem new2_cells {w : World} {t : TypeId} {a b : Value} {g : Nat} (hg : g = w.heap.size) : ∀ j u, ([a, b] : List Value)[j]? = some u → (w.alloc (.cells #[a, b] t)).cell? ((⟨g, 0, none⟩ : Addr).add j) = some u := by
  subst hg
  intro j u hj
  have hadd : (⟨w.heap.size, 0, none⟩ : Addr).add j = ⟨w.heap.size, j, none⟩ := by unfold Addr.add; split <;> simp_all
  rw [hadd, (Blk.new w t _).cell j]
  simpa using hj

/-- What the loop knows. -/
def CLoop (s : ByteArray) (R : CR) (base j : Nat) (wr : Int) (v : Value) (W : World) : Prop :=
  (wr = -1 ∧ ∃ l : List PV, OwnK 2 102 W base v l.length (flatP l) ∧ WsIn W l ∧ partsR s j (l.map PV.p) = R ∧ l.length ≤ j) ∨ (0 ≤ wr ∧ R = .bad wr)
def CEnd (s : ByteArray) (R : CR) (base j : Nat) (wr : Int) (v : Value) (W : World) : Prop :=
  (wr = -1 ∧ ∃ l : List PV, OwnK 2 102 W base v l.length (flatP l) ∧ WsIn W l ∧ R = (if j < s.size ∧ (sb s j).toNat ≠ 32 then .bad j else .good (l.map PV.p) j)) ∨ (0 ≤ wr ∧ R = .bad wr)
section
variable {w : World} {g n0 : Nat} {os0 : Array Obj} {t t1 t2 t3 : TypeId} {cs cs1 cs2 a b c d : Array Value}
theorem keepT_cl (hB : Blk w g t1 cs) (h1 : t ≠ t1) (h2 : t ≠ t2) (h3 : t ≠ t3) :
    KeepT t ((plus ((putBlk w g t1 cs1).alloc (.cells a t2)) os0 n0).alloc (.cells b t3)) ((plus ((putBlk w g t1 cs2).alloc (.cells c t2)) os0 n0).alloc (.cells d t3)) :=
  (((keepT_put2 hB h1).alloc2 (by simp [putBlk_size]) h2).plus2 (by simp [putBlk_size])).alloc2 (by simp [plus_size, putBlk_size]) h3
theorem size_cl : ((plus ((putBlk w g t1 cs1).alloc (.cells a t2)) os0 n0).alloc (.cells b t3)).heap.size = w.heap.size + 1 + os0.size + 1 := by simp [plus_size, putBlk_size]
theorem put_cl {os : Array Obj} {n : Nat} (hl : g < w.heap.size) : putBlk (plus ((plus ((putBlk w g t1 cs1).alloc (.cells a t2)) os0 n0).alloc (.cells b t3)) os n) g t1 cs2 = plus ((plus ((putBlk w g t1 cs2).alloc (.cells a t2)) os0 n0).alloc (.cells b t3)) os n := by
  rw [putBlk_plus (by rw [size_cl]; omega), putBlk_alloc (by rw [plus_size, World.size_alloc, putBlk_size]; omega), putBlk_plus (by rw [World.size_alloc, putBlk_size]; omega), putBlk_alloc (by rw [putBlk_size]; exact hl), putBlk_put]
end
theorem cl_end {s : ByteArray} {R : CR} {base j m c g : Nat} {wr wr' : Int} {A : Option Addr} {W w w' : World} {e : Ending} {neg : Bool} (HC : Hid (CEnd s R base j wr (.slice A m c) W)) (hj : j ≤ s.size) (he : e = .returned (.agg #[.bool neg, .slice A m c]))
    (hk : KeepT 9 W w') (hp : KeepT 102 W w') (hwr : wr' = if j < s.size ∧ (sb s j).toNat ≠ 32 then failTo wr j else wr) (hrd : RdTo w g s (j : Nat) wr' w') : ClOut s g neg w R e w' := by
  rcases HC.out with ⟨rfl, l, hown, hws, hR⟩ | ⟨h0, hR⟩
  · obtain ⟨rfl, hln, _, hps⟩ := psIn_own hown hws
    by_cases hb : j < s.size ∧ (sb s j).toNat ≠ 32
    · rw [if_pos hb] at hR hwr
      subst hR
      have : wr' = j := by rw [hwr]; exact if_pos (by omega)
      subst this
      exact ⟨A, _, c, j, he, hj, hrd⟩
    · rw [if_neg hb] at hR hwr
      subst hR hwr
      refine ⟨A, c, ?_, hps.keep hk hp, hrd⟩
      rw [List.length_map]
      exact he
  · subst hR
    have : wr' = wr := by
      rw [hwr]
      split
      · exact if_neg (by omega)
      · rfl
    subst this
    exact ⟨A, m, c, j, he, hj, hrd⟩

set_option maxHeartbeats 6400000 in
set_option maxRecDepth 100000 in
theorem clause_any (s : ByteArray) (i g : Nat) (w : World) (h : Blk w g 94 #[.string s, .int .i64 i, .int .i64 (-1)]) (hi : i < s.size) (hs : s.size ≤ 400) :
    Calls Try.prog 66 #[.pointer (some ⟨g, 0, none⟩)] w (ClOut s g ((sb s i).toNat == 45) w (partsR s (startOf s i) [])) := by
  have hl := h.lt
  have H := hide h
  have hsb := startOf_bd hi
  have hT := fun w' h' => take_any s i g (-1) 45 w' h' (by omega) hs (by omega)
  have hb : decide (((sb s i).toNat : Int) = 45) = ((sb s i).toNat == 45) := by
    by_cases h : (sb s i).toNat = 45
    · rw [decide_eq_true (by omega), h]; rfl
    · rw [decide_eq_false (by omega)]; exact (beq_eq_false_iff_ne.2 h).symm
  have hst : (if ((sb s i).toNat : Int) = 45 then i + 1 else i) = startOf s i := by
    unfold startOf
    by_cases h : (sb s i).toNat = 45
    · rw [if_pos h, if_pos (by omega)]
    · rw [if_neg h, if_neg (by omega)]
  rw [hb, hst] at hT
  have HT := hide hT
  clear h hT hb hst
  generalize ((sb s i).toNat == 45) = neg at *
  generalize startOf s i = i1 at *
  obtain ⟨iP, hiP, hzP0, hzP1, hzP2⟩ := info_parts info_pt
  have HIP := hide (And.intro hiP (And.intro hzP0 (And.intro hzP1 hzP2)))
  clear hiP hzP0 hzP1 hzP2
  generalize hR : partsR s i1 [] = R
  have HR := hide hR
  clear hR
  go_enter Try.func66, Try.ntmps66
  go_upto_block 0 with (go_at_call 65; refine (HT.out _ (H.out.alloc _)).mono ?_; rintro e w' ⟨rfl, os0, n0, rfl⟩)
  have hmeas : ∀ (j : Nat) (wr : Int) (v : Value) (os : Array Obj) (n : Nat), qm g s.size (plus ((plus ((putBlk w g 94 #[.string s, .int .i64 j, .int .i64 wr]).alloc (.cells #[.bool false, .slice none 0 0] 97)) os0 n0).alloc (.cells #[.bool neg, v] 97)) os n) = if wr < 0 then s.size + 1 - j else 0 := fun j wr v os n => by
    have hB : Blk (plus ((plus ((putBlk w g 94 #[.string s, .int .i64 j, .int .i64 wr]).alloc (.cells #[.bool false, .slice none 0 0] 97)) os0 n0).alloc (.cells #[.bool neg, v] 97)) os n) g 94 #[.string s, .int .i64 j, .int .i64 wr] := (((putBlk_at hl).alloc _).plus.alloc _).plus
    rw [qm_at hB]
    rfl
  have HMS := hide hmeas
  clear hmeas
  go_cut [] from 7 to 21 (fun wx => ∃ (j : Nat) (wr : Int) (A : Option Addr) (m c : Nat) (os : Array Obj) (n : Nat), j ≤ s.size ∧ Hid (CEnd s R (w.heap.size + 1 + os0.size + 1) j wr (.slice A m c) wx) ∧ wx = plus ((plus ((putBlk w g 94 #[.string s, .int .i64 j, .int .i64 wr]).alloc (.cells #[.bool false, .slice none 0 0] 97)) os0 n0).alloc (.cells #[.bool neg, .slice A m c] 97)) os n)
  case first =>
    go_wp2_with fail
    go_loopw [] (fun wx => ∃ (j : Nat) (wr : Int) (A : Option Addr) (m c : Nat) (os : Array Obj) (n : Nat), j ≤ s.size ∧ Hid (CLoop s R (w.heap.size + 1 + os0.size + 1) j wr (.slice A m c) wx) ∧ wx = plus ((plus ((putBlk w g 94 #[.string s, .int .i64 j, .int .i64 wr]).alloc (.cells #[.bool false, .slice none 0 0] 97)) os0 n0).alloc (.cells #[.bool neg, .slice A m c] 97)) os n) (fun wx => qm g s.size wx)
    case atStart => exact ⟨i1, -1, none, 0, 0, #[], _, hsb.2, hide (.inl ⟨rfl, [], OwnK.empty, WsIn.nil, HR.out, by simp⟩), plus_nil.symm⟩
    case round =>
      obtain ⟨j, wr, A0, m0, c0, os, n, hj, HC, rfl⟩ := hrel
      rcases HC.out with ⟨rfl, l, hown, hws, hpr, hlj⟩ | ⟨hwr, hbad⟩
      · have HO := hide hown
        have HW := hide hws
        have hstep := partsR_step s j (l.map PV.p) hj
        rw [hpr] at hstep
        have HSTEP := hide hstep.symm
        clear hown hws hpr hstep HC
        have HPT0 := fun w' h' => part_any s j g w' h' hj hs
        cases hp : partR s j with
        | bad k =>
          rw [hp] at HPT0
          have HPT := hide HPT0
          have HK0 := hide (partR_bad hj hp)
          have hRb : R = .bad k := by rw [← HSTEP.out, hp]
          have HRB := hide hRb
          clear HPT0 hp hRb HSTEP
          go_upto_region 3 with (fail)
          go_region_law (first
            | ((refine step_append_k rfl (.tmp 13) (.tmp 16) rfl rfl Try.underlying95 HIP.out.1 HIP.out.2.1 HIP.out.2.2.1 (by decide) rfl (by have := HIP.out.2.2.2; omega) (w.heap.size + 1 + os0.size + 1) l.length (.slice A0 m0 c0) (flatP l) [.int .i64 k', .slice A m c] _ rfl (by repeat (first | with_reducible exact OwnK.plus2 HO.out (Nat.le_of_eq size_cl) (by rw [size_cl, size_cl]) | with_reducible refine OwnK.alloc ?_ _ | with_reducible refine OwnK.plus ?_ _ _)) rfl (by intro u hu; simp only [List.mem_cons, List.not_mem_nil, or_false] at hu; rcases hu with rfl | rfl <;> rfl) rfl (new2_cells (by simp only [plus_size, World.size_alloc, putBlk_size])) (by omega) (by simp only [World.size_alloc, plus_size, putBlk_size]; omega) ?_); intro v' w1 hown1 hgr1 hfr1; go_loud (have HKG := hide (keepT_grown (t := 9) (e := 102) (K := 2) (base := w.heap.size + 1 + os0.size + 1) (n := l.length) (v := .slice A0 m0 c0) (xs := flatP l) (by repeat (first | with_reducible exact OwnK.plus2 HO.out (Nat.le_of_eq size_cl) (by rw [size_cl, size_cl]) | with_reducible refine OwnK.alloc ?_ _ | with_reducible refine OwnK.plus ?_ _ _)) hgr1 (by decide))); go_loud (obtain ⟨os10, n10, rfl⟩ := grown_plus (L := ((plus ((putBlk w g 94 #[.string s, .int .i64 i', .int .i64 k]).alloc (.cells #[.bool false, .slice none 0 0] 97)) os0 n0).alloc (.cells #[.bool neg, .slice A0 m0 c0] 97))) (by repeat (first | exact Below.refl _ _ | refine bl_plus ?_ | refine bl_alloc ?_ _ | refine bl_drew ?_)) hgr1 (fun q hq => by rw [size_cl]; exact (HO.out.lt q hq).1)); go_loud (obtain ⟨A1, c1, rfl, _⟩ := hown1.form); have HN := hide hown1; clear hown1 hgr1 hfr1)
            | (go_simp; go_at_call 136; refine (HPT.out _ (by repeat (first | with_reducible exact putBlk_at hl | with_reducible refine Blk.alloc ?_ _ | with_reducible refine Blk.plus ?_))).mono ?_; rintro e w' ⟨k', A, m, c, i', rfl, hi', os9, n9, rfl⟩))
          all_goals
            have htk := fun w' h' => take_any s i' g k 124 w' h' hi' hs (by omega)
            by_cases h1 : ((sb s i').toNat : Int) = 124
            · rw [if_pos h1, decide_eq_true h1] at htk
              have HTK := hide htk
              have hi2 : i' < s.size := by
                rcases Nat.lt_or_ge i' s.size with h | h
                · exact h
                · rw [show sb s i' = 0 from dif_neg (by omega)] at h1; simp at h1
              clear htk h1
              go_wp2_with (go_at_call 65; refine (HTK.out _ (by repeat (first | with_reducible exact putBlk_at hl | with_reducible refine Blk.alloc ?_ _ | with_reducible refine Blk.plus ?_))).mono ?_; rintro e w' ⟨rfl, os11, n11, rfl⟩)
              go_roundw
              case rel => exact ⟨i' + 1, k, A1, _, c1, _, _, hi2, hide (.inr ⟨HK0.out, HRB.out⟩), by rw [plus_plus]; rfl⟩
              case measure =>
                have := HK0.out
                rw [plus_plus]
                refine Nat.lt_of_le_of_lt (Nat.le_of_eq (HMS.out (i' + 1) k _ _ _)) ?_
                rw [HMS.out, if_neg (by omega), if_pos (by omega)]
                omega
            · rw [if_neg h1, decide_eq_false h1] at htk
              have HTK := hide htk
              clear htk h1
              go_wp2_with (go_at_call 65; refine (HTK.out _ (by repeat (first | with_reducible exact putBlk_at hl | with_reducible refine Blk.alloc ?_ _ | with_reducible refine Blk.plus ?_))).mono ?_; rintro e w' ⟨rfl, os11, n11, rfl⟩)
              go_meet
              exact ⟨i', k, A1, _, c1, _, _, hi', hide (.inr ⟨HK0.out, HRB.out⟩), by rw [plus_plus]⟩
        | good p j2 =>
          rw [hp] at HPT0
          have HPT := hide HPT0
          have hnx := partR_next hj hp
          have hst2 := HSTEP.out
          rw [hp] at hst2
          have HST := hide hst2
          clear HPT0 hp hst2 HSTEP
          go_upto_region 3 with (fail)
          go_region_law (first
            | ((refine step_append_k rfl (.tmp 13) (.tmp 16) rfl rfl Try.underlying95 HIP.out.1 HIP.out.2.1 HIP.out.2.2.1 (by decide) rfl (by have := HIP.out.2.2.2; omega) (w.heap.size + 1 + os0.size + 1) l.length (.slice A0 m0 c0) (flatP l) (PV.cells ⟨p, A, c⟩) _ rfl (by repeat (first | with_reducible exact OwnK.plus2 HO.out (Nat.le_of_eq size_cl) (by rw [size_cl, size_cl]) | with_reducible refine OwnK.alloc ?_ _ | with_reducible refine OwnK.plus ?_ _ _)) rfl (by intro u hu; simp only [PV.cells, List.mem_cons, List.not_mem_nil, or_false] at hu; rcases hu with rfl | rfl <;> rfl) rfl (new2_cells (by simp only [plus_size, World.size_alloc, putBlk_size])) (by omega) (by simp only [World.size_alloc, plus_size, putBlk_size]; omega) ?_); intro v' w1 hown1 hgr1 hfr1; go_loud (have HKG := hide (keepT_grown (t := 9) (e := 102) (K := 2) (base := w.heap.size + 1 + os0.size + 1) (n := l.length) (v := .slice A0 m0 c0) (xs := flatP l) (by repeat (first | with_reducible exact OwnK.plus2 HO.out (Nat.le_of_eq size_cl) (by rw [size_cl, size_cl]) | with_reducible refine OwnK.alloc ?_ _ | with_reducible refine OwnK.plus ?_ _ _)) hgr1 (by decide))); go_loud (obtain ⟨os10, n10, rfl⟩ := grown_plus (L := ((plus ((putBlk w g 94 #[.string s, .int .i64 j2, .int .i64 (-1)]).alloc (.cells #[.bool false, .slice none 0 0] 97)) os0 n0).alloc (.cells #[.bool neg, .slice A0 m0 c0] 97))) (by repeat (first | exact Below.refl _ _ | refine bl_plus ?_ | refine bl_alloc ?_ _ | refine bl_drew ?_)) hgr1 (fun q hq => by rw [size_cl]; exact (HO.out.lt q hq).1)); go_loud (obtain ⟨A1, c1, rfl, _⟩ := hown1.form); have HN := hide hown1; clear hown1 hgr1 hfr1)
            | (go_simp; go_at_call 136; refine (HPT.out _ (by repeat (first | with_reducible exact putBlk_at hl | with_reducible refine Blk.alloc ?_ _ | with_reducible refine Blk.plus ?_))).mono ?_; rintro e w' ⟨A, c, rfl, hst, os9, n9, rfl⟩; have HS := hide hst; clear hst))
          all_goals
            have htk := fun w' h' => take_any s j2 g (-1) 124 w' h' hnx.2 hs (by omega)
            have hs1 := HS.out
            rw [put_cl hl] at hs1
            have HS1 := hide hs1
            clear hs1 HS
            have hkl : ∀ (L3 : World) (os3 : Array Obj) (n3 m3 : Nat), True := fun _ _ _ _ => trivial
            clear hkl
            by_cases h1 : ((sb s j2).toNat : Int) = 124
            · rw [if_pos h1, decide_eq_true h1] at htk
              have HTK := hide htk
              have hi2 : j2 < s.size := by
                rcases Nat.lt_or_ge j2 s.size with h | h
                · exact h
                · rw [show sb s j2 = 0 from dif_neg (by omega)] at h1; simp at h1
              have hst3 := HST.out
              simp only at hst3
              rw [if_pos ⟨by omega, hi2⟩] at hst3
              have HST3 := hide hst3
              clear htk h1 hst3
              go_wp2_with (go_at_call 65; refine (HTK.out _ (by repeat (first | with_reducible exact putBlk_at hl | with_reducible refine Blk.alloc ?_ _ | with_reducible refine Blk.plus ?_))).mono ?_; rintro e w' ⟨rfl, os11, n11, rfl⟩)
              go_roundw
              case rel => exact ⟨j2 + 1, -1, A1, _, c1, _, _, hi2, hide (.inl ⟨rfl, l ++ [⟨p, A, c⟩], (by rw [flatP_snoc, List.length_append]; exact (HN.out.plus2 (Nat.le_of_eq size_cl) (by rw [size_cl, size_cl])).plus _ _), (((HW.out.keep ((((keepT_cl H.out (by decide) (by decide) (by decide)).plus2 (by rw [size_cl, size_cl])).plus _ _).alloc _)).snoc (x := ⟨p, A, c⟩) (HS1.out.keep ((KeepT.refl _ _).alloc _))).keep (HKG.out.trans (((keepT_cl H.out (by decide) (by decide) (by decide)).plus2 (by rw [size_cl, size_cl])).plus _ _))), by rw [List.map_append]; exact HST3.out, by rw [List.length_append, List.length_cons, List.length_nil]; omega⟩), by rw [plus_plus]; rfl⟩
              case measure =>
                rw [plus_plus]
                refine Nat.lt_of_le_of_lt (Nat.le_of_eq (HMS.out (j2 + 1) (-1) _ _ _)) ?_
                rw [HMS.out, if_pos (by omega), if_pos (by omega)]
                omega
            · rw [if_neg h1, decide_eq_false h1] at htk
              have HTK := hide htk
              have hst3 := HST.out
              simp only at hst3
              rw [if_neg (fun h => h1 (by omega))] at hst3
              have HST3 := hide hst3
              clear htk h1 hst3
              go_wp2_with (go_at_call 65; refine (HTK.out _ (by repeat (first | with_reducible exact putBlk_at hl | with_reducible refine Blk.alloc ?_ _ | with_reducible refine Blk.plus ?_))).mono ?_; rintro e w' ⟨rfl, os11, n11, rfl⟩)
              go_meet
              exact ⟨j2, -1, A1, _, c1, _, _, hnx.2, hide (.inl ⟨rfl, l ++ [⟨p, A, c⟩], (by rw [flatP_snoc, List.length_append]; exact (HN.out.plus2 (Nat.le_of_eq size_cl) (by rw [size_cl, size_cl])).plus _ _), (((HW.out.keep ((((keepT_cl H.out (by decide) (by decide) (by decide)).plus2 (by rw [size_cl, size_cl])).plus _ _).alloc _)).snoc (x := ⟨p, A, c⟩) (HS1.out.keep ((KeepT.refl _ _).alloc _))).keep (HKG.out.trans (((keepT_cl H.out (by decide) (by decide) (by decide)).plus2 (by rw [size_cl, size_cl])).plus _ _))), by rw [List.map_append]; exact HST3.out.symm⟩), by rw [plus_plus]⟩
      · have hwr2 : ¬ wr < 0 := by omega
        have HB2 := hide hbad
        clear hbad HC
        go_wp2
        go_meet
        exact ⟨j, wr, A0, m0, c0, _, _, hj, hide (.inr ⟨hwr, HB2.out⟩), rfl⟩
  case rest =>
    obtain ⟨j, wr, A, m, c, os, n, hj, HC, rfl⟩ := hcut
    have hwr : wr = -1 ∨ 0 ≤ wr := by
      rcases HC.out with ⟨h, _⟩ | ⟨h, _⟩
      · exact .inl h
      · exact .inr h
    have HF := hide (fun w' h' => fail_any s j wr j g w' h' hwr)
    clear hwr
    by_cases hjs : j < s.size
    · have i1' : (j : Int) < (s.size : Int) := by omega
      have hbe := sb_at hjs
      by_cases h32 : (s[j].toNat : Int) = 32
      · have hwx : wr = if j < s.size ∧ (sb s j).toNat ≠ 32 then failTo wr j else wr := (if_neg (fun h => h.2 (by rw [hbe]; omega))).symm
        have HWX := hide hwx
        clear hwx hbe
        go_wp2_with fail
        go_quiet (fail)
        go_wp2
        go_returns
        exact cl_end HC hj rfl ((keepT_cl H.out (by decide) (by decide) (by decide)).plus2 (by rw [size_cl, size_cl])) ((keepT_cl H.out (by decide) (by decide) (by decide)).plus2 (by rw [size_cl, size_cl])) HWX.out (by repeat (first | with_reducible exact RdTo.base _ _ _ _ _ | with_reducible refine RdTo.alloc ?_ _ | with_reducible refine RdTo.plus ?_ _ _))
      · have hwx : failTo wr j = if j < s.size ∧ (sb s j).toNat ≠ 32 then failTo wr j else wr := (if_pos ⟨hjs, by rw [hbe]; omega⟩).symm
        have HWX := hide hwx
        have hc2 : ((s[j].toNat : Int) != 32) = true := bne_iff_ne.2 h32
        have hc3 : decide ((s[j].toNat : Int) = 32) = false := decide_eq_false h32
        clear hwx hbe
        go_wp2_with fail
        go_quiet (fail)
        go_wp2_with (go_at_call 137; refine (HF.out _ (by repeat (first | with_reducible exact putBlk_at hl | with_reducible refine Blk.alloc ?_ _ | with_reducible refine Blk.plus ?_))).mono ?_; rintro e w' ⟨rfl, os11, n11, rfl⟩)
        go_returns
        exact cl_end HC hj rfl (((keepT_cl H.out (by decide) (by decide) (by decide)).plus2 (by rw [size_cl, size_cl])).plus _ _) (((keepT_cl H.out (by decide) (by decide) (by decide)).plus2 (by rw [size_cl, size_cl])).plus _ _) HWX.out (by repeat (first | with_reducible exact RdTo.base _ _ _ _ _ | with_reducible refine RdTo.alloc ?_ _ | with_reducible refine RdTo.plus ?_ _ _))
    · have i1' : ¬ (j : Int) < (s.size : Int) := by omega
      have i2' : decide ((j : Int) < (s.size : Int)) = false := decide_eq_false i1'
      have i3' : decide (j < s.size) = false := decide_eq_false hjs
      have HWX := hide (show wr = if j < s.size ∧ (sb s j).toNat ≠ 32 then failTo wr j else wr from (if_neg (fun h => hjs h.1)).symm)
      go_wp2_with fail
      go_quiet (fail)
      go_wp2
      go_returns
      exact cl_end HC hj rfl ((keepT_cl H.out (by decide) (by decide) (by decide)).plus2 (by rw [size_cl, size_cl])) ((keepT_cl H.out (by decide) (by decide) (by decide)).plus2 (by rw [size_cl, size_cl])) HWX.out (by repeat (first | with_reducible exact RdTo.base _ _ _ _ _ | with_reducible refine RdTo.alloc ?_ _ | with_reducible refine RdTo.plus ?_ _ _))

end Go.Proofs.Ytfklaahakibljaa
