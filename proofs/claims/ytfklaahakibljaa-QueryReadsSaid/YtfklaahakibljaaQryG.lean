/-
  WALKS: ReadQuery.
-/
import Derived.Test.YtfklaahakibljaaQryF
import Derived.Test.YtfklaahakibljaaQryL
import Derived.Test.YtfklaahakibljaaQryN
namespace Go.Proofs.Ytfklaahakibljaa
open Go.RowKit Go.Shelf

theorem info_cl : (Try.prog.info? 97).map (fun i => (i.zero, i.size, i.bytes)) = some (some (.agg #[.bool false, .slice none 0 0]), 2, 32) := by kernel_rfl

set_option maxHeartbeats 1600000 in
set_option maxRecDepth 100000 in
theorem queryParts_any (A : Option Addr) (c : Nat) (cs : List Cl) (w : World) (hA : CsIn w A cs) (hm : cs.length ≤ 400) (h7 : ∀ c ∈ cs, c.ps.length ≤ 400) :
    Calls Try.prog 67 #[.agg #[.slice A cs.length c]] w fun e w' => e = .returned (.int .i64 (manyOf cs)) ∧ Below w.heap.size w w' := by
  obtain ⟨la, ha1, ha2, ha3⟩ := hA
  have hla : la.length = cs.length := by rw [← ha1, List.length_map]
  have HA3 := hide ha3
  have H7 := hide h7
  have HL := hide hla
  have HE := hide ha1
  clear ha1 ha2 ha3 h7 hla
  go_enter Try.func67, Try.ntmps67
  go_wp2
  go_loopw [3, 9] (fun v i wr => ∃ (k : Nat) (os : Array Obj) (n : Nat) (t : Nat), k ≤ cs.length ∧ i = .int .i64 k ∧ v = .int .i64 t ∧ Hid (t = manyOf (cs.take k)) ∧ t ≤ 400 * k ∧ wr = plus w os n) (fun _ i _ => cs.length - (intOf i).toNat)
  case atStart => exact ⟨0, #[.cells #[.slice A cs.length c] 39], w.drawn, 0, Nat.zero_le _, rfl, rfl, hide (by simp [manyOf]), by omega, by rw [← plus_nil (w := w), plus_alloc, plus_nil]; rfl⟩
  case round =>
    obtain ⟨k, os, n, t, hk, rfl, rfl, HT, ht, rfl⟩ := hrel
    by_cases hlt : k < cs.length
    · have hka : k < la.length := by rw [HL.out]; exact hlt
      obtain ⟨b, off, rfl, hb, x0, x1⟩ := csIn_cells HA3.out hka
      have hpa : la[k].c = cs[k] := by simp only [← HE.out, List.getElem_map]
      have h7 := H7.out _ (List.getElem_mem hlt)
      have hts : t + cs[k].ps.length = manyOf (cs.take (k + 1)) := by
        rw [List.take_succ_eq_append_getElem hlt, manyOf_snoc, HT.out]
      have HTS := hide hts
      rw [hpa] at x0 x1
      clear hpa hts HT
      generalize la[k].A = Xa at *
      generalize la[k].cap = ca at *
      generalize cs[k] = p at *
      obtain ⟨pk, pw⟩ := p
      simp only at x0 x1 h7 HTS
      clear hka
      have i1 : (k : Int) < (cs.length : Int) := by omega
      have x2 : IntKind.i64.wrap ((t : Int) + (pw.length : Int)) = ((t + pw.length : Nat) : Int) := by rw [wrap_small] <;> omega
      go_wp2
      go_roundw
      case rel => exact ⟨k + 1, _, _, t + pw.length, hlt, by go_num, by go_num, HTS, by omega, by rw [plus_alloc]⟩
      case measure => simp [intOf]; omega
    · have hkl : k = cs.length := by omega
      subst hkl
      have HT2 := hide (HT.out.trans (by rw [List.take_length]))
      clear HT
      go_wp2
      go_ret
      exact ⟨ret_int (by rw [HT2.out]), by repeat (first | exact Below.refl _ _ | refine bl_plus ?_ | refine bl_alloc ?_ _ | refine bl_drew ?_)⟩

/-- What a query's reading hands back. -/
def QOut (r : List Cl × Int × Int) (w : World) (e : Ending) (w' : World) : Prop :=
  ∃ A c, e = .returned (.tuple #[.agg #[.slice A r.1.length c], .int .i64 r.2.1, .int .i64 r.2.2]) ∧ CsIn w' A r.1 ∧ Below w.heap.size w w'

def QGood (s : ByteArray) (R : QR) (base j : Nat) (v : Value) (W : World) : Prop :=
  ∃ l : List CV, OwnK 2 97 W base v l.length (flatC l) ∧ PsAll W l ∧ queryR s j (l.map CV.c) = R ∧ l.length ≤ j
def QLoop (s : ByteArray) (R : QR) (base j : Nat) (wr : Int) (v : Value) (W : World) : Prop :=
  (wr = -1 ∧ QGood s R base j v W) ∨ (0 ≤ wr ∧ R = .bad wr)
def QEnd (R : QR) (base : Nat) (wr : Int) (v : Value) (W : World) : Prop :=
  (wr = -1 ∧ ∃ l : List CV, OwnK 2 97 W base v l.length (flatC l) ∧ PsAll W l ∧ R = .good (l.map CV.c)) ∨ (0 ≤ wr ∧ R = .bad wr)
section
variable {w : World} {t t1 t2 t3 : TypeId} {a b c d e f : Array Value}
theorem size_q : (((w.alloc (.cells a t1)).alloc (.cells b t2)).alloc (.cells c t3)).heap.size = w.heap.size + 3 := by simp
theorem keepT_q (h1 : t ≠ t1) (h2 : t ≠ t2) (h3 : t ≠ t3) : KeepT t (((w.alloc (.cells a t1)).alloc (.cells b t2)).alloc (.cells c t3)) (((w.alloc (.cells d t1)).alloc (.cells e t2)).alloc (.cells f t3)) :=
  (((((KeepT.refl t w).alloc2 rfl h1)).alloc2 (by simp) h2)).alloc2 (by simp) h3
theorem put_q {os : Array Obj} {n g : Nat} {b' : Array Value} (hg : g = w.heap.size + 1) : putBlk (plus (((w.alloc (.cells a t1)).alloc (.cells b t2)).alloc (.cells c t3)) os n) g t2 b' = plus (((w.alloc (.cells a t1)).alloc (.cells b' t2)).alloc (.cells c t3)) os n := by
  subst hg
  rw [putBlk_plus (by rw [size_q]; omega), putBlk_alloc (by simp), putBlk_new (by simp)]
end
theorem QGood.next {s : ByteArray} {R : QR} {j j2 n n2 n3 : Nat} {v : Value} {w : World} {os os2 : Array Obj} {a b c d e f : Array Value}
    (h : QGood s R (w.heap.size + 3) j v (plus (((w.alloc (.cells a 39)).alloc (.cells b 94)).alloc (.cells c 39)) os n)) (hj : j ≤ j2) (hq : ∀ acc, queryR s j acc = queryR s j2 acc) :
    QGood s R (w.heap.size + 3) j2 v (plus (plus (((w.alloc (.cells d 39)).alloc (.cells e 94)).alloc (.cells f 39)) os n2) os2 n3) := by
  obtain ⟨l, h1, h2, h3, h4⟩ := h
  have k1 := fun (t : TypeId) (a1 : t ≠ 39) (a2 : t ≠ 94) => (((keepT_q (w := w) (a := a) (b := b) (c := c) (d := d) (e := e) (f := f) a1 a2 a1).plus2 (os := os) (n := n) (m := n2) (by rw [size_q, size_q])).plus os2 n3)
  exact ⟨l, (h1.plus2 (Nat.le_of_eq size_q) (by rw [size_q, size_q])).plus _ _, h2.keep (k1 _ (by decide) (by decide)) (k1 _ (by decide) (by decide)), by rw [← hq]; exact h3, by omega⟩
theorem QGood.over {s : ByteArray} {R : QR} {base j : Nat} {v : Value} {W : World} (h : QGood s R base j v W) (hj : s.size ≤ j) : QEnd R base (-1) v W := by
  obtain ⟨l, h1, h2, h3, _⟩ := h
  rw [queryR_over s j _ hj] at h3
  exact .inl ⟨rfl, l, h1, h2, h3.symm⟩
attribute [local go_sem] putBlk_new

theorem readQuery_large (s : ByteArray) (w : World) (h : 400 < s.size) (_hs : s.size ≤ maxLen) :
    Calls Try.prog 24 #[.string s] w (QOut (ansR s) w) := by
  have hR : ansR s = ([], 0, 4) := if_pos h
  rw [hR]
  have h2 : (400 : Int) < (s.size : Int) := by omega
  clear hR
  go_enter Try.func24, Try.ntmps24
  go_wp2
  exact bodyPost_ret (v := .tuple #[.agg #[.slice none 0 0], .int .i64 0, .int .i64 4]) (by simp [results, Try.results24, go_sem]) rfl ⟨none, 0, rfl, CsIn.nil, by repeat (first | exact Below.refl _ _ | refine bl_plus ?_ | refine bl_alloc ?_ _ | refine bl_drew ?_)⟩

set_option maxHeartbeats 6400000 in
set_option maxRecDepth 100000 in
theorem readQuery_small (s : ByteArray) (w : World) (hs : s.size ≤ 400) :
    Calls Try.prog 24 #[.string s] w (QOut (ansR s) w) := by
  obtain ⟨iP, hiP, hzP0, hzP1, hzP2⟩ := info_parts info_cl
  have HIP := hide (And.intro hiP (And.intro hzP0 (And.intro hzP1 hzP2)))
  clear hiP hzP0 hzP1 hzP2
  have hA : ansR s = (match queryR s 0 [] with | .bad k => ([], k, 8) | .good cs => if 20 < manyOf cs then ([], 0, 4) else (cs, 0, 0)) := if_neg (by omega)
  have hok := ansR_ok s
  generalize ansR s = Z at *
  generalize hR : queryR s 0 [] = R at hA
  have HR := hide hR
  have HA := hide hA
  have HOK := hide hok
  have h2 : ¬ (400 : Int) < (s.size : Int) := by omega
  clear hR hA hok
  have hmeas : ∀ (j : Nat) (wr : Int) (v : Value) (os : Array Obj) (n : Nat), qm (w.heap.size + 1) s.size (plus (((w.alloc (.cells #[.slice none 0 0] 39)).alloc (.cells #[.string s, .int .i64 j, .int .i64 wr] 94)).alloc (.cells #[v] 39)) os n) = if wr < 0 then s.size + 1 - j else 0 := fun j wr v os n => by
    have hB : Blk (plus (((w.alloc (.cells #[.slice none 0 0] 39)).alloc (.cells #[.string s, .int .i64 j, .int .i64 wr] 94)).alloc (.cells #[v] 39)) os n) (w.heap.size + 1) 94 #[.string s, .int .i64 j, .int .i64 wr] := (by repeat (first | with_reducible exact Blk.new' (by simp only [World.size_alloc]) | with_reducible refine Blk.alloc ?_ _ | with_reducible refine Blk.plus ?_))
    rw [qm_at hB]
    rfl
  have HMS := hide hmeas
  clear hmeas
  go_enter Try.func24, Try.ntmps24
  go_upto_block 0 with (fail)
  go_cut [] from 14 to 34 (fun wx => ∃ (j : Nat) (wr : Int) (A : Option Addr) (m c : Nat) (os : Array Obj) (n : Nat), Hid (QEnd R (w.heap.size + 3) wr (.slice A m c) wx) ∧ wx = plus (((w.alloc (.cells #[.slice none 0 0] 39)).alloc (.cells #[.string s, .int .i64 j, .int .i64 wr] 94)).alloc (.cells #[.slice A m c] 39)) os n)
  case first =>
    go_wp2_with fail
    go_loopw [] (fun wx => ∃ (j : Nat) (wr : Int) (A : Option Addr) (m c : Nat) (os : Array Obj) (n : Nat), j ≤ s.size ∧ Hid (QLoop s R (w.heap.size + 3) j wr (.slice A m c) wx) ∧ wx = plus (((w.alloc (.cells #[.slice none 0 0] 39)).alloc (.cells #[.string s, .int .i64 j, .int .i64 wr] 94)).alloc (.cells #[.slice A m c] 39)) os n) (fun wx => qm (w.heap.size + 1) s.size wx)
    case atStart => exact ⟨0, -1, none, 0, 0, #[], _, Nat.zero_le _, hide (.inl ⟨rfl, [], OwnK.empty, PsAll.nil, HR.out, by simp⟩), plus_nil.symm⟩
    case round =>
      obtain ⟨j, wr, A0, m0, c0, os, n, hj, HC, rfl⟩ := hrel
      rcases HC.out with ⟨rfl, hgood⟩ | ⟨hwr, hbad⟩
      · have HG := hide hgood
        clear hgood HC
        go_wp2_with fail
        go_loopw [] (fun wx => ∃ (j2 : Nat) (os : Array Obj) (n : Nat), j ≤ j2 ∧ j2 ≤ s.size ∧ Hid (QGood s R (w.heap.size + 3) j2 (.slice A0 m0 c0) wx) ∧ wx = plus (((w.alloc (.cells #[.slice none 0 0] 39)).alloc (.cells #[.string s, .int .i64 j2, .int .i64 (-1)] 94)).alloc (.cells #[.slice A0 m0 c0] 39)) os n) (fun wx => qm (w.heap.size + 1) s.size wx)
        case atStart => exact ⟨j, os, n, Nat.le_refl _, hj, HG, rfl⟩
        case round =>
          clear HG
          obtain ⟨j2, os, n, hj2, hj3, HG, rfl⟩ := hrel
          have htk := fun w' h' => take_any s j2 (w.heap.size + 1) (-1) 32 w' h' hj3 hs (by omega)
          by_cases h1 : ((sb s j2).toNat : Int) = 32
          · rw [if_pos h1, decide_eq_true h1] at htk
            have HTK := hide htk
            have hi2 : j2 < s.size := by
              rcases Nat.lt_or_ge j2 s.size with h | h
              · exact h
              · rw [show sb s j2 = 0 from dif_neg (by omega)] at h1; simp at h1
            have HSP := hide (fun acc => (queryR_step s j2 acc hi2).trans (if_pos (show (sb s j2).toNat = 32 by omega)))
            clear htk h1
            go_wp2_with (go_at_call 65; refine (HTK.out _ (by repeat (first | with_reducible exact Blk.new' (by simp only [World.size_alloc]) | with_reducible refine Blk.alloc ?_ _ | with_reducible refine Blk.plus ?_))).mono ?_; rintro e w' ⟨rfl, os11, n11, rfl⟩)
            go_roundw
            case rel => exact ⟨j2 + 1, _, _, by omega, hi2, hide (HG.out.next (by omega) HSP.out), by rw [plus_plus]; rfl⟩
            case measure =>
              rw [plus_plus]
              refine Nat.lt_of_le_of_lt (Nat.le_of_eq (HMS.out (j2 + 1) (-1) _ _ _)) ?_
              rw [HMS.out, if_pos (by omega), if_pos (by omega)]
              omega
          · rw [if_neg h1, decide_eq_false h1] at htk
            have HTK := hide htk
            clear htk
            by_cases hend : j2 = s.size
            · have hend2 : ((j2 : Int) == (s.size : Int)) = true := by rw [hend]; simp
              have HE2 := hide hend
              clear h1
              subst hend
              go_wp2_with (go_at_call 65; refine (HTK.out _ (by repeat (first | with_reducible exact Blk.new' (by simp only [World.size_alloc]) | with_reducible refine Blk.alloc ?_ _ | with_reducible refine Blk.plus ?_))).mono ?_; rintro e w' ⟨rfl, os11, n11, rfl⟩)
              go_meet
              exact ⟨s.size, -1, A0, m0, c0, _, _, hide ((HG.out.next (Nat.le_refl _) (fun _ => rfl)).over (Nat.le_refl _)), by rw [plus_plus]⟩
            · have hi2 : j2 < s.size := by omega
              have hend2 : ((j2 : Int) == (s.size : Int)) = false := beq_eq_false_iff_ne.2 (by omega)
              have hend3 : decide ((j2 : Int) = (s.size : Int)) = false := decide_eq_false (by omega)
              have hend4 : ¬ ((j2 : Int) = (s.size : Int)) := by omega
              have hcl0 := fun w' h' => clause_any s j2 (w.heap.size + 1) w' h' hi2 hs
              obtain ⟨l, hown, hps, hqr, hlj⟩ := HG.out
              rw [queryR_step s j2 _ hi2, if_neg (by omega)] at hqr
              have HO := hide hown
              have HP := hide hps
              have hsb := startOf_bd hi2
              clear h1 hown hps HG
              cases hp : partsR s (startOf s j2) [] with
              | bad k =>
                rw [hp] at hcl0 hqr
                have HCL := hide hcl0
                have HK0 := hide (partsR_bad hsb.2 hp)
                have HRB := hide hqr.symm
                clear hcl0 hqr hp
                go_upto_region 8 with (go_at_call 65; refine (HTK.out _ (by repeat (first | with_reducible exact Blk.new' (by simp only [World.size_alloc]) | with_reducible refine Blk.alloc ?_ _ | with_reducible refine Blk.plus ?_))).mono ?_; rintro e w' ⟨rfl, os11, n11, rfl⟩)
                go_region_law (first
                  | ((refine step_append_k rfl (.tmp 29) (.tmp 32) rfl rfl Try.underlying37 HIP.out.1 HIP.out.2.1 HIP.out.2.2.1 (by decide) rfl (by have := HIP.out.2.2.2; omega) (w.heap.size + 3) l.length (.slice A0 m0 c0) (flatC l) [.bool _, .slice A m c] _ rfl (by repeat (first | with_reducible exact OwnK.plus2 HO.out (Nat.le_of_eq size_q) (by rw [size_q, size_q]) | with_reducible refine OwnK.alloc ?_ _ | with_reducible refine OwnK.plus ?_ _ _)) rfl (by intro u hu; simp only [List.mem_cons, List.not_mem_nil, or_false] at hu; rcases hu with rfl | rfl <;> rfl) rfl (new2_cells (by simp only [plus_size, World.size_alloc])) (by omega) (by simp only [World.size_alloc, plus_size]; omega) ?_); intro v' w1 hown1 hgr1 hfr1; have HKG := hide (keepT_grown (t := 9) (e := 97) (K := 2) (base := w.heap.size + 3) (n := l.length) (v := .slice A0 m0 c0) (xs := flatC l) (by repeat (first | with_reducible exact OwnK.plus2 HO.out (Nat.le_of_eq size_q) (by rw [size_q, size_q]) | with_reducible refine OwnK.alloc ?_ _ | with_reducible refine OwnK.plus ?_ _ _)) hgr1 (by decide)); have HKP := hide (keepT_grown (t := 102) (e := 97) (K := 2) (base := w.heap.size + 3) (n := l.length) (v := .slice A0 m0 c0) (xs := flatC l) (by repeat (first | with_reducible exact OwnK.plus2 HO.out (Nat.le_of_eq size_q) (by rw [size_q, size_q]) | with_reducible refine OwnK.alloc ?_ _ | with_reducible refine OwnK.plus ?_ _ _)) hgr1 (by decide)); obtain ⟨os10, n10, rfl⟩ := grown_plus (L := (((w.alloc (.cells #[.slice none 0 0] 39)).alloc (.cells #[.string s, .int .i64 i', .int .i64 k] 94)).alloc (.cells #[.slice A0 m0 c0] 39))) (by repeat (first | exact Below.refl _ _ | refine bl_plus ?_ | refine bl_alloc ?_ _ | refine bl_drew ?_)) hgr1 (fun q hq => by rw [size_q]; exact (HO.out.lt q hq).1); obtain ⟨A1, c1, rfl, _⟩ := hown1.form; have HN := hide hown1; clear hown1 hgr1 hfr1)
                  | (go_simp; go_at_call 66; refine (HCL.out _ (by repeat (first | with_reducible exact Blk.new' (by simp only [World.size_alloc]) | with_reducible refine Blk.alloc ?_ _ | with_reducible refine Blk.plus ?_))).mono ?_; rintro e w' ⟨A, m, c, i', rfl, hi', os9, n9, rfl⟩))
                all_goals
                  go_wp2
                  go_roundw
                  case rel => exact ⟨i', k, A1, _, c1, _, _, hi', hide (.inr ⟨HK0.out, HRB.out⟩), rfl⟩
                  case measure =>
                    have := HK0.out
                    rw [HMS.out, HMS.out, if_neg (by omega), if_pos (by omega)]
                    omega
              | good ps j3 =>
                rw [hp] at hcl0 hqr
                have hnx := partsR_next hsb.2 hp
                generalize ((sb s j2).toNat == 45) = neg at hcl0 hqr
                have HCL := hide hcl0
                have HRG := hide hqr
                clear hcl0 hqr hp
                go_upto_region 8 with (go_at_call 65; refine (HTK.out _ (by repeat (first | with_reducible exact Blk.new' (by simp only [World.size_alloc]) | with_reducible refine Blk.alloc ?_ _ | with_reducible refine Blk.plus ?_))).mono ?_; rintro e w' ⟨rfl, os11, n11, rfl⟩)
                go_region_law (first
                  | ((refine step_append_k rfl (.tmp 29) (.tmp 32) rfl rfl Try.underlying37 HIP.out.1 HIP.out.2.1 HIP.out.2.2.1 (by decide) rfl (by have := HIP.out.2.2.2; omega) (w.heap.size + 3) l.length (.slice A0 m0 c0) (flatC l) (CV.cells ⟨⟨neg, ps⟩, A, c⟩) _ rfl (by repeat (first | with_reducible exact OwnK.plus2 HO.out (Nat.le_of_eq size_q) (by rw [size_q, size_q]) | with_reducible refine OwnK.alloc ?_ _ | with_reducible refine OwnK.plus ?_ _ _)) rfl (by intro u hu; simp only [CV.cells, List.mem_cons, List.not_mem_nil, or_false] at hu; rcases hu with rfl | rfl <;> rfl) rfl (new2_cells (by simp only [plus_size, World.size_alloc])) (by omega) (by simp only [World.size_alloc, plus_size]; omega) ?_); intro v' w1 hown1 hgr1 hfr1; have HKG := hide (keepT_grown (t := 9) (e := 97) (K := 2) (base := w.heap.size + 3) (n := l.length) (v := .slice A0 m0 c0) (xs := flatC l) (by repeat (first | with_reducible exact OwnK.plus2 HO.out (Nat.le_of_eq size_q) (by rw [size_q, size_q]) | with_reducible refine OwnK.alloc ?_ _ | with_reducible refine OwnK.plus ?_ _ _)) hgr1 (by decide)); have HKP := hide (keepT_grown (t := 102) (e := 97) (K := 2) (base := w.heap.size + 3) (n := l.length) (v := .slice A0 m0 c0) (xs := flatC l) (by repeat (first | with_reducible exact OwnK.plus2 HO.out (Nat.le_of_eq size_q) (by rw [size_q, size_q]) | with_reducible refine OwnK.alloc ?_ _ | with_reducible refine OwnK.plus ?_ _ _)) hgr1 (by decide)); obtain ⟨os10, n10, rfl⟩ := grown_plus (L := (((w.alloc (.cells #[.slice none 0 0] 39)).alloc (.cells #[.string s, .int .i64 j3, .int .i64 (-1)] 94)).alloc (.cells #[.slice A0 m0 c0] 39))) (by repeat (first | exact Below.refl _ _ | refine bl_plus ?_ | refine bl_alloc ?_ _ | refine bl_drew ?_)) hgr1 (fun q hq => by rw [size_q]; exact (HO.out.lt q hq).1); obtain ⟨A1, c1, rfl, _⟩ := hown1.form; have HN := hide hown1; clear hown1 hgr1 hfr1)
                  | (go_simp; go_at_call 66; refine (HCL.out _ (by repeat (first | with_reducible exact Blk.new' (by simp only [World.size_alloc]) | with_reducible refine Blk.alloc ?_ _ | with_reducible refine Blk.plus ?_))).mono ?_; rintro e w' ⟨A, c, rfl, hst, os9, n9, rfl⟩; have HS := hide hst; clear hst))
                all_goals
                  have hs1 := HS.out
                  rw [putBlk_plus (by rw [plus_size, size_q]; omega), put_q rfl] at hs1
                  have HS1 := hide hs1
                  clear hs1 HS
                  go_wp2
                  go_roundw
                  case rel => exact ⟨j3, -1, A1, _, c1, _, _, hnx.2.1, hide (.inl ⟨rfl, l ++ [⟨⟨neg, ps⟩, A, c⟩], (by rw [flatC_snoc, List.length_append]; exact HN.out.plus2 (Nat.le_of_eq size_q) (by rw [size_q, size_q])), (((HP.out.keep (((((keepT_q (t := 9) (by decide) (by decide) (by decide)).plus2 (by rw [size_q, size_q])).plus _ _).plus _ _).alloc _) (((((keepT_q (t := 102) (by decide) (by decide) (by decide)).plus2 (by rw [size_q, size_q])).plus _ _).plus _ _).alloc _)).snoc (x := ⟨⟨neg, ps⟩, A, c⟩) (HS1.out.keep ((KeepT.refl _ _).alloc _) ((KeepT.refl _ _).alloc _))).keep (HKG.out.trans ((keepT_q (t := 9) (by decide) (by decide) (by decide)).plus2 (by rw [size_q, size_q]))) (HKP.out.trans ((keepT_q (t := 102) (by decide) (by decide) (by decide)).plus2 (by rw [size_q, size_q])))), by rw [List.map_append]; exact HRG.out, by rw [List.length_append, List.length_cons, List.length_nil]; omega⟩), rfl⟩
                  case measure =>
                    rw [HMS.out, HMS.out, if_pos (by omega), if_pos (by omega)]
                    omega
      · have hwr2 : ¬ wr < 0 := by omega
        have HB2 := hide hbad
        clear hbad HC
        go_wp2
        go_meet
        exact ⟨j, wr, A0, m0, c0, _, _, hide (.inr ⟨hwr, HB2.out⟩), rfl⟩
  case rest =>
    obtain ⟨j, wr, A, m, c, os, n, HC, rfl⟩ := hcut
    rcases HC.out with ⟨rfl, l, hown, hps, hq⟩ | ⟨hwr, hq⟩
    · obtain ⟨rfl, hln, _, hcs⟩ := csIn_own hown hps
      have hqo := HR.out
      rw [hq] at hqo
      have hb := queryF_ok s _ 0 [] _ (fun _ h => absurd h (by simp)) hqo
      have hAo := HA.out
      rw [hq] at hAo
      have hml : l.length = (l.map CV.c).length := by rw [List.length_map]
      generalize l.map CV.c = cs at *
      simp only at hAo
      clear hown hps HC
      generalize l.length = L at *
      subst hml
      have h400 : cs.length ≤ 400 := by have := hb.2; simp at this; omega
      have hpt := fun w' h' => queryParts_any A c cs w' h' h400 (fun c hc => by have := (hb.1 c hc).1; omega)
      have HPT := hide hpt
      have HCS := hide hcs
      clear hpt hb hqo hq HA HR hcs HOK HIP HMS
      have hmany : (0 : Int) ≤ (manyOf cs : Int) := by omega
      by_cases h20 : 20 < manyOf cs
      · rw [if_pos h20] at hAo
        have h21 : (20 : Int) < (manyOf cs : Int) := by omega
        subst hAo
        go_wp2_with (go_at_call 67; refine (HPT.out _ (HCS.out.below (by repeat (first | exact Below.refl _ _ | refine bl_plus ?_ | refine bl_alloc ?_ _ | refine bl_drew ?_)))).mono ?_; rintro e w' ⟨rfl, hbl⟩; obtain ⟨os12, n12, rfl⟩ := below_plus hbl; clear hbl)
        exact bodyPost_ret (v := .tuple #[.agg #[.slice none 0 0], .int .i64 0, .int .i64 4]) (by simp [results, Try.results24, go_sem]) rfl ⟨none, 0, rfl, CsIn.nil, (by repeat (first | exact Below.refl _ _ | refine bl_plus ?_ | refine bl_alloc ?_ _ | refine bl_drew ?_))⟩
      · rw [if_neg h20] at hAo
        have h21 : ¬ (20 : Int) < (manyOf cs : Int) := by omega
        subst hAo
        go_wp2_with (go_at_call 67; refine (HPT.out _ (HCS.out.below (by repeat (first | exact Below.refl _ _ | refine bl_plus ?_ | refine bl_alloc ?_ _ | refine bl_drew ?_)))).mono ?_; rintro e w' ⟨rfl, hbl⟩; obtain ⟨os12, n12, rfl⟩ := below_plus hbl; clear hbl)
        exact bodyPost_ret (v := .tuple #[.agg #[.slice A cs.length c], .int .i64 0, .int .i64 0]) (by simp [results, Try.results24, go_sem]) rfl ⟨A, c, rfl, HCS.out.keep ((((keepT_q (t := 9) (by decide) (by decide) (by decide)).plus2 (by rw [size_q, size_q]))).plus _ _) ((((keepT_q (t := 102) (by decide) (by decide) (by decide)).plus2 (by rw [size_q, size_q]))).plus _ _) ((((keepT_q (t := 97) (by decide) (by decide) (by decide)).plus2 (by rw [size_q, size_q]))).plus _ _), (by repeat (first | exact Below.refl _ _ | refine bl_plus ?_ | refine bl_alloc ?_ _ | refine bl_drew ?_))⟩
    · have hAo := HA.out
      rw [hq] at hAo
      simp only at hAo
      subst hAo
      have h0 : ¬ wr < 0 := by omega
      clear hq HC HA HR HOK HIP HMS
      go_wp2_with fail
      go_region
      all_goals
        go_wp2
        exact bodyPost_ret (v := .tuple #[.agg #[.slice none 0 0], .int .i64 wr, .int .i64 8]) (by simp [results, Try.results24, go_sem]) rfl ⟨none, 0, rfl, CsIn.nil, (by repeat (first | exact Below.refl _ _ | refine bl_plus ?_ | refine bl_alloc ?_ _ | refine bl_drew ?_))⟩

theorem readQuery_any (s : ByteArray) (w : World) (hs : s.size ≤ maxLen) :
    Calls Try.prog 24 #[.string s] w (QOut (ansR s) w) := by
  by_cases h : s.size ≤ 400
  · exact readQuery_small s w h
  · exact readQuery_large s w (by omega) hs

end Go.Proofs.Ytfklaahakibljaa
