/-
  WALK: a reader of values: a number.
-/
import Derived.Test.YtdncmjlakmkfiaaGreatDoorVwb
import Derived.Test.YtdncmjlakmkfiaaGreatDoorVra
set_option linter.all false
namespace Go.Proofs.YtdncmjlakmkfiaaGreatDoor
open Go.RowKit

theorem NumOutT.no {l : List UInt8} {w : World} {e : Ending} {w' : World} (h : NumOutT l w e w') (hn : num10 l = none) : ∃ k, e = .returned (.tuple #[.int .i64 k, .bool false]) ∧ Below w.heap.size w w' := by
  obtain ⟨⟨k, he, -⟩, hb⟩ := h
  rw [hn] at he
  exact ⟨k, he, hb⟩

theorem NumOutT.yes {l : List UInt8} {w : World} {e : Ending} {w' : World} {v : Int} (h : NumOutT l w e w') (hn : num10 l = some v) : e = .returned (.tuple #[.int .i64 v, .bool true]) ∧ Below w.heap.size w w' := by
  obtain ⟨⟨k, he, hk⟩, hb⟩ := h
  rw [hn] at he
  rw [hk v hn] at he
  exact ⟨he, hb⟩

theorem rst_at {s : ByteArray} {k : Nat} (h : k < s.size) : rst s k = s[k] :: rst s (k + 1) := by
  unfold rst
  rw [List.drop_eq_getElem_cons (by rw [size_list]; exact h)]
  rfl

theorem rst_end {s : ByteArray} {k : Nat} (h : s.size ≤ k) : rst s k = [] := List.drop_of_length_le (by rw [size_list]; exact h)

/-- How many digits come. -/
def tw (s : ByteArray) (k : Nat) : Nat := ((rst s k).takeWhile dgB).length

theorem tw_yes {s : ByteArray} {k : Nat} (h : k < s.size) (hd : dgB s[k] = true) : tw s k = 1 + tw s (k + 1) := by
  unfold tw
  rw [rst_at h, List.takeWhile_cons_of_pos hd, List.length_cons, Nat.add_comm]

theorem tw_no {s : ByteArray} {k : Nat} (h : k < s.size) (hd : dgB s[k] = false) : tw s k = 0 := by
  unfold tw
  rw [rst_at h, List.takeWhile_cons_of_neg (by rw [hd]; decide)]
  rfl

theorem tw_end {s : ByteArray} {k : Nat} (h : s.size ≤ k) : tw s k = 0 := by
  unfold tw
  rw [rst_end h]
  rfl

theorem numLen_yes {s : ByteArray} {k : Nat} (h : Lib.hasPrefix (rst s k) [45] = true) : numLen (rst s k) = 1 + tw s (k + 1) := by
  unfold numLen tw
  rw [if_pos h, ← List.drop_one, rst_drop]

theorem numLen_no {s : ByteArray} {k : Nat} (h : Lib.hasPrefix (rst s k) [45] = false) : numLen (rst s k) = tw s k := by
  unfold numLen tw
  rw [if_neg (by rw [h]; decide)]

def atV (w : World) (p : Nat) : Nat := (intOf ((w.cell? ⟨p, 1, none⟩).getD undef)).toNat

theorem St.atV {w W : World} {g p : Nat} {s : ByteArray} {k : Nat} {b f : Bool} (h : St w g W p s k b f) : atV W p = k := by
  unfold Go.Proofs.YtdncmjlakmkfiaaGreatDoor.atV
  rw [h.cells.1.2.1]
  simp [intOf]

theorem dg_split {c : UInt8} (h : dgB c = false) : decide ((48 : Int) ≤ (c.toNat : Int)) = false ∨ (decide ((48 : Int) ≤ (c.toNat : Int)) = true ∧ decide ((c.toNat : Int) ≤ 57) = false) := by
  unfold dgB at h
  have h := of_decide_eq_false h
  by_cases h1 : 48 ≤ c.toNat
  · exact .inr ⟨decide_eq_true (by omega), decide_eq_false (by omega)⟩
  · exact .inl (decide_eq_false (by omega))

set_option maxHeartbeats 800000 in
theorem mkNum_any (n : Int) (w : World) :
    Calls Tryz.prog 151 #[.int .i64 n] w fun e w' => e = .returned (.agg #[.int .i64 2, .int .i64 n, .int .i64 0, .string ⟨#[]⟩, .slice none 0 0]) ∧ Below w.heap.size w w' := by
  go_enter Tryz.func151, Tryz.ntmps151
  go_wp2
  exact bodyPost_ret (v := .agg #[.int .i64 2, .int .i64 n, .int .i64 0, .string ⟨#[]⟩, .slice none 0 0]) (by simp [results, Tryz.results151, go_sem]) rfl ⟨rfl, (by repeat (first | exact Below.refl _ _ | refine bl_plus ?_ | refine bl_alloc ?_ _ | refine bl_drew ?_ | refine bl_drewN ?_ _))⟩

theorem ext_kq (s : ByteArray) (k q : Nat) : (s.extract k q).data.toList = (rst s k).take (q - k) := by
  rw [Lib.extract_data]
  rfl

set_option maxHeartbeats 3200000 in
set_option maxRecDepth 100000 in
theorem numberV_any (p k : Nat) (s : ByteArray) (far : Bool) (w : World) (hP : ∀ w', Trn p w w' → PowTab w') (h : VR 118 w p s k false far) :
    Calls Tryz.prog 103 #[.pointer (some ⟨p, 0, none⟩)] w (LeafOut 118 p s k far (pNum (rst s k)) w) := by
  have hz := h.sz
  have hk := h.le
  have HS := hide (St.start h)
  obtain ⟨⟨c0, c1, c2, c3, z1, z2, z3, hp⟩, ⟨d0, d1, d2, d3, d4, y0, y1, y2, y3, y4, hg⟩, hne, hne2⟩ := HS.out.cells
  have HP := hide hP
  generalize hOO : pNum (rst s k) = O
  have HOO := hide hOO
  clear h hP hOO
  cases h45 : Lib.hasPrefix (rst s k) [45] with
  | false =>
    have HL := hide (numLen_no h45)
    have HT := hide (show Lib.hasPrefix (rst s k) (⟨#[45]⟩ : ByteArray).data.toList = false from h45)
    clear h45
    go_enter Tryz.func103, Tryz.ntmps103
    go_upto_block 0 with (go_at_call 97; with_reducible refine (takeV_no _ _ _ _ _ _ _ HT.out HS.out.vr).mono ?_; rintro e W1 ⟨rfl, hv, ht⟩; have HS1 := hide (HS.out.step ht hv); clear c0 c1 c2 c3 z1 z2 z3 hp d0 d1 d2 d3 d4 y0 y1 y2 y3 y4 hg hne hne2; clear HS ht hv; have HS := HS1; clear HS1; obtain ⟨⟨c0, c1, c2, c3, z1, z2, z3, hp⟩, ⟨d0, d1, d2, d3, d4, y0, y1, y2, y3, y4, hg⟩, hne, hne2⟩ := HS.out.cells)
    go_cut [] from 12 to 52 (fun wx => ∃ q : Nat, Hid (St w w.heap.size wx p s q false far) ∧ Hid (k + tw s k = q))
    case first =>
      go_wp2_with fail
      go_loopw [] (fun wr => ∃ q : Nat, Hid (St w w.heap.size wr p s q false far) ∧ Hid (k + tw s k = q + tw s q)) (fun wr => s.size - atV wr p)
      case atStart => exact ⟨k, HS, hide rfl⟩
      case round =>
        obtain ⟨q, HS2, HQ⟩ := hrel
        clear c0 c1 c2 c3 z1 z2 z3 hp d0 d1 d2 d3 d4 y0 y1 y2 y3 y4 hg hne hne2
        clear HS
        have HS := HS2
        clear HS2
        obtain ⟨⟨c0, c1, c2, c3, z1, z2, z3, hp⟩, ⟨d0, d1, d2, d3, d4, y0, y1, y2, y3, y4, hg⟩, hne, hne2⟩ := HS.out.cells
        have hqs := HS.out.vr.le
        have i0 : (0 : Int) ≤ (q : Int) := by omega
        by_cases hlt : q < s.size
        · have i1 : (q : Int) < (s.size : Int) := by omega
          cases hd : dgB s[q] with
          | true =>
            have t1 : decide ((48 : Int) ≤ (s[q].toNat : Int)) = true := decide_eq_true (by have := dgB_lo hd; omega)
            have t2 : decide ((s[q].toNat : Int) ≤ 57) = true := decide_eq_true (by have := dgB_lo hd; omega)
            have HQ2 := hide (show k + tw s k = q + 1 + tw s (q + 1) by rw [HQ.out, tw_yes hlt hd]; omega)
            have HLT := hide hlt
            clear hd hqs
            go_wp2_with fail
            go_quiet (fail)
            go_wp2
            go_roundw
            case rel => exact ⟨q + 1, hide ((HS.out.drewN _).at_ (q + 1) HLT.out), HQ2⟩
            case measure =>
              have h1 := St.atV ((HS.out.drewN nq).at_ (q + 1) HLT.out)
              have h2 := HS.out.atV
              have h3 := HLT.out
              show s.size - atV _ p < s.size - atV _ p
              rw [h2]
              refine Nat.lt_of_le_of_lt (Nat.le_of_eq (congrArg (s.size - ·) h1)) ?_
              show s.size - (q + 1) < s.size - q
              omega
          | false =>
            have HQ2 := hide (show k + tw s k = q by rw [HQ.out, tw_no hlt hd]; rfl)
            rcases dg_split hd with t1 | ⟨t1, t2⟩
            all_goals
              clear hd hqs
              go_wp2_with fail
              go_quiet (fail)
              go_wp2
              go_meet
              exact ⟨q, hide (HS.out.drewN _), HQ2⟩
        · have i1 : decide (q < s.size) = false := decide_eq_false (by omega)
          have HQ2 := hide (show k + tw s k = q by rw [HQ.out, tw_end (by omega)]; rfl)
          clear hqs hlt
          go_wp2_with fail
          go_quiet (fail)
          go_wp2
          go_meet
          exact ⟨q, hide (HS.out.drewN _), HQ2⟩
    obtain ⟨q, HS2, HQ⟩ := hcut
    clear c0 c1 c2 c3 z1 z2 z3 hp d0 d1 d2 d3 d4 y0 y1 y2 y3 y4 hg hne hne2
    clear HS
    have HS := HS2
    clear HS2
    obtain ⟨⟨c0, c1, c2, c3, z1, z2, z3, hp⟩, ⟨d0, d1, d2, d3, d4, y0, y1, y2, y3, y4, hg⟩, hne, hne2⟩ := HS.out.cells
    have hkq : k ≤ q := by have := HQ.out; omega
    have hqs := HS.out.vr.le
    have HNL := hide (show numLen (rst s k) = q - k by rw [HL.out]; have := HQ.out; omega)
    have HPN := hide (fun W hp => plainNumberT_any (s.extract k q) W hp)
    rw [ext_kq, ← HNL.out] at HPN
    have HEN := hide (show (rst s k).drop (numLen (rst s k)) = rst s q by rw [HNL.out, rst_drop, show k + (q - k) = q by omega])
    have HMK := hide mkNum_any
    have u1 : (0 : Int) ≤ (k : Int) := by omega
    have u2 : (k : Int) ≤ (q : Int) := by omega
    have u3 : (q : Int) ≤ (s.size : Int) := by omega
    have HKQ := hide hkq
    have HTR := hide HS.out.trn
    clear hqs hkq
    cases hn : num10 ((rst s k).take (numLen (rst s k))) with
    | none =>
      have hO : pNum (rst s k) = none := by unfold pNum; rw [hn]
      have HO2 := hide (HOO.out.symm.trans hO)
      have HN := hide hn
      clear hn hO
      go_wp2_with fail
      go_region_held3 (fun w' => w'.cell? ⟨p, 0, none⟩ = some (.string s) ∧ w'.cell? ⟨p, 1, none⟩ = some (.int .i64 q) ∧ p < w'.heap.size) (simp [*, plus_cell, plus_size, lt_more1, lt_more2, World.size_alloc])
        ((go_at_call 150; refine (HPN.out _ (HP.out _ (HTR.out.trans (Trn.of_below (by repeat (first | exact Below.refl _ _ | with_reducible refine bl_plus ?_ | with_reducible refine bl_alloc ?_ _ | with_reducible refine bl_drew ?_ | with_reducible refine bl_drewN ?_ _)))))).mono ?_; rintro e w' hno; obtain ⟨kv, rfl, hb⟩ := hno.no HN.out; obtain ⟨os7, n7, rfl⟩ := below_plus hb; clear hb hno))
      rename_i hHeld
      clear hHeld
      go_wp2_with (go_at_call 151; refine (HMK.out _ _).mono ?_; rintro e w' ⟨rfl, hb⟩; obtain ⟨os8, n8, rfl⟩ := below_plus hb; clear hb)
      refine bodyPost_ret (results_cell_row (P := Tryz.prog) (by rfl) _ _ _ 24 #[.int .i64 2, .int .i64 kv, .int .i64 0, .string ⟨#[]⟩, .slice none 0 0] (0, 0) _ rfl (((HS.out.bad_ true).end _ _ _ _ _).1.plus).plus Tryz.underlying24 rfl (by kernel_rfl)) rfl ?_
      exact ⟨vNum kv, rfl, rfl, (((HS.out.bad_ true).end _ _ _ _ _).2.2.2.plus _ _).plus _ _, _, _, _, (((HS.out.bad_ true).end _ _ _ _ _).2.2.1.plus _ _).plus _ _, HKQ.out, .inl ⟨HO2.out, rfl⟩⟩
    | some n =>
      have hO : pNum (rst s k) = some (vNum n, (rst s k).drop (numLen (rst s k)), false) := by unfold pNum; rw [hn]
      have HO2 := hide ((HOO.out.symm.trans hO).trans (by rw [HEN.out]))
      have HN := hide hn
      clear hn hO
      go_wp2_with fail
      go_region_held3 (fun w' => w'.cell? ⟨p, 0, none⟩ = some (.string s) ∧ w'.cell? ⟨p, 1, none⟩ = some (.int .i64 q) ∧ p < w'.heap.size) (simp [*, plus_cell, plus_size, lt_more1, lt_more2, World.size_alloc])
        ((go_at_call 150; refine (HPN.out _ (HP.out _ (HTR.out.trans (Trn.of_below (by repeat (first | exact Below.refl _ _ | with_reducible refine bl_plus ?_ | with_reducible refine bl_alloc ?_ _ | with_reducible refine bl_drew ?_ | with_reducible refine bl_drewN ?_ _)))))).mono ?_; rintro e w' hno; obtain ⟨rfl, hb⟩ := hno.yes HN.out; obtain ⟨os7, n7, rfl⟩ := below_plus hb; clear hb hno))
      rename_i hHeld
      clear hHeld
      go_wp2_with (go_at_call 151; refine (HMK.out _ _).mono ?_; rintro e w' ⟨rfl, hb⟩; obtain ⟨os8, n8, rfl⟩ := below_plus hb; clear hb)
      refine bodyPost_ret (results_cell_row (P := Tryz.prog) (by rfl) _ _ _ 24 #[.int .i64 2, .int .i64 n, .int .i64 0, .string ⟨#[]⟩, .slice none 0 0] (0, 0) _ rfl (((HS.out.bad_ false).end _ _ _ _ _).1.plus).plus Tryz.underlying24 rfl (by kernel_rfl)) rfl ?_
      exact ⟨vNum n, rfl, rfl, (((HS.out.bad_ false).end _ _ _ _ _).2.2.2.plus _ _).plus _ _, _, _, _, (((HS.out.bad_ false).end _ _ _ _ _).2.2.1.plus _ _).plus _ _, HKQ.out, .inr ⟨_, false, HO2.out, rfl, (Bool.or_false _).symm, rfl⟩⟩
  | true =>
    have HL := hide (numLen_yes h45)
    have HT := hide (show Lib.hasPrefix (rst s k) (⟨#[45]⟩ : ByteArray).data.toList = true from h45)
    clear h45
    go_enter Tryz.func103, Tryz.ntmps103
    go_upto_block 0 with (go_at_call 97; with_reducible refine (takeV_yes _ _ _ _ _ _ _ 1 rfl HT.out HS.out.vr).mono ?_; rintro e W1 ⟨rfl, hv, ht⟩; have HS1 := hide (HS.out.step ht hv); clear c0 c1 c2 c3 z1 z2 z3 hp d0 d1 d2 d3 d4 y0 y1 y2 y3 y4 hg hne hne2; clear HS ht hv; have HS := HS1; clear HS1; obtain ⟨⟨c0, c1, c2, c3, z1, z2, z3, hp⟩, ⟨d0, d1, d2, d3, d4, y0, y1, y2, y3, y4, hg⟩, hne, hne2⟩ := HS.out.cells)
    go_cut [] from 12 to 52 (fun wx => ∃ q : Nat, Hid (St w w.heap.size wx p s q false far) ∧ Hid ((k + 1) + tw s (k + 1) = q))
    case first =>
      go_wp2_with fail
      go_loopw [] (fun wr => ∃ q : Nat, Hid (St w w.heap.size wr p s q false far) ∧ Hid ((k + 1) + tw s (k + 1) = q + tw s q)) (fun wr => s.size - atV wr p)
      case atStart => exact ⟨(k + 1), HS, hide rfl⟩
      case round =>
        obtain ⟨q, HS2, HQ⟩ := hrel
        clear c0 c1 c2 c3 z1 z2 z3 hp d0 d1 d2 d3 d4 y0 y1 y2 y3 y4 hg hne hne2
        clear HS
        have HS := HS2
        clear HS2
        obtain ⟨⟨c0, c1, c2, c3, z1, z2, z3, hp⟩, ⟨d0, d1, d2, d3, d4, y0, y1, y2, y3, y4, hg⟩, hne, hne2⟩ := HS.out.cells
        have hqs := HS.out.vr.le
        have i0 : (0 : Int) ≤ (q : Int) := by omega
        by_cases hlt : q < s.size
        · have i1 : (q : Int) < (s.size : Int) := by omega
          cases hd : dgB s[q] with
          | true =>
            have t1 : decide ((48 : Int) ≤ (s[q].toNat : Int)) = true := decide_eq_true (by have := dgB_lo hd; omega)
            have t2 : decide ((s[q].toNat : Int) ≤ 57) = true := decide_eq_true (by have := dgB_lo hd; omega)
            have HQ2 := hide (show (k + 1) + tw s (k + 1) = q + 1 + tw s (q + 1) by rw [HQ.out, tw_yes hlt hd]; omega)
            have HLT := hide hlt
            clear hd hqs
            go_wp2_with fail
            go_quiet (fail)
            go_wp2
            go_roundw
            case rel => exact ⟨q + 1, hide ((HS.out.drewN _).at_ (q + 1) HLT.out), HQ2⟩
            case measure =>
              have h1 := St.atV ((HS.out.drewN nq).at_ (q + 1) HLT.out)
              have h2 := HS.out.atV
              have h3 := HLT.out
              show s.size - atV _ p < s.size - atV _ p
              rw [h2]
              refine Nat.lt_of_le_of_lt (Nat.le_of_eq (congrArg (s.size - ·) h1)) ?_
              show s.size - (q + 1) < s.size - q
              omega
          | false =>
            have HQ2 := hide (show (k + 1) + tw s (k + 1) = q by rw [HQ.out, tw_no hlt hd]; rfl)
            rcases dg_split hd with t1 | ⟨t1, t2⟩
            all_goals
              clear hd hqs
              go_wp2_with fail
              go_quiet (fail)
              go_wp2
              go_meet
              exact ⟨q, hide (HS.out.drewN _), HQ2⟩
        · have i1 : decide (q < s.size) = false := decide_eq_false (by omega)
          have HQ2 := hide (show (k + 1) + tw s (k + 1) = q by rw [HQ.out, tw_end (by omega)]; rfl)
          clear hqs hlt
          go_wp2_with fail
          go_quiet (fail)
          go_wp2
          go_meet
          exact ⟨q, hide (HS.out.drewN _), HQ2⟩
    obtain ⟨q, HS2, HQ⟩ := hcut
    clear c0 c1 c2 c3 z1 z2 z3 hp d0 d1 d2 d3 d4 y0 y1 y2 y3 y4 hg hne hne2
    clear HS
    have HS := HS2
    clear HS2
    obtain ⟨⟨c0, c1, c2, c3, z1, z2, z3, hp⟩, ⟨d0, d1, d2, d3, d4, y0, y1, y2, y3, y4, hg⟩, hne, hne2⟩ := HS.out.cells
    have hkq : k ≤ q := by have := HQ.out; omega
    have hqs := HS.out.vr.le
    have HNL := hide (show numLen (rst s k) = q - k by rw [HL.out]; have := HQ.out; omega)
    have HPN := hide (fun W hp => plainNumberT_any (s.extract k q) W hp)
    rw [ext_kq, ← HNL.out] at HPN
    have HEN := hide (show (rst s k).drop (numLen (rst s k)) = rst s q by rw [HNL.out, rst_drop, show k + (q - k) = q by omega])
    have HMK := hide mkNum_any
    have u1 : (0 : Int) ≤ (k : Int) := by omega
    have u2 : (k : Int) ≤ (q : Int) := by omega
    have u3 : (q : Int) ≤ (s.size : Int) := by omega
    have HKQ := hide hkq
    have HTR := hide HS.out.trn
    clear hqs hkq
    cases hn : num10 ((rst s k).take (numLen (rst s k))) with
    | none =>
      have hO : pNum (rst s k) = none := by unfold pNum; rw [hn]
      have HO2 := hide (HOO.out.symm.trans hO)
      have HN := hide hn
      clear hn hO
      go_wp2_with fail
      go_region_held3 (fun w' => w'.cell? ⟨p, 0, none⟩ = some (.string s) ∧ w'.cell? ⟨p, 1, none⟩ = some (.int .i64 q) ∧ p < w'.heap.size) (simp [*, plus_cell, plus_size, lt_more1, lt_more2, World.size_alloc])
        ((go_at_call 150; refine (HPN.out _ (HP.out _ (HTR.out.trans (Trn.of_below (by repeat (first | exact Below.refl _ _ | with_reducible refine bl_plus ?_ | with_reducible refine bl_alloc ?_ _ | with_reducible refine bl_drew ?_ | with_reducible refine bl_drewN ?_ _)))))).mono ?_; rintro e w' hno; obtain ⟨kv, rfl, hb⟩ := hno.no HN.out; obtain ⟨os7, n7, rfl⟩ := below_plus hb; clear hb hno))
      rename_i hHeld
      clear hHeld
      go_wp2_with (go_at_call 151; refine (HMK.out _ _).mono ?_; rintro e w' ⟨rfl, hb⟩; obtain ⟨os8, n8, rfl⟩ := below_plus hb; clear hb)
      refine bodyPost_ret (results_cell_row (P := Tryz.prog) (by rfl) _ _ _ 24 #[.int .i64 2, .int .i64 kv, .int .i64 0, .string ⟨#[]⟩, .slice none 0 0] (0, 0) _ rfl (((HS.out.bad_ true).end _ _ _ _ _).1.plus).plus Tryz.underlying24 rfl (by kernel_rfl)) rfl ?_
      exact ⟨vNum kv, rfl, rfl, (((HS.out.bad_ true).end _ _ _ _ _).2.2.2.plus _ _).plus _ _, _, _, _, (((HS.out.bad_ true).end _ _ _ _ _).2.2.1.plus _ _).plus _ _, HKQ.out, .inl ⟨HO2.out, rfl⟩⟩
    | some n =>
      have hO : pNum (rst s k) = some (vNum n, (rst s k).drop (numLen (rst s k)), false) := by unfold pNum; rw [hn]
      have HO2 := hide ((HOO.out.symm.trans hO).trans (by rw [HEN.out]))
      have HN := hide hn
      clear hn hO
      go_wp2_with fail
      go_region_held3 (fun w' => w'.cell? ⟨p, 0, none⟩ = some (.string s) ∧ w'.cell? ⟨p, 1, none⟩ = some (.int .i64 q) ∧ p < w'.heap.size) (simp [*, plus_cell, plus_size, lt_more1, lt_more2, World.size_alloc])
        ((go_at_call 150; refine (HPN.out _ (HP.out _ (HTR.out.trans (Trn.of_below (by repeat (first | exact Below.refl _ _ | with_reducible refine bl_plus ?_ | with_reducible refine bl_alloc ?_ _ | with_reducible refine bl_drew ?_ | with_reducible refine bl_drewN ?_ _)))))).mono ?_; rintro e w' hno; obtain ⟨rfl, hb⟩ := hno.yes HN.out; obtain ⟨os7, n7, rfl⟩ := below_plus hb; clear hb hno))
      rename_i hHeld
      clear hHeld
      go_wp2_with (go_at_call 151; refine (HMK.out _ _).mono ?_; rintro e w' ⟨rfl, hb⟩; obtain ⟨os8, n8, rfl⟩ := below_plus hb; clear hb)
      refine bodyPost_ret (results_cell_row (P := Tryz.prog) (by rfl) _ _ _ 24 #[.int .i64 2, .int .i64 n, .int .i64 0, .string ⟨#[]⟩, .slice none 0 0] (0, 0) _ rfl (((HS.out.bad_ false).end _ _ _ _ _).1.plus).plus Tryz.underlying24 rfl (by kernel_rfl)) rfl ?_
      exact ⟨vNum n, rfl, rfl, (((HS.out.bad_ false).end _ _ _ _ _).2.2.2.plus _ _).plus _ _, _, _, _, (((HS.out.bad_ false).end _ _ _ _ _).2.2.1.plus _ _).plus _ _, HKQ.out, .inr ⟨_, false, HO2.out, rfl, (Bool.or_false _).symm, rfl⟩⟩


end Go.Proofs.YtdncmjlakmkfiaaGreatDoor
