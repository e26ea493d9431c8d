/-
  WALKS: what can begin at a position of a string, in the program: a tag; a token of a kind.
-/
import Derived.Test.YtioppoaijehicaaGreatDoorSpe
set_option linter.all false
namespace Go.Proofs.YtioppoaijehicaaGreatDoor
open Go.RowKit

theorem ext_last {s : ByteArray} {a E : Nat} (h1 : a < E) (h2 : E ≤ s.size) (c : Nat) : one (s.extract a E) ((s.extract a E).size - 1) c = one s (E - 1) c := by
  have hz : (s.extract a E).size = E - a := by rw [ByteArray.size_extract, Nat.min_eq_left h2]
  have h3 : (s.extract a E).size - 1 < (s.extract a E).size := by omega
  unfold one
  rw [dif_pos h3, dif_pos (show E - 1 < s.size by omega)]
  congr 2
  have hl : E - 1 < s.data.toList.length := by rw [← Lib.size_eq]; omega
  have hj : (s.extract a E).size - 1 < (s.extract a E).data.toList.length := by rw [← Lib.size_eq]; exact h3
  have : (s.extract a E).data.toList[(s.extract a E).size - 1]? = s.data.toList[E - 1]? := by
    rw [Lib.extract_data, List.getElem?_take_of_lt (by omega), List.getElem?_drop, hz, show a + (E - a - 1) = E - 1 by omega]
  rw [List.getElem?_eq_getElem hj, List.getElem?_eq_getElem hl] at this
  exact Option.some.inj this

/-- Letters so far. -/
def ltr (s : ByteArray) (a b : Nat) : Bool := (s.extract a b).data.toList.any isLt

theorem ltr_start (s : ByteArray) (a : Nat) : ltr s a a = false := by
  unfold ltr
  rw [Lib.extract_data, Nat.sub_self]
  rfl

theorem ltr_step {s : ByteArray} {a b : Nat} (h1 : a ≤ b) (h2 : b < s.size) : ltr s a (b + 1) = (ltr s a b || isLt s[b]) := by
  unfold ltr
  rw [ext_snoc h1 h2, List.any_append]
  simp

theorem badP_no {c : UInt8} (h : badP c = false) : isLt c = false ∧ isDg c = false ∧ ((c.toNat : Int) == 35) = false ∧ ((c.toNat : Int) == 38) = false := by
  unfold badP at h
  simp only [Bool.or_eq_false_iff] at h
  have e1 := u8_beq c 35
  have e2 := u8_beq c 38
  exact ⟨h.1, h.2.1, e1.trans h.2.2.1, e2.trans h.2.2.2⟩

theorem badP_yes {c : UInt8} (h : badP c = true) : isLt c = true ∨ (isLt c = false ∧ isDg c = true) ∨ (isLt c = false ∧ isDg c = false ∧ ((c.toNat : Int) == 35) = true) ∨ (isLt c = false ∧ isDg c = false ∧ ((c.toNat : Int) == 35) = false ∧ ((c.toNat : Int) == 38) = true) := by
  unfold badP at h
  have e1 := u8_beq c 35
  have e2 := u8_beq c 38
  have e1 : ((c.toNat : Int) == 35) = (c.toNat == 35) := e1
  have e2 : ((c.toNat : Int) == 38) = (c.toNat == 38) := e2
  rw [e1, e2]
  cases h1 : isLt c <;> cases h2 : isDg c <;> cases h3 : (c.toNat == 35) <;> cases h4 : (c.toNat == 38) <;> simp [h1, h2, h3, h4] at h ⊢

set_option maxHeartbeats 6400000 in
set_option maxRecDepth 100000 in
theorem tagAt_any (s : ByteArray) (i : Nat) (w : World) (hi : i < s.size) (hs : s.size ≤ 1000000) :
    Calls Tryz.prog 227 #[.string s, .int .i64 i] w (SpOut (tagP s i) w) := by
  have HPN : Hid (tagP s i = none → ∀ w', Below w.heap.size w w' → SpOut (tagP s i) w (.returned (.tuple #[.agg #[.int .i64 0, .int .i64 0, .int .i64 0, .string ⟨#[]⟩, .string ⟨#[]⟩, .int .i64 0, .bool false], .bool false])) w') := hide fun h w' hb => by rw [h]; exact spOut_none hb
  have HPS : Hid (∀ x, tagP s i = some x → ∀ (cs : Array Value) w', cs = x.vals.toArray → Below w.heap.size w w' → SpOut (tagP s i) w (.returned (.tuple #[.agg cs, .bool true])) w') := hide fun x h cs w' hc hb => by rw [h, hc]; exact spOut_some hb
  generalize SpOut (tagP s i) w = PO at *
  have i0 : (i : Int) < (s.size : Int) := by omega
  cases h35 : one s i 35 with
  | false =>
    have b1 : ((s[i].toNat : Int) != 35) = true := u8_ne_t (k := 35) (one_false h35 hi)
    have HF := hide (HPN.out (by unfold tagP; rw [h35, if_neg (fun h => absurd h.1 Bool.false_ne_true)]))
    clear HPS HPN
    go_enter Tryz.func227, Tryz.ntmps227
    go_upto_region 1 with (fail)
    have HN := hide (Blk.new w 90 #[.int .i64 0, .int .i64 0, .int .i64 0, .string ⟨#[]⟩, .string ⟨#[]⟩, .int .i64 0, .bool false])
    have HBA := hide (bl_alloc (Below.refl w.heap.size w) (.cells #[.int .i64 0, .int .i64 0, .int .i64 0, .string ⟨#[]⟩, .string ⟨#[]⟩, .int .i64 0, .bool false] 90))
    generalize w.alloc (.cells #[.int .i64 0, .int .i64 0, .int .i64 0, .string ⟨#[]⟩, .string ⟨#[]⟩, .int .i64 0, .bool false] 90) = wa at *
    obtain ⟨z0, z1, z2, z3, z4, z5, z6, zf, zl⟩ := HN.out.seven
    go_wp2_with (fail)
    refine bodyPost_ret (results_sp (P := Tryz.prog) (by rfl) _ _ w.heap.size 90 _ (0, 0) _ rfl (seven_set HN.out) Tryz.underlying90 rfl (by kernel_rfl)) rfl ?_
    exact HF.out _ (below_seven HBA.out (Nat.le_refl _))
  | true =>
    obtain ⟨h9b, h9⟩ := one_true h35
    have b1 : ((s[i].toNat : Int) != 35) = false := u8_ne_f (k := 35) h9
    clear h9
    have hq : i - 1 < s.size := by omega
    have HPL := hide (fun W => isLetterT_any s[i - 1] W)
    have HPD := hide (fun W => isDigitT_any s[i - 1] W)
    by_cases hbad : 0 < i ∧ badP s[i - 1] = true
    · have i1 : (0 : Int) < (i : Int) := by omega
      have i2 : (i : Int) - 1 < (s.size : Int) := by omega
      have i3 : 0 ≤ (i : Int) - 1 := by omega
      have HF := hide (HPN.out (by
        unfold tagP
        rw [if_neg (fun h => by have := h.2.1 hq hbad.1; rw [hbad.2] at this; cases this)]))
      clear HPS HPN h35
      rcases badP_yes hbad.2 with h | ⟨h, h2⟩ | ⟨h, h2, b2⟩ | ⟨h, h2, b2, b3⟩
      all_goals
        rw [h] at HPL
        (try rw [h2] at HPD)
        clear hbad
        go_enter Tryz.func227, Tryz.ntmps227
        go_upto_region 1 with (fail)
        have HN := hide (Blk.new w 90 #[.int .i64 0, .int .i64 0, .int .i64 0, .string ⟨#[]⟩, .string ⟨#[]⟩, .int .i64 0, .bool false])
        have HBA := hide (bl_alloc (Below.refl w.heap.size w) (.cells #[.int .i64 0, .int .i64 0, .int .i64 0, .string ⟨#[]⟩, .string ⟨#[]⟩, .int .i64 0, .bool false] 90))
        generalize w.alloc (.cells #[.int .i64 0, .int .i64 0, .int .i64 0, .string ⟨#[]⟩, .string ⟨#[]⟩, .int .i64 0, .bool false] 90) = wa at *
        obtain ⟨z0, z1, z2, z3, z4, z5, z6, zf, zl⟩ := HN.out.seven
        go_wp2_with (first | (go_at_call 247; refine (HPL.out _).mono ?_; rintro e w' ⟨rfl, rfl⟩) | (go_at_call 246; refine (HPD.out _).mono ?_; rintro e w' ⟨rfl, rfl⟩))
        refine bodyPost_ret (results_sp (P := Tryz.prog) (by rfl) _ _ w.heap.size 90 _ (0, 0) _ rfl (seven_set HN.out) Tryz.underlying90 rfl (by kernel_rfl)) rfl ?_
        exact HF.out _ (below_seven HBA.out (Nat.le_refl _))
    · have i1 : (i : Int) + 1 ≤ (s.size : Int) := by omega
      have hge := scn_ge inTg s (i + 1)
      have hle := scn_le (p := inTg) (s := s) (k := i + 1) (by omega)
      obtain ⟨E, hE⟩ : ∃ E, scn inTg s (i + 1) = E := ⟨_, rfl⟩
      have HE := hide hE
      have HTP : Hid (tagP s i = if ltr s (i + 1) E = true ∧ E ≤ i + 101 ∧ one s (i + 1) 47 = false ∧ one s (E - 1) 47 = false then some ⟨6, i, E, s.extract (i + 1) E, ByteArray.empty, 0, false⟩ else none) := hide (by
        unfold tagP ltr
        rw [h35, hE]
        have hB : ∀ h : i - 1 < s.size, 0 < i → badP s[i - 1] = false := fun h h0 => by
          cases hx : badP s[i - 1] with
          | false => rfl
          | true => exact absurd ⟨h0, hx⟩ hbad
        by_cases h : (s.extract (i + 1) E).data.toList.any isLt = true ∧ E ≤ i + 101 ∧ one s (i + 1) 47 = false ∧ one s (E - 1) 47 = false
        · rw [if_pos ⟨rfl, hB, h⟩, if_pos h]
        · rw [if_neg (fun h9 => h h9.2.2), if_neg h])
      have HL0 := hide (ltr_start s (i + 1))
      have HLS := hide (fun k (h1 : i + 1 ≤ k) (h2 : k < s.size) => ltr_step (s := s) h1 h2)
      rw [hE] at hge hle
      clear hE h35
      have HIT := hide (fun k (h : k < s.size) W => inTag_any s[k] W)
      have HIL := hide (fun k (h : k < s.size) W => isLetterT_any s[k] W)
      have i2 : (i : Int) + 1 ≤ (E : Int) := by omega
      have i3 : (E : Int) ≤ (s.size : Int) := by omega
      have hD : (s.extract (i + 1) E).size = E - (i + 1) := by rw [ByteArray.size_extract, Nat.min_eq_left hle]
      go_enter Tryz.func227, Tryz.ntmps227
      go_upto_region 1 with (fail)
      have HN := hide (Blk.new w 90 #[.int .i64 0, .int .i64 0, .int .i64 0, .string ⟨#[]⟩, .string ⟨#[]⟩, .int .i64 0, .bool false])
      have HBA := hide (bl_alloc (Below.refl w.heap.size w) (.cells #[.int .i64 0, .int .i64 0, .int .i64 0, .string ⟨#[]⟩, .string ⟨#[]⟩, .int .i64 0, .bool false] 90))
      generalize w.alloc (.cells #[.int .i64 0, .int .i64 0, .int .i64 0, .string ⟨#[]⟩, .string ⟨#[]⟩, .int .i64 0, .bool false] 90) = wa at *
      obtain ⟨z0, z1, z2, z3, z4, z5, z6, zf, zl⟩ := HN.out.seven
      go_upto_if 16 with (fail)
      generalize hd : decide (0 < i) = bd
      have HD := hide hd
      clear hd
      go_cut [6] from 17 to 34 (fun s6 wx => wa = wx)
      case first =>
        clear HPS HPN HTP HLS HIT HIL HL0 HE
        by_cases h0 : 0 < i
        · have j1 : (0 : Int) < (i : Int) := by omega
          obtain rfl : bd = true := by rw [← HD.out]; exact decide_eq_true h0
          have j2 : (i : Int) - 1 < (s.size : Int) := by omega
          have j3 : 0 ≤ (i : Int) - 1 := by omega
          obtain ⟨h, h2, b2, b3⟩ := badP_no (c := s[i - 1]) (by
            cases hx : badP s[i - 1] with
            | false => rfl
            | true => exact absurd ⟨h0, hx⟩ hbad)
          rw [h] at HPL
          rw [h2] at HPD
          clear h h2 hbad
          go_wp2_with (first | (go_at_call 247; refine (HPL.out _).mono ?_; rintro e w' ⟨rfl, rfl⟩) | (go_at_call 246; refine (HPD.out _).mono ?_; rintro e w' ⟨rfl, rfl⟩))
          go_meet
          rfl
        · have j1 : ¬ (0 : Int) < (i : Int) := by omega
          obtain rfl : bd = false := by rw [← HD.out]; exact decide_eq_false h0
          clear hbad
          go_wp2
          go_meet
          rfl
      case rest =>
      subst hcut
      clear HPL HPD hbad HD
      go_upto_block 0 with (fail)
      go_cut [7, 8] from 38 to 56 (fun s7 s8 wx => s7 = .int .i64 E ∧ s8 = .bool (ltr s (i + 1) E) ∧ wx = wa)
      case first =>
        clear HPS HPN HTP
        go_wp2_with fail
        go_loopw [7, 8] (fun s7 s8 wr => ∃ k : Nat, i + 1 ≤ k ∧ k ≤ s.size ∧ s7 = .int .i64 k ∧ s8 = .bool (ltr s (i + 1) k) ∧ Hid (scn inTg s k = E) ∧ wr = wa) (fun s7 _ _ => s.size - (intOf s7).toNat)
        case atStart => exact ⟨i + 1, Nat.le_refl _, by omega, by go_num, by rw [HL0.out], HE, rfl⟩
        case round =>
          obtain ⟨k, hk1, hk2, rfl, rfl, HR, rfl⟩ := hrel
          by_cases hlt : k < s.size
          · have j1 : (k : Int) < (s.size : Int) := by omega
            have HIT1 := hide (HIT.out k hlt)
            have HIL1 := hide (HIL.out k hlt)
            have hls := HLS.out k hk1 hlt
            cases hb : inTg s[k] with
            | true =>
              rw [hb] at HIT1
              have HR2 := hide ((scn_step hlt hb).trans HR.out)
              generalize isLt s[k] = L at *
              generalize hlk : ltr s (i + 1) k = B at *
              have HLS2 := hide hls
              clear hb HR hls
              cases B with
              | true =>
                go_wp2_with (first | (go_at_call 248; refine (HIT1.out _).mono ?_; rintro e w' ⟨rfl, rfl⟩) | (go_at_call 247; refine (HIL1.out _).mono ?_; rintro e w' ⟨rfl, rfl⟩))
                go_roundw
                case rel => exact ⟨k + 1, by omega, hlt, by go_num, by rw [HLS2.out]; rfl, HR2, by first | rfl | trivial⟩
                case measure => simp [intOf]; omega
              | false =>
                go_wp2_with (first | (go_at_call 248; refine (HIT1.out _).mono ?_; rintro e w' ⟨rfl, rfl⟩) | (go_at_call 247; refine (HIL1.out _).mono ?_; rintro e w' ⟨rfl, rfl⟩))
                go_roundw
                case rel => exact ⟨k + 1, by omega, hlt, by go_num, by rw [HLS2.out]; rfl, HR2, by first | rfl | trivial⟩
                case measure => simp [intOf]; omega
            | false =>
              rw [hb] at HIT1
              have hke : k = E := by have := HR.out; rw [scn_stop hlt hb] at this; exact this
              have HKE := hide hke
              clear hb HR hls hke
              go_wp2_with (go_at_call 248; refine (HIT1.out _).mono ?_; rintro e w' ⟨rfl, rfl⟩)
              go_meet
              exact ⟨by rw [HKE.out], by rw [HKE.out], by first | rfl | trivial⟩
          · obtain rfl : k = s.size := by omega
            have hke : s.size = E := by have := HR.out; rw [scn_over (Nat.le_refl _)] at this; exact this
            have HKE := hide hke
            clear HR hke
            go_wp2
            go_meet
            exact ⟨by rw [HKE.out], by rw [HKE.out], by first | rfl | trivial⟩
      case rest =>
      obtain ⟨rfl, rfl, rfl⟩ := hcut
      clear HIT HIL HLS HL0 HE
      go_upto_region 12 with (fail)
      cases hlt : ltr s (i + 1) E with
      | false =>
        have HF := hide (HPN.out (by rw [HTP.out, hlt, if_neg (fun h => absurd h.1 Bool.false_ne_true)]))
        clear HPS HPN HTP hlt
        go_wp2_with (fail)
        refine bodyPost_ret (results_sp (P := Tryz.prog) (by rfl) _ _ w.heap.size 90 _ (0, 0) _ rfl (seven_set HN.out) Tryz.underlying90 rfl (by kernel_rfl)) rfl ?_
        exact HF.out _ (below_seven HBA.out (Nat.le_refl _))
      | true =>
        have hne := any_ne (show (s.extract (i + 1) E).data.toList.any isLt = true from hlt)
        have HO1 := hide (ext_one (s := s) hne.1 hle 47)
        have HO2 := hide (ext_last (s := s) hne.1 hle 47)
        rw [hlt] at HTP
        clear hlt
        generalize s.extract (i + 1) E = D at *
        have j0 : (0 : Int) < (D.size : Int) := by omega
        have hp : 0 < D.size := by omega
        have HDZ := hide hD
        clear hD
        have hl : D.size - 1 < D.size := by omega
        have j2 : (D.size : Int) - 1 < (D.size : Int) := by omega
        have j3 : 0 ≤ (D.size : Int) - 1 := by omega
        by_cases h100 : 100 < D.size
        · have j1 : (100 : Int) < (D.size : Int) := by omega
          have HF := hide (HPN.out (by rw [HTP.out, if_neg (fun h => by have := HDZ.out; omega)]))
          clear HPS HPN HTP HO1 HO2
          go_wp2_with (fail)
          refine bodyPost_ret (results_sp (P := Tryz.prog) (by rfl) _ _ w.heap.size 90 _ (0, 0) _ rfl (seven_set HN.out) Tryz.underlying90 rfl (by kernel_rfl)) rfl ?_
          exact HF.out _ (below_seven HBA.out (Nat.le_refl _))
        · have j1 : ¬ (100 : Int) < (D.size : Int) := by omega
          cases o1 : one D 0 47 with
          | true =>
            obtain ⟨h9b, h9⟩ := one_true o1
            have b2 : ((D[0].toNat : Int) == 47) = true := beq_iff_eq.2 (by omega)
            have HF := hide (HPN.out (by rw [HTP.out, if_neg (fun h => by rw [← HO1.out, o1] at h; exact absurd h.2.2.1 (by decide))]))
            clear HPS HPN HTP HO1 HO2 o1 h9
            go_wp2_with (fail)
            refine bodyPost_ret (results_sp (P := Tryz.prog) (by rfl) _ _ w.heap.size 90 _ (0, 0) _ rfl (seven_set HN.out) Tryz.underlying90 rfl (by kernel_rfl)) rfl ?_
            exact HF.out _ (below_seven HBA.out (Nat.le_refl _))
          | false =>
            have h9 := one_false o1 hp
            have b2 : ((D[0].toNat : Int) == 47) = false := beq_eq_false_iff_ne.2 (by omega)
            cases o2 : one D (D.size - 1) 47 with
            | true =>
              obtain ⟨h8b, h8⟩ := one_true o2
              have b3 : ((D[D.size - 1].toNat : Int) == 47) = true := beq_iff_eq.2 (by omega)
              have HF := hide (HPN.out (by rw [HTP.out, if_neg (fun h => by rw [← HO2.out, o2] at h; exact absurd h.2.2.2 (by decide))]))
              clear HPS HPN HTP HO1 HO2 o1 o2 h8 h9
              go_wp2_with (fail)
              refine bodyPost_ret (results_sp (P := Tryz.prog) (by rfl) _ _ w.heap.size 90 _ (0, 0) _ rfl (seven_set HN.out) Tryz.underlying90 rfl (by kernel_rfl)) rfl ?_
              exact HF.out _ (below_seven HBA.out (Nat.le_refl _))
            | false =>
              have h8 := one_false o2 hl
              have b3 : ((D[D.size - 1].toNat : Int) == 47) = false := beq_eq_false_iff_ne.2 (by omega)
              have HF := hide (HPS.out ⟨6, i, E, D, ⟨#[]⟩, 0, false⟩ (by rw [HTP.out, if_pos ⟨rfl, by have := HDZ.out; omega, HO1.out.symm.trans o1, HO2.out.symm.trans o2⟩]; rfl))
              clear HPS HPN HTP HO1 HO2 o1 o2 h8 h9
              go_wp2_with (fail)
              refine bodyPost_ret (results_sp (P := Tryz.prog) (by rfl) _ _ w.heap.size 90 _ (0, 0) _ rfl (seven_set HN.out) Tryz.underlying90 rfl (by kernel_rfl)) rfl ?_
              exact HF.out _ _ (by simp only [Sp.vals, Int.natCast_add, Int.cast_ofNat_Int] <;> rfl) (below_seven HBA.out (Nat.le_refl _))

/-- A token of a kind. -/
def tokK (s : ByteArray) (i : Nat) : Nat → Option Sp
  | 0 => escP s i
  | 1 => codeP s i
  | 2 => linkP s i
  | 3 => refP s i
  | 4 => tagP s i
  | _ => boldP s i

theorem spOut_lit {o : Option Sp} {w w' : World} {e : Ending} (h : SpOut o w e w') : e = .returned (.tuple #[.agg #[.int .i64 (o.getD zSp).kind, .int .i64 (o.getD zSp).fr, .int .i64 (o.getD zSp).to, .string (o.getD zSp).txt, .string (o.getD zSp).sho, .int .i64 (o.getD zSp).id, .bool (o.getD zSp).strong], .bool o.isSome]) ∧ Below w.heap.size w w' := h

set_option maxHeartbeats 1600000 in
set_option maxRecDepth 100000 in
theorem token0_any (s : ByteArray) (i : Nat) (w : World) (hi : i < s.size) (hs : s.size ≤ 1000000) :
    Calls Tryz.prog 196 #[.int .i64 0, .string s, .int .i64 i] w (SpOut (escP s i) w) := by
  have HF : Hid (∀ w', Below w.heap.size w w' → SpOut (escP s i) w (.returned (.tuple #[.agg #[.int .i64 ((escP s i).getD zSp).kind, .int .i64 ((escP s i).getD zSp).fr, .int .i64 ((escP s i).getD zSp).to, .string ((escP s i).getD zSp).txt, .string ((escP s i).getD zSp).sho, .int .i64 ((escP s i).getD zSp).id, .bool ((escP s i).getD zSp).strong], .bool (escP s i).isSome])) w') := hide fun w' h => ⟨rfl, h⟩
  have HC := hide (fun W => ((escapeAt_any s i W hi hs).mono fun e w' h => spOut_lit h))
  generalize SpOut (escP s i) w = PO at *
  generalize (escP s i).getD zSp = y at *
  generalize (escP s i).isSome = b at *
  obtain ⟨yk, yf, yt, yx, ys, yi, yg⟩ := y
  (try simp only at HF HC)
  go_enter Tryz.func196, Tryz.ntmps196
  go_upto_region 1 with (fail)
  have HN := hide (Blk.new w 90 #[.int .i64 0, .int .i64 0, .int .i64 0, .string ⟨#[]⟩, .string ⟨#[]⟩, .int .i64 0, .bool false])
  have HBA := hide (bl_alloc (Below.refl w.heap.size w) (.cells #[.int .i64 0, .int .i64 0, .int .i64 0, .string ⟨#[]⟩, .string ⟨#[]⟩, .int .i64 0, .bool false] 90))
  generalize w.alloc (.cells #[.int .i64 0, .int .i64 0, .int .i64 0, .string ⟨#[]⟩, .string ⟨#[]⟩, .int .i64 0, .bool false] 90) = wa at *
  obtain ⟨z0, z1, z2, z3, z4, z5, z6, zf, zl⟩ := HN.out.seven
  go_wp2_with (go_at_call 223; refine (HC.out _).mono ?_; rintro e w3 ⟨rfl, hb3⟩; have HN3 := hide (HN.out.below hb3 HN.out.lt); have HB3 := hide (below_chainS HBA.out hb3); obtain ⟨y0, y1, y2, y3, y4, y5, y6, yf9, yl⟩ := HN3.out.seven; clear hb3)
  refine bodyPost_ret (results_sp (P := Tryz.prog) (by rfl) _ _ w.heap.size 90 _ (0, 0) _ rfl (seven_set HN3.out) Tryz.underlying90 rfl (by kernel_rfl)) rfl ?_
  exact HF.out _ (below_seven HB3.out (Nat.le_refl _))

set_option maxHeartbeats 1600000 in
set_option maxRecDepth 100000 in
theorem token1_any (s : ByteArray) (i : Nat) (w : World) (hi : i < s.size) (hs : s.size ≤ 1000000) :
    Calls Tryz.prog 196 #[.int .i64 1, .string s, .int .i64 i] w (SpOut (codeP s i) w) := by
  have HF : Hid (∀ w', Below w.heap.size w w' → SpOut (codeP s i) w (.returned (.tuple #[.agg #[.int .i64 ((codeP s i).getD zSp).kind, .int .i64 ((codeP s i).getD zSp).fr, .int .i64 ((codeP s i).getD zSp).to, .string ((codeP s i).getD zSp).txt, .string ((codeP s i).getD zSp).sho, .int .i64 ((codeP s i).getD zSp).id, .bool ((codeP s i).getD zSp).strong], .bool (codeP s i).isSome])) w') := hide fun w' h => ⟨rfl, h⟩
  have HC := hide (fun W => ((codeAt_any s i W hi hs).mono fun e w' h => spOut_lit h))
  generalize SpOut (codeP s i) w = PO at *
  generalize (codeP s i).getD zSp = y at *
  generalize (codeP s i).isSome = b at *
  obtain ⟨yk, yf, yt, yx, ys, yi, yg⟩ := y
  (try simp only at HF HC)
  go_enter Tryz.func196, Tryz.ntmps196
  go_upto_region 1 with (fail)
  have HN := hide (Blk.new w 90 #[.int .i64 0, .int .i64 0, .int .i64 0, .string ⟨#[]⟩, .string ⟨#[]⟩, .int .i64 0, .bool false])
  have HBA := hide (bl_alloc (Below.refl w.heap.size w) (.cells #[.int .i64 0, .int .i64 0, .int .i64 0, .string ⟨#[]⟩, .string ⟨#[]⟩, .int .i64 0, .bool false] 90))
  generalize w.alloc (.cells #[.int .i64 0, .int .i64 0, .int .i64 0, .string ⟨#[]⟩, .string ⟨#[]⟩, .int .i64 0, .bool false] 90) = wa at *
  obtain ⟨z0, z1, z2, z3, z4, z5, z6, zf, zl⟩ := HN.out.seven
  go_wp2_with (go_at_call 224; refine (HC.out _).mono ?_; rintro e w3 ⟨rfl, hb3⟩; have HN3 := hide (HN.out.below hb3 HN.out.lt); have HB3 := hide (below_chainS HBA.out hb3); obtain ⟨y0, y1, y2, y3, y4, y5, y6, yf9, yl⟩ := HN3.out.seven; clear hb3)
  refine bodyPost_ret (results_sp (P := Tryz.prog) (by rfl) _ _ w.heap.size 90 _ (0, 0) _ rfl (seven_set HN3.out) Tryz.underlying90 rfl (by kernel_rfl)) rfl ?_
  exact HF.out _ (below_seven HB3.out (Nat.le_refl _))

set_option maxHeartbeats 1600000 in
set_option maxRecDepth 100000 in
theorem token2_any (s : ByteArray) (i : Nat) (w : World) (hi : i < s.size) (hs : s.size ≤ 1000000) :
    Calls Tryz.prog 196 #[.int .i64 2, .string s, .int .i64 i] w (SpOut (linkP s i) w) := by
  have HF : Hid (∀ w', Below w.heap.size w w' → SpOut (linkP s i) w (.returned (.tuple #[.agg #[.int .i64 ((linkP s i).getD zSp).kind, .int .i64 ((linkP s i).getD zSp).fr, .int .i64 ((linkP s i).getD zSp).to, .string ((linkP s i).getD zSp).txt, .string ((linkP s i).getD zSp).sho, .int .i64 ((linkP s i).getD zSp).id, .bool ((linkP s i).getD zSp).strong], .bool (linkP s i).isSome])) w') := hide fun w' h => ⟨rfl, h⟩
  have HC := hide (fun W => ((linkAt_any s i W hi hs).mono fun e w' h => spOut_lit h))
  generalize SpOut (linkP s i) w = PO at *
  generalize (linkP s i).getD zSp = y at *
  generalize (linkP s i).isSome = b at *
  obtain ⟨yk, yf, yt, yx, ys, yi, yg⟩ := y
  (try simp only at HF HC)
  go_enter Tryz.func196, Tryz.ntmps196
  go_upto_region 1 with (fail)
  have HN := hide (Blk.new w 90 #[.int .i64 0, .int .i64 0, .int .i64 0, .string ⟨#[]⟩, .string ⟨#[]⟩, .int .i64 0, .bool false])
  have HBA := hide (bl_alloc (Below.refl w.heap.size w) (.cells #[.int .i64 0, .int .i64 0, .int .i64 0, .string ⟨#[]⟩, .string ⟨#[]⟩, .int .i64 0, .bool false] 90))
  generalize w.alloc (.cells #[.int .i64 0, .int .i64 0, .int .i64 0, .string ⟨#[]⟩, .string ⟨#[]⟩, .int .i64 0, .bool false] 90) = wa at *
  obtain ⟨z0, z1, z2, z3, z4, z5, z6, zf, zl⟩ := HN.out.seven
  go_wp2_with (go_at_call 225; refine (HC.out _).mono ?_; rintro e w3 ⟨rfl, hb3⟩; have HN3 := hide (HN.out.below hb3 HN.out.lt); have HB3 := hide (below_chainS HBA.out hb3); obtain ⟨y0, y1, y2, y3, y4, y5, y6, yf9, yl⟩ := HN3.out.seven; clear hb3)
  refine bodyPost_ret (results_sp (P := Tryz.prog) (by rfl) _ _ w.heap.size 90 _ (0, 0) _ rfl (seven_set HN3.out) Tryz.underlying90 rfl (by kernel_rfl)) rfl ?_
  exact HF.out _ (below_seven HB3.out (Nat.le_refl _))

set_option maxHeartbeats 1600000 in
set_option maxRecDepth 100000 in
theorem token3_any (s : ByteArray) (i : Nat) (w : World) (hi : i < s.size) (hs : s.size ≤ 1000000) :
    Calls Tryz.prog 196 #[.int .i64 3, .string s, .int .i64 i] w (SpOut (refP s i) w) := by
  have HF : Hid (∀ w', Below w.heap.size w w' → SpOut (refP s i) w (.returned (.tuple #[.agg #[.int .i64 ((refP s i).getD zSp).kind, .int .i64 ((refP s i).getD zSp).fr, .int .i64 ((refP s i).getD zSp).to, .string ((refP s i).getD zSp).txt, .string ((refP s i).getD zSp).sho, .int .i64 ((refP s i).getD zSp).id, .bool ((refP s i).getD zSp).strong], .bool (refP s i).isSome])) w') := hide fun w' h => ⟨rfl, h⟩
  have HC := hide (fun W => ((refAt_any s i W hi hs).mono fun e w' h => spOut_lit h))
  generalize SpOut (refP s i) w = PO at *
  generalize (refP s i).getD zSp = y at *
  generalize (refP s i).isSome = b at *
  obtain ⟨yk, yf, yt, yx, ys, yi, yg⟩ := y
  (try simp only at HF HC)
  go_enter Tryz.func196, Tryz.ntmps196
  go_upto_region 1 with (fail)
  have HN := hide (Blk.new w 90 #[.int .i64 0, .int .i64 0, .int .i64 0, .string ⟨#[]⟩, .string ⟨#[]⟩, .int .i64 0, .bool false])
  have HBA := hide (bl_alloc (Below.refl w.heap.size w) (.cells #[.int .i64 0, .int .i64 0, .int .i64 0, .string ⟨#[]⟩, .string ⟨#[]⟩, .int .i64 0, .bool false] 90))
  generalize w.alloc (.cells #[.int .i64 0, .int .i64 0, .int .i64 0, .string ⟨#[]⟩, .string ⟨#[]⟩, .int .i64 0, .bool false] 90) = wa at *
  obtain ⟨z0, z1, z2, z3, z4, z5, z6, zf, zl⟩ := HN.out.seven
  go_wp2_with (go_at_call 226; refine (HC.out _).mono ?_; rintro e w3 ⟨rfl, hb3⟩; have HN3 := hide (HN.out.below hb3 HN.out.lt); have HB3 := hide (below_chainS HBA.out hb3); obtain ⟨y0, y1, y2, y3, y4, y5, y6, yf9, yl⟩ := HN3.out.seven; clear hb3)
  refine bodyPost_ret (results_sp (P := Tryz.prog) (by rfl) _ _ w.heap.size 90 _ (0, 0) _ rfl (seven_set HN3.out) Tryz.underlying90 rfl (by kernel_rfl)) rfl ?_
  exact HF.out _ (below_seven HB3.out (Nat.le_refl _))

set_option maxHeartbeats 1600000 in
set_option maxRecDepth 100000 in
theorem token4_any (s : ByteArray) (i : Nat) (w : World) (hi : i < s.size) (hs : s.size ≤ 1000000) :
    Calls Tryz.prog 196 #[.int .i64 4, .string s, .int .i64 i] w (SpOut (tagP s i) w) := by
  have HF : Hid (∀ w', Below w.heap.size w w' → SpOut (tagP s i) w (.returned (.tuple #[.agg #[.int .i64 ((tagP s i).getD zSp).kind, .int .i64 ((tagP s i).getD zSp).fr, .int .i64 ((tagP s i).getD zSp).to, .string ((tagP s i).getD zSp).txt, .string ((tagP s i).getD zSp).sho, .int .i64 ((tagP s i).getD zSp).id, .bool ((tagP s i).getD zSp).strong], .bool (tagP s i).isSome])) w') := hide fun w' h => ⟨rfl, h⟩
  have HC := hide (fun W => ((tagAt_any s i W hi hs).mono fun e w' h => spOut_lit h))
  generalize SpOut (tagP s i) w = PO at *
  generalize (tagP s i).getD zSp = y at *
  generalize (tagP s i).isSome = b at *
  obtain ⟨yk, yf, yt, yx, ys, yi, yg⟩ := y
  (try simp only at HF HC)
  go_enter Tryz.func196, Tryz.ntmps196
  go_upto_region 1 with (fail)
  have HN := hide (Blk.new w 90 #[.int .i64 0, .int .i64 0, .int .i64 0, .string ⟨#[]⟩, .string ⟨#[]⟩, .int .i64 0, .bool false])
  have HBA := hide (bl_alloc (Below.refl w.heap.size w) (.cells #[.int .i64 0, .int .i64 0, .int .i64 0, .string ⟨#[]⟩, .string ⟨#[]⟩, .int .i64 0, .bool false] 90))
  generalize w.alloc (.cells #[.int .i64 0, .int .i64 0, .int .i64 0, .string ⟨#[]⟩, .string ⟨#[]⟩, .int .i64 0, .bool false] 90) = wa at *
  obtain ⟨z0, z1, z2, z3, z4, z5, z6, zf, zl⟩ := HN.out.seven
  go_wp2_with (go_at_call 227; refine (HC.out _).mono ?_; rintro e w3 ⟨rfl, hb3⟩; have HN3 := hide (HN.out.below hb3 HN.out.lt); have HB3 := hide (below_chainS HBA.out hb3); obtain ⟨y0, y1, y2, y3, y4, y5, y6, yf9, yl⟩ := HN3.out.seven; clear hb3)
  refine bodyPost_ret (results_sp (P := Tryz.prog) (by rfl) _ _ w.heap.size 90 _ (0, 0) _ rfl (seven_set HN3.out) Tryz.underlying90 rfl (by kernel_rfl)) rfl ?_
  exact HF.out _ (below_seven HB3.out (Nat.le_refl _))

set_option maxHeartbeats 1600000 in
set_option maxRecDepth 100000 in
theorem token5_any (s : ByteArray) (i : Nat) (w : World) (hi : i < s.size) (hs : s.size ≤ 1000000) :
    Calls Tryz.prog 196 #[.int .i64 5, .string s, .int .i64 i] w (SpOut (boldP s i) w) := by
  have HPN : Hid (boldP s i = none → ∀ w', Below w.heap.size w w' → SpOut (boldP s i) w (.returned (.tuple #[.agg #[.int .i64 0, .int .i64 0, .int .i64 0, .string ⟨#[]⟩, .string ⟨#[]⟩, .int .i64 0, .bool false], .bool false])) w') := hide fun h w' hb => by rw [h]; exact spOut_none hb
  have HPS : Hid (∀ x, boldP s i = some x → ∀ (cs : Array Value) w', cs = x.vals.toArray → Below w.heap.size w w' → SpOut (boldP s i) w (.returned (.tuple #[.agg cs, .bool true])) w') := hide fun x h cs w' hc hb => by rw [h, hc]; exact spOut_some hb
  generalize SpOut (boldP s i) w = PO at *
  have H42 := hide (show ∀ W, Calls Tryz.prog 133 #[.string (s.extract (i) s.size), .string ⟨#[42, 42]⟩] W (fun e w' => e = .returned (.bool (two s (i) 42)) ∧ w' = W) from fun W => has2_at s (i) 42 (by decide) W)
  have i0 : (i : Int) < (s.size : Int) := by omega
  cases h42 : two s i 42 with
  | false =>
    rw [h42] at H42
    have HF := hide (HPN.out (by unfold boldP; rw [h42, if_neg Bool.false_ne_true]))
    clear HPS HPN h42
    go_enter Tryz.func196, Tryz.ntmps196
    go_upto_region 1 with (fail)
    have HN := hide (Blk.new w 90 #[.int .i64 0, .int .i64 0, .int .i64 0, .string ⟨#[]⟩, .string ⟨#[]⟩, .int .i64 0, .bool false])
    have HBA := hide (bl_alloc (Below.refl w.heap.size w) (.cells #[.int .i64 0, .int .i64 0, .int .i64 0, .string ⟨#[]⟩, .string ⟨#[]⟩, .int .i64 0, .bool false] 90))
    generalize w.alloc (.cells #[.int .i64 0, .int .i64 0, .int .i64 0, .string ⟨#[]⟩, .string ⟨#[]⟩, .int .i64 0, .bool false] 90) = wa at *
    obtain ⟨z0, z1, z2, z3, z4, z5, z6, zf, zl⟩ := HN.out.seven
    go_wp2_with (go_at_call 133; (refine (H42.out _).mono ?_); rintro e w' ⟨rfl, hw⟩; subst w')
    refine bodyPost_ret (results_sp (P := Tryz.prog) (by rfl) _ _ w.heap.size 90 _ (0, 0) _ rfl (seven_set HN.out) Tryz.underlying90 rfl (by kernel_rfl)) rfl ?_
    exact HF.out _ (below_seven HBA.out (Nat.le_refl _))
  | true =>
    rw [h42] at H42
    have i1 : (i : Int) + 2 ≤ (s.size : Int) := by have := two_lt h42; omega
    have HF := hide (HPS.out ⟨7, i, i + 2, ⟨#[42, 42]⟩, ⟨#[]⟩, 0, false⟩ (by unfold boldP; rw [h42, if_pos rfl]; rfl))
    clear HPS HPN h42
    go_enter Tryz.func196, Tryz.ntmps196
    go_upto_region 1 with (fail)
    have HN := hide (Blk.new w 90 #[.int .i64 0, .int .i64 0, .int .i64 0, .string ⟨#[]⟩, .string ⟨#[]⟩, .int .i64 0, .bool false])
    have HBA := hide (bl_alloc (Below.refl w.heap.size w) (.cells #[.int .i64 0, .int .i64 0, .int .i64 0, .string ⟨#[]⟩, .string ⟨#[]⟩, .int .i64 0, .bool false] 90))
    generalize w.alloc (.cells #[.int .i64 0, .int .i64 0, .int .i64 0, .string ⟨#[]⟩, .string ⟨#[]⟩, .int .i64 0, .bool false] 90) = wa at *
    obtain ⟨z0, z1, z2, z3, z4, z5, z6, zf, zl⟩ := HN.out.seven
    go_wp2_with (go_at_call 133; (refine (H42.out _).mono ?_); rintro e w' ⟨rfl, hw⟩; subst w')
    refine bodyPost_ret (results_sp (P := Tryz.prog) (by rfl) _ _ w.heap.size 90 _ (0, 0) _ rfl (seven_set HN.out) Tryz.underlying90 rfl (by kernel_rfl)) rfl ?_
    exact HF.out _ _ (by simp only [Sp.vals, Int.natCast_add, Int.cast_ofNat_Int] <;> rfl) (below_seven HBA.out (Nat.le_refl _))

theorem token_any (k : Nat) (hk : k < 6) (s : ByteArray) (i : Nat) (w : World) (hi : i < s.size) (hs : s.size ≤ 1000000) :
    Calls Tryz.prog 196 #[.int .i64 k, .string s, .int .i64 i] w (SpOut (tokK s i k) w) := by
  match k, hk with
  | 0, _ => exact token0_any s i w hi hs
  | 1, _ => exact token1_any s i w hi hs
  | 2, _ => exact token2_any s i w hi hs
  | 3, _ => exact token3_any s i w hi hs
  | 4, _ => exact token4_any s i w hi hs
  | 5, _ => exact token5_any s i w hi hs

theorem tokK_some {s : ByteArray} {i k : Nat} {x : Sp} (hk : k < 6) (h : ∀ j, j < k → tokK s i j = none) (hx : tokK s i k = some x) : tokP s i = x := by
  unfold tokP tokO
  match k, hk with
  | 0, _ => rw [show escP s i = some x from hx]; rfl
  | 1, _ => rw [show escP s i = none from h 0 (by omega), show codeP s i = some x from hx]; rfl
  | 2, _ => rw [show escP s i = none from h 0 (by omega), show codeP s i = none from h 1 (by omega), show linkP s i = some x from hx]; rfl
  | 3, _ => rw [show escP s i = none from h 0 (by omega), show codeP s i = none from h 1 (by omega), show linkP s i = none from h 2 (by omega), show refP s i = some x from hx]; rfl
  | 4, _ => rw [show escP s i = none from h 0 (by omega), show codeP s i = none from h 1 (by omega), show linkP s i = none from h 2 (by omega), show refP s i = none from h 3 (by omega), show tagP s i = some x from hx]; rfl
  | 5, _ => rw [show escP s i = none from h 0 (by omega), show codeP s i = none from h 1 (by omega), show linkP s i = none from h 2 (by omega), show refP s i = none from h 3 (by omega), show tagP s i = none from h 4 (by omega), show boldP s i = some x from hx]; rfl

theorem tokK_none {s : ByteArray} {i : Nat} (h : ∀ j, j < 6 → tokK s i j = none) : tokP s i = ⟨1, i, i + 1, ByteArray.empty, ByteArray.empty, 0, false⟩ := by
  unfold tokP tokO
  rw [show escP s i = none from h 0 (by omega), show codeP s i = none from h 1 (by omega), show linkP s i = none from h 2 (by omega), show refP s i = none from h 3 (by omega), show tagP s i = none from h 4 (by omega), show boldP s i = none from h 5 (by omega)]
  rfl

end Go.Proofs.YtioppoaijehicaaGreatDoor
