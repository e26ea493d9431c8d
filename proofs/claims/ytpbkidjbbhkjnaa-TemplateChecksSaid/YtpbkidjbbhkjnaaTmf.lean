/-
  WALK: the reference's reading of a template.
-/
import Derived.Test.YtpbkidjbbhkjnaaTme
namespace Go.Proofs.Ytpbkidjbbhkjnaa
open Go.RowKit

theorem ascii_stops : Ascii ⟨#[123, 125, 10]⟩ := by
  intro j b hb
  have hmem : b ∈ [(123 : UInt8), 125, 10] := List.mem_of_getElem? hb
  simp only [List.mem_cons, List.not_mem_nil, or_false] at hmem
  rcases hmem with rfl | rfl | rfl <;> decide

set_option maxHeartbeats 12800000 in
set_option maxRecDepth 100000 in
theorem templateOf_any (s : ByteArray) (w : World) (hm : s.size ≤ 400000) : Calls Try.prog 23 #[.string s] w (ToOut s w) := by
  obtain ⟨iP, hiP, hzP0, hzP1, hzP2⟩ := info_parts info_fd
  have HIP := hide (And.intro hiP (And.intro hzP0 (And.intro hzP1 hzP2)))
  clear hiP hzP0 hzP1 hzP2
  have HPO : Hid ((∀ (q : Nat) (w' : World), (tm s 0).2 = some q → Below w.heap.size w w' → ToOut s w (.returned (.tuple #[.slice none 0 0, .int .i64 (q : Nat), .bool false])) w') ∧
      (∀ (A : Option Addr) (c : Nat) (ps : List Fd) (w' : World), (tm s 0).2 = none → FdAt w' A ps → fdNames ps = (tm s 0).1 → ps.length = 2 * (fdNames ps).length + 1 → ps.length ≤ 400001 → Below w.heap.size w w' → ToOut s w (.returned (.tuple #[.slice A ps.length c, .int .i64 0, .bool true])) w')) :=
    hide ⟨fun q w' h hb => ⟨hb, .inl ⟨q, h, rfl⟩⟩, fun A c ps w' h1 h2 h3 h4 h5 hb => ⟨hb, .inr ⟨h1, A, c, ps, rfl, h2, h3, h4, h5⟩⟩⟩
  generalize ToOut s w = PO at *
  generalize hT : tm s 0 = R at HPO
  have HT := hide hT
  clear hT
  go_enter Try.func23, Try.ntmps23
  go_wp2
  go_loopw [2, 5, 6] (fun o x p wr => ∃ (i m : Nat) (fs : List Fd) (tx : ByteArray) (A : Option Addr) (c : Nat) (os : Array Obj) (n : Nat), i ≤ s.size ∧ m ≤ i ∧ tx.size ≤ i ∧ o = .slice A m c ∧ x = .string tx ∧ p = .int .i64 i ∧
    Hid (fdNames fs ++ (tm s i).1 = R.1) ∧ Hid ((tm s i).2 = R.2) ∧ Hid (fs.length = 2 * (fdNames fs).length) ∧ Hid (OwnK 5 53 wr w.heap.size (.slice A m c) m (flatFd fs)) ∧ wr = plus w os n) (fun _ _ p _ => s.size - (intOf p).toNat)
  case atStart => exact ⟨0, 0, [], ⟨#[]⟩, none, 0, #[], _, Nat.zero_le _, Nat.zero_le _, Nat.zero_le _, rfl, rfl, rfl, hide (by rw [HT.out]; rfl), hide (by rw [HT.out]), hide rfl, hide OwnK.empty, plus_nil.symm⟩
  case round =>
    obtain ⟨i, m, fs, tx, A, c, os, n, hi, hmi, htx, rfl, rfl, rfl, HNA, HNB, HLN, HS, rfl⟩ := hrel
    have i5 : (i : Int) ≤ (s.size : Int) := by omega
    have i6 : (tx.size : Int) ≤ (i : Int) := by omega
    by_cases hlt : i < s.size
    · have hlt2 : i < s.data.toList.length := by rw [← Lib.size_eq]; exact hlt
      have hx := fun (p : ByteArray) w => Try.hasPrefix_any (s.extract i s.size) p w
      rw [extract_drop] at hx
      have HX := hide hx
      clear hx
      cases e3 : has3 s.data.toList i with
      | true =>
        have HE3 := hide (show Lib.hasPrefix (s.data.toList.drop i) (⟨#[123, 123, 123]⟩ : ByteArray).data.toList = true from e3)
        have hle := has3_le e3
        rw [← Lib.size_eq] at hle
        have HTM := hide (tm_three hlt2 e3)
        clear e3 hlt2
        go_wp2_with (go_at_call 46; refine (HX.out _ _).mono ?_; rintro e w' ⟨rfl, rfl⟩; first | rw [HE3.out] | rw [HE2.out])
        go_roundw
        case rel => exact ⟨i + 3, m, fs, tx ++ ⟨#[123, 123]⟩, A, c, os, n, by omega, by omega, by rw [ByteArray.size_append]; show tx.size + 2 ≤ i + 3; omega, rfl, rfl, by go_num, hide (by rw [← HTM.out]; exact HNA.out), hide (by rw [← HTM.out]; exact HNB.out), HLN, HS, rfl⟩
        case measure => simp [intOf]; omega
      | false =>
        have HE3 := hide (show Lib.hasPrefix (s.data.toList.drop i) (⟨#[123, 123, 123]⟩ : ByteArray).data.toList = false from e3)
        cases e2 : has2 s.data.toList i with
        | false =>
          have HE2 := hide (show Lib.hasPrefix (s.data.toList.drop i) (⟨#[123, 123]⟩ : ByteArray).data.toList = false from e2)
          have HTM := hide (tm_one hlt2 e3 e2)
          have i7 : (i : Int) + 1 ≤ (s.size : Int) := by omega
          clear e3 e2 hlt2
          go_wp2_with (go_at_call 46; refine (HX.out _ _).mono ?_; rintro e w' ⟨rfl, rfl⟩; first | rw [HE3.out] | rw [HE2.out])
          go_roundw
          case rel => exact ⟨i + 1, m, fs, tx ++ s.extract i (i + 1), A, c, os, n, by omega, by omega, by rw [ByteArray.size_append, ByteArray.size_extract]; omega, rfl, by first | rfl | go_num, by go_num, hide (by rw [← HTM.out]; exact HNA.out), hide (by rw [← HTM.out]; exact HNB.out), HLN, HS, rfl⟩
          case measure => simp [intOf]; omega
        | true =>
          have HE2 := hide (show Lib.hasPrefix (s.data.toList.drop i) (⟨#[123, 123]⟩ : ByteArray).data.toList = true from e2)
          have hle := has2_le e2
          rw [← Lib.size_eq] at hle
          have HBAD := hide (fun h => tm_bad hlt2 e3 e2 h)
          have HFLD := hide (fun h => tm_field hlt2 e3 e2 h)
          clear e3 e2 hlt2
          go_upto_block 3 with (go_at_call 46; refine (HX.out _ _).mono ?_; rintro e w' ⟨rfl, rfl⟩; first | rw [HE3.out] | rw [HE2.out])
          have hge := runEnd_ge (p := nmB) (d := s.data.toList) (i := i + 2)
          have hrl := runEnd_le (p := nmB) (d := s.data.toList) (i := i + 2) (by rw [← Lib.size_eq]; exact hle)
          rw [← Lib.size_eq] at hrl
          generalize hte : runEnd nmB s.data.toList (i + 2) = te at *
          have HTE := hide hte
          clear hte
          obtain ⟨K, hK⟩ : ∃ K, (te ≤ i + 22 ∧ K = te) ∨ (i + 22 < te ∧ K = i + 22) := by
            rcases Nat.lt_or_ge (i + 22) te with h | h
            · exact ⟨_, .inr ⟨h, rfl⟩⟩
            · exact ⟨_, .inl ⟨h, rfl⟩⟩
          have HK := hide hK
          clear hK
          go_cut [7] from 39 to 81 (fun v wx => v = .int .i64 K ∧ wx = plus w os n)
          case first =>
            clear HX HE3 HE2 HBAD HFLD HNA HNB HLN HS HPO
            go_wp2_with fail
            go_loopw [7] (fun v wr => ∃ k : Nat, i + 2 ≤ k ∧ k ≤ s.size ∧ k ≤ i + 22 ∧ v = .int .i64 k ∧ Hid (runEnd nmB s.data.toList k = te) ∧ wr = plus w os n) (fun v _ => s.size - (intOf v).toNat)
            case atStart => exact ⟨i + 2, Nat.le_refl _, hle, by omega, by go_num, HTE, rfl⟩
            case round =>
              obtain ⟨k, hk1, hk2, hk3, rfl, HR, rfl⟩ := hrel
              have hKk : (te = k ∨ k = i + 22) → K = k := fun h => by
                have h1 := HK.out
                have h2 := runEnd_ge (p := nmB) (d := s.data.toList) (i := k)
                rw [HR.out] at h2
                omega
              have HKK := hide hKk
              clear hKk
              by_cases hks : k < s.size
              · obtain ⟨c, hc⟩ : ∃ c, s.data.toList[k]? = some c := ⟨_, List.getElem?_eq_getElem (by rw [← Lib.size_eq]; exact hks)⟩
                have ix := idx_str hc
                have i1 : (k : Int) < (s.size : Int) := by omega
                by_cases hkb : k < i + 22
                · have i2 : (k : Int) - (i : Int) - 2 < 20 := by omega
                  have HGO := hide (fun (hp : nmB c = true) => (runEnd_go hc hp).symm.trans HR.out)
                  have HST := hide (fun (hp : nmB c = false) => (runEnd_stop hc hp).symm.trans HR.out)
                  have hcs := nmB_cases c
                  clear hc
                  generalize nmB c = B at *
                  rcases hcs with ⟨g1, g2, rfl⟩ | ⟨g1, g2, rfl⟩ | ⟨g1, g2, g3, rfl⟩ | ⟨g1, g2, g3, rfl⟩ | ⟨g1, g2, rfl⟩ | ⟨g1, g2, rfl⟩
                  · have j1 : (97 : Int) ≤ (c.toNat : Int) := by omega
                    have j2 : (c.toNat : Int) ≤ 122 := by omega
                    clear g1 g2
                    go_wp2
                    go_roundw
                    case rel => exact ⟨k + 1, by omega, hks, by omega, by go_num, hide (HGO.out (by trivial)), by first | rfl | trivial⟩
                    case measure => simp [intOf]; omega
                  · have j1 : (97 : Int) ≤ (c.toNat : Int) := by omega
                    have j2 : ¬ (c.toNat : Int) ≤ 122 := by omega
                    have j3 : (48 : Int) ≤ (c.toNat : Int) := by omega
                    have j4 : ¬ (c.toNat : Int) ≤ 57 := by omega
                    have j5 : ((c.toNat : Int) == 45) = false := beq_eq_false_iff_ne.2 (by omega)
                    clear g1 g2
                    have hKK := HKK.out (.inl (HST.out (by trivial)).symm)
                    go_wp2
                    go_meet
                    exact ⟨by rw [hKK], rfl⟩
                  · have j1 : ¬ (97 : Int) ≤ (c.toNat : Int) := by omega
                    have j3 : (48 : Int) ≤ (c.toNat : Int) := by omega
                    have j4 : (c.toNat : Int) ≤ 57 := by omega
                    clear g1 g2 g3
                    go_wp2
                    go_roundw
                    case rel => exact ⟨k + 1, by omega, hks, by omega, by go_num, hide (HGO.out (by trivial)), by first | rfl | trivial⟩
                    case measure => simp [intOf]; omega
                  · have j1 : ¬ (97 : Int) ≤ (c.toNat : Int) := by omega
                    have j3 : (48 : Int) ≤ (c.toNat : Int) := by omega
                    have j4 : ¬ (c.toNat : Int) ≤ 57 := by omega
                    have j5 : ((c.toNat : Int) == 45) = false := beq_eq_false_iff_ne.2 (by omega)
                    clear g1 g2 g3
                    have hKK := HKK.out (.inl (HST.out (by trivial)).symm)
                    go_wp2
                    go_meet
                    exact ⟨by rw [hKK], rfl⟩
                  · have j1 : ¬ (97 : Int) ≤ (c.toNat : Int) := by omega
                    have j3 : ¬ (48 : Int) ≤ (c.toNat : Int) := by omega
                    have j5 : ((c.toNat : Int) == 45) = true := beq_iff_eq.2 (by omega)
                    clear g1 g2
                    go_wp2
                    go_roundw
                    case rel => exact ⟨k + 1, by omega, hks, by omega, by go_num, hide (HGO.out (by trivial)), by first | rfl | trivial⟩
                    case measure => simp [intOf]; omega
                  · have j1 : ¬ (97 : Int) ≤ (c.toNat : Int) := by omega
                    have j3 : ¬ (48 : Int) ≤ (c.toNat : Int) := by omega
                    have j5 : ((c.toNat : Int) == 45) = false := beq_eq_false_iff_ne.2 (by omega)
                    clear g1 g2
                    have hKK := HKK.out (.inl (HST.out (by trivial)).symm)
                    go_wp2
                    go_meet
                    exact ⟨by rw [hKK], rfl⟩
                · have i2 : ¬ (k : Int) - (i : Int) - 2 < 20 := by omega
                  have hKK := HKK.out (.inr (by omega))
                  clear ix hkb hc HR HKK
                  go_wp2
                  go_meet
                  exact ⟨by rw [hKK], rfl⟩
              · have hend : te = k := HR.out.symm.trans (runEnd_over (by rw [← Lib.size_eq]; omega))
                have hKK := HKK.out (.inl hend)
                have i1 : ¬ (k : Int) < (s.size : Int) := by omega
                clear hend HR HKK
                go_wp2
                go_meet
                exact ⟨by rw [hKK], rfl⟩
          case rest =>
            obtain ⟨rfl, rfl⟩ := hcut
            have hd := HTE.out
            by_cases h1 : te = i + 2
            · obtain rfl : K = i + 2 := by have := HK.out; omega
              have em : (s.extract (i + 2) (i + 2)).toList.isEmpty = true := by rw [isEmpty_size, ByteArray.size_extract]; exact decide_eq_true (by omega)
              have hf := fld_none (d := s.data.toList) (a := i + 2) (by rw [hd, h1])
              have HT1 := hide (show R.2 = some (i + 2) by rw [← HNB.out, HBAD.out (by rw [hf]), hf])
              clear hf HFLD HBAD
              have HRT : Hid (∀ w', Below w.heap.size w w' → PO (.returned (.tuple #[.slice none 0 0, .int .i64 (((i + 2 : Nat) : Int)), .bool false])) w') := hide (fun w' hb => by exact HPO.out.1 (i + 2) w' HT1.out hb)
              go_wp2
              exact HRT.out _ (by repeat (first | exact Below.refl _ _ | refine bl_plus ?_ | refine bl_alloc ?_ _ | refine bl_drew ?_ | refine bl_drewN ?_ _))
            have em : ∀ k, i + 2 < k → k ≤ s.size → (s.extract (i + 2) k).toList.isEmpty = false := fun k h h2 => by rw [isEmpty_size, ByteArray.size_extract]; exact decide_eq_false (by omega)
            by_cases h2 : 20 < te - (i + 2)
            · obtain rfl : K = i + 22 := by have := HK.out; omega
              have em2 := em (i + 22) (by omega) (by omega)
              obtain ⟨c0, hc0, hn0⟩ := runEnd_in (p := nmB) s.data.toList.length s.data.toList (i + 2) (i + 22) (by omega) (by omega) (by rw [hd]; omega)
              have ix := idx_str hc0
              have k1 : ((i + 22 : Nat) : Int) < (s.size : Int) := by omega
              have k2 : (((i + 22 : Nat) : Int) == (s.size : Int)) = false := beq_eq_false_iff_ne.2 (by omega)
              have k3 : ((i + 2 : Nat) : Int) ≤ ((i + 22 : Nat) : Int) := by omega
              have hn1 : c0.toNat ≠ 124 ∧ c0.toNat ≠ 125 := by
                have := nmB_cases c0
                rw [hn0] at this
                constructor <;> intro e <;> rw [e] at this <;> simp at this
              have k4 : ((c0.toNat : Int) != 124) = true := bne_iff_ne.2 (by omega)
              have k5 : ((c0.toNat : Int) != 125) = true := bne_iff_ne.2 (by omega)
              have hf : fld s.data.toList (i + 2) = (i + 22, false) := (fld_long (d := s.data.toList) (a := i + 2) (by rw [hd]; exact h2)).trans rfl
              have hx1 : (i : Int) + 2 ≤ ((i + 22 : Nat) : Int) := by omega
              clear em hn1 hn0 hc0
              generalize hKK : i + 22 = K at *
              have HT1 := hide (show R.2 = some (K) by rw [← HNB.out, HBAD.out (by rw [hf]), hf])
              clear hf HFLD HBAD
              have HRT : Hid (∀ w', Below w.heap.size w w' → PO (.returned (.tuple #[.slice none 0 0, .int .i64 (((K : Nat) : Int)), .bool false])) w') := hide (fun w' hb => by exact HPO.out.1 (K) w' HT1.out hb)
              go_wp2
              exact HRT.out _ (by repeat (first | exact Below.refl _ _ | refine bl_plus ?_ | refine bl_alloc ?_ _ | refine bl_drew ?_ | refine bl_drewN ?_ _))
            have hK2 : K = te := by have := HK.out; omega
            subst hK2
            have em2 := em K (by omega) hrl
            have hx1 : (i : Int) + 2 ≤ (K : Int) := by omega
            have hx2 : (K : Int) ≤ (s.size : Int) := by omega
            clear em
            rcases Nat.eq_or_lt_of_le hrl with hend | hlt2
            · have hnone : s.data.toList[K]? = none := List.getElem?_eq_none (by rw [← Lib.size_eq]; omega)
              have k2 : ((K : Int) == (s.size : Int)) = true := beq_iff_eq.2 (by omega)
              subst hend
              have hf := fld_other hd h1 (by omega) (by rw [hnone]; exact fun h => by cases h) (by rw [hnone]; exact fun h => by cases h)
              have HT1 := hide (show R.2 = some (s.size) by rw [← HNB.out, HBAD.out (by rw [hf]), hf])
              clear hf HFLD HBAD
              have HRT : Hid (∀ w', Below w.heap.size w w' → PO (.returned (.tuple #[.slice none 0 0, .int .i64 (((s.size : Nat) : Int)), .bool false])) w') := hide (fun w' hb => by exact HPO.out.1 (s.size) w' HT1.out hb)
              go_wp2
              exact HRT.out _ (by repeat (first | exact Below.refl _ _ | refine bl_plus ?_ | refine bl_alloc ?_ _ | refine bl_drew ?_ | refine bl_drewN ?_ _))
            obtain ⟨c0, hc0⟩ : ∃ c, s.data.toList[K]? = some c := ⟨_, List.getElem?_eq_getElem (by rw [← Lib.size_eq]; exact hlt2)⟩
            have ix := idx_str hc0
            have k1 : (K : Int) < (s.size : Int) := by omega
            have k2 : ((K : Int) == (s.size : Int)) = false := beq_eq_false_iff_ne.2 (by omega)
            by_cases h124 : c0.toNat = 124
            · have hcc : c0 = 124 := UInt8.toNat_inj.1 h124
              have k4 : ((c0.toNat : Int) != 124) = false := bne_eq_false_iff_eq.2 (by omega)
              have k5 : ((c0.toNat : Int) == 124) = true := beq_iff_eq.2 (by omega)
              have hfe := fldEnd_bar (by rw [hc0, hcc] : s.data.toList[K]? = some 124)
              have hge2 := runEnd_ge (p := fun b => !stopB b) (d := s.data.toList) (i := K + 1)
              have hle2 := runEnd_le (p := fun b => !stopB b) (d := s.data.toList) (i := K + 1) (by rw [← Lib.size_eq]; exact hlt2)
              have hix := indexAny_run (d := s.data.toList) (k := K + 1) (by rw [← Lib.size_eq]; exact hlt2)
              rw [← Lib.size_eq] at hle2 hix
              generalize hE : runEnd (fun b => !stopB b) s.data.toList (K + 1) = E at *
              have HIXX := fun w => indexAny_any (s.extract (K + 1) s.size) ⟨#[123, 125, 10]⟩ w (by decide) (by decide) (by rw [ByteArray.size_extract]; omega) ascii_stops
              rw [extract_drop] at HIXX
              have hchars : (⟨#[123, 125, 10]⟩ : ByteArray).data.toList = [123, 125, 10] := rfl
              rw [hchars, hix] at HIXX
              have j1 : (K : Int) + 1 ≤ (s.size : Int) := by omega
              clear hix hchars hcc hc0 hE
              by_cases h5 : E = s.size
              · rw [if_pos h5] at HIXX
                have HIX := hide HIXX
                have hnone : s.data.toList[E]? = none := List.getElem?_eq_none (by rw [← Lib.size_eq]; omega)
                subst h5
                clear HIXX
                have hf := fld_stop hd h1 (by omega) hfe (by rw [hnone]; exact fun h => by cases h)
                have HT1 := hide (show R.2 = some (s.size) by rw [← HNB.out, HBAD.out (by rw [hf]), hf])
                clear hf HFLD HBAD
                have HRT : Hid (∀ w', Below w.heap.size w w' → PO (.returned (.tuple #[.slice none 0 0, .int .i64 (((s.size : Nat) : Int)), .bool false])) w') := hide (fun w' hb => by exact HPO.out.1 (s.size) w' HT1.out hb)
                go_wp2_with (go_at_call 47; refine (HIX.out _).mono ?_; rintro e w' ⟨rfl, hbl⟩; obtain ⟨os3, n3, rfl⟩ := below_plus hbl; clear hbl)
                exact HRT.out _ (by repeat (first | exact Below.refl _ _ | refine bl_plus ?_ | refine bl_alloc ?_ _ | refine bl_drew ?_ | refine bl_drewN ?_ _))
              rw [if_neg h5] at HIXX
              obtain ⟨M, rfl⟩ : ∃ M, E = K + 1 + M := ⟨E - (K + 1), by omega⟩
              have hM : (((K + 1 + M : Nat) : Int) - ((K + 1 : Nat) : Int)) = (M : Int) := by omega
              rw [hM] at HIXX
              have HIX := hide HIXX
              clear HIXX hM
              have j2 : ¬ (M : Int) < 0 := by omega
              have j3 : (K : Int) + 1 ≤ (K : Int) + 1 + (M : Int) := by omega
              have j4 : (K : Int) + 1 + (M : Int) ≤ (s.size : Int) := by omega
              obtain ⟨c1, hc1⟩ : ∃ c, s.data.toList[K + 1 + M]? = some c := ⟨_, List.getElem?_eq_getElem (by rw [← Lib.size_eq]; omega)⟩
              have iy := idx_str hc1
              have hcast : ((K + 1 + M : Nat) : Int) = (K : Int) + (1 + (M : Int)) := by omega
              simp only [hcast] at iy
              clear hcast
              by_cases h125 : c1.toNat = 125
              · have hcc1 : c1 = 125 := UInt8.toNat_inj.1 h125
                have k6 : ((c1.toNat : Int) != 125) = false := bne_eq_false_iff_eq.2 (by omega)
                have hd1 : s.data.toList[K + 1 + M]? = some 125 := by rw [hc1, hcc1]
                clear hc1 hcc1
                rcases Nat.eq_or_lt_of_le (show K + 1 + M + 1 ≤ s.size by omega) with hend | hlt3
                · have k7 : (((K : Int) + (1 + (M : Int)) + 1) == (s.size : Int)) = true := beq_iff_eq.2 (by omega)
                  have hnone : s.data.toList[K + 1 + M + 1]? = none := List.getElem?_eq_none (by rw [← Lib.size_eq]; omega)
                  have hf := fld_one hd h1 (by omega) hfe hd1 (by rw [hnone]; exact fun h => by cases h)
                  have HT1 := hide (show R.2 = some (K + 1 + M + 1) by rw [← HNB.out, HBAD.out (by rw [hf]), hf])
                  clear hf HFLD HBAD
                  have HRT : Hid (∀ w', Below w.heap.size w w' → PO (.returned (.tuple #[.slice none 0 0, .int .i64 ((K : Int) + (1 + (M : Int)) + 1), .bool false])) w') := hide (fun w' hb => by rw [← show ((K + 1 + M + 1 : Nat) : Int) = (K : Int) + (1 + (M : Int)) + 1 by omega]; exact HPO.out.1 (K + 1 + M + 1) w' HT1.out hb)
                  go_wp2_with (go_at_call 47; refine (HIX.out _).mono ?_; rintro e w' ⟨rfl, hbl⟩; obtain ⟨os3, n3, rfl⟩ := below_plus hbl; clear hbl)
                  exact HRT.out _ (by repeat (first | exact Below.refl _ _ | refine bl_plus ?_ | refine bl_alloc ?_ _ | refine bl_drew ?_ | refine bl_drewN ?_ _))
                have k7 : (((K : Int) + (1 + (M : Int)) + 1) == (s.size : Int)) = false := beq_eq_false_iff_ne.2 (by omega)
                have k8 : (K : Int) + (1 + (M : Int)) + 1 < (s.size : Int) := by omega
                obtain ⟨c2, hc2⟩ : ∃ c, s.data.toList[K + 1 + M + 1]? = some c := ⟨_, List.getElem?_eq_getElem (by rw [← Lib.size_eq]; exact hlt3)⟩
                have iz := idx_str hc2
                have hcast : ((K + 1 + M + 1 : Nat) : Int) = (K : Int) + (1 + (M : Int)) + 1 := by omega
                simp only [hcast] at iz
                clear hcast
                by_cases h126 : c2.toNat = 125
                · have k9 : ((c2.toNat : Int) != 125) = false := bne_eq_false_iff_eq.2 (by omega)
                  have hf := fld_two hd h1 (by omega) hfe hd1 (by rw [hc2, UInt8.toNat_inj.1 (h126.trans (show 125 = (125 : UInt8).toNat from rfl))])
                  clear hfe hd1 hc2
                  have HT1 := hide (HFLD.out (by rw [hf]))
                  simp only [hf] at HT1
                  clear hf HFLD HBAD
                  go_wp2_with (first | (go_at_call 47; refine (HIX.out _).mono ?_; rintro e w' ⟨rfl, hbl⟩; obtain ⟨os3, n3, rfl⟩ := below_plus hbl; clear hbl) | (at_builtin; refine wpList_append_m rfl (.tmp 156) (.tmp 160) rfl rfl Try.underlying25 HIP.out.1 HIP.out.2.1 HIP.out.2.2.1 (by decide) rfl (by have := HIP.out.2.2.2; omega) w.heap.size m 2 (.slice A m c) (flatFd fs) [.string tx, .string ⟨#[]⟩, .string ⟨#[]⟩, .bool false, .bool false, .string ⟨#[]⟩, .string (s.extract (i + 2) K), .string (s.extract (K + 1) (K + 1 + M)), .bool true, .bool true] _ rfl (by repeat (first | with_reducible exact HS.out | with_reducible refine OwnK.alloc ?_ _ | with_reducible refine OwnK.plus ?_ _ _ | with_reducible refine OwnK.drew ?_)) (by decide) rfl (by intro u hu; simp only [List.mem_cons, List.not_mem_nil, or_false] at hu; rcases hu with rfl | rfl | rfl | rfl | rfl | rfl | rfl | rfl | rfl | rfl <;> rfl) rfl (newN_at (cs := [_, _, _, _, _, _, _, _, _, _]) (by simp only [World.size_alloc, plus_size, World.drew])) (by omega) (by simp only [World.size_alloc, plus_size, World.drew]; omega) ?_; intro v' w1 hown1 hgr1 hfr1; obtain ⟨os9, n9, rfl⟩ := grown_plus (L := w) (by repeat (first | exact Below.refl _ _ | refine bl_plus ?_ | refine bl_alloc ?_ _ | refine bl_drew ?_ | refine bl_drewN ?_ _)) hgr1 (fun q hq => (HS.out.lt q hq).1); obtain ⟨A1, c1, rfl, _⟩ := hown1.form; have HN := hide hown1; clear hown1 hgr1 hfr1))
                  go_roundw
                  case rel => exact ⟨K + 1 + M + 2, m + 2, fs ++ [⟨tx, ⟨#[]⟩, ⟨#[]⟩, false, false⟩, ⟨⟨#[]⟩, (s.extract (i + 2) K), (s.extract (K + 1) (K + 1 + M)), true, true⟩], ⟨#[]⟩, A1, c1, os9, n9, by omega, by omega, Nat.zero_le _, by first | rfl | go_num, by first | rfl | trivial, by first | rfl | go_num | (congr 1; omega), hide (by rw [fdNames_append, fdNames_field, ← HNA.out, HT1.out, List.append_assoc]; rfl), hide (by rw [← HNB.out, HT1.out]), hide (by have := HLN.out; rw [fdNames_append, fdNames_field, List.length_append, List.length_append, List.length_cons, List.length_cons, List.length_nil, List.length_cons, List.length_nil]; omega), hide (by rw [flatFd_append]; exact HN.out), by first | rfl | trivial⟩
                  case measure => simp [intOf]; omega
                · have k9 : ((c2.toNat : Int) != 125) = true := bne_iff_ne.2 (by omega)
                  have hne : s.data.toList[K + 1 + M + 1]? ≠ some 125 := by
                    rw [hc2]
                    intro h
                    injection h with h
                    rw [h] at h126
                    exact h126 rfl
                  have hf := fld_one hd h1 (by omega) hfe hd1 hne
                  have HT1 := hide (show R.2 = some (K + 1 + M + 1) by rw [← HNB.out, HBAD.out (by rw [hf]), hf])
                  clear hf HFLD HBAD
                  have HRT : Hid (∀ w', Below w.heap.size w w' → PO (.returned (.tuple #[.slice none 0 0, .int .i64 ((K : Int) + (1 + (M : Int)) + 1), .bool false])) w') := hide (fun w' hb => by rw [← show ((K + 1 + M + 1 : Nat) : Int) = (K : Int) + (1 + (M : Int)) + 1 by omega]; exact HPO.out.1 (K + 1 + M + 1) w' HT1.out hb)
                  go_wp2_with (go_at_call 47; refine (HIX.out _).mono ?_; rintro e w' ⟨rfl, hbl⟩; obtain ⟨os3, n3, rfl⟩ := below_plus hbl; clear hbl)
                  exact HRT.out _ (by repeat (first | exact Below.refl _ _ | refine bl_plus ?_ | refine bl_alloc ?_ _ | refine bl_drew ?_ | refine bl_drewN ?_ _))
              · have k6 : ((c1.toNat : Int) != 125) = true := bne_iff_ne.2 (by omega)
                have hne : s.data.toList[K + 1 + M]? ≠ some 125 := by
                  rw [hc1]
                  intro h
                  injection h with h
                  rw [h] at h125
                  exact h125 rfl
                clear hc1
                have hf := fld_stop hd h1 (by omega) hfe hne
                have HT1 := hide (show R.2 = some (K + 1 + M) by rw [← HNB.out, HBAD.out (by rw [hf]), hf])
                clear hf HFLD HBAD
                have HRT : Hid (∀ w', Below w.heap.size w w' → PO (.returned (.tuple #[.slice none 0 0, .int .i64 ((K : Int) + (1 + (M : Int))), .bool false])) w') := hide (fun w' hb => by rw [← show ((K + 1 + M : Nat) : Int) = (K : Int) + (1 + (M : Int)) by omega]; exact HPO.out.1 (K + 1 + M) w' HT1.out hb)
                go_wp2_with (go_at_call 47; refine (HIX.out _).mono ?_; rintro e w' ⟨rfl, hbl⟩; obtain ⟨os3, n3, rfl⟩ := below_plus hbl; clear hbl)
                exact HRT.out _ (by repeat (first | exact Below.refl _ _ | refine bl_plus ?_ | refine bl_alloc ?_ _ | refine bl_drew ?_ | refine bl_drewN ?_ _))
            · have k4 : ((c0.toNat : Int) != 124) = true := bne_iff_ne.2 (by omega)
              have k5 : ((c0.toNat : Int) == 124) = false := beq_eq_false_iff_ne.2 (by omega)
              have hn124 : s.data.toList[K]? ≠ some 124 := by
                rw [hc0]
                intro h
                injection h with h
                rw [h] at h124
                exact h124 rfl
              by_cases h125 : c0.toNat = 125
              · have hcc : c0 = 125 := UInt8.toNat_inj.1 h125
                have k6 : ((c0.toNat : Int) != 125) = false := bne_eq_false_iff_eq.2 (by omega)
                have hd1 : s.data.toList[K]? = some 125 := by rw [hc0, hcc]
                have hfe := fldEnd_no hn124
                clear hc0 hcc hn124
                rcases Nat.eq_or_lt_of_le (show K + 1 ≤ s.size by omega) with hend | hlt3
                · have k7 : (((K : Int) + 1) == (s.size : Int)) = true := beq_iff_eq.2 (by omega)
                  have hnone : s.data.toList[K + 1]? = none := List.getElem?_eq_none (by rw [← Lib.size_eq]; omega)
                  have hf := fld_one hd h1 (by omega) hfe hd1 (by rw [hnone]; exact fun h => by cases h)
                  have HT1 := hide (show R.2 = some (K + 1) by rw [← HNB.out, HBAD.out (by rw [hf]), hf])
                  clear hf HFLD HBAD
                  have HRT : Hid (∀ w', Below w.heap.size w w' → PO (.returned (.tuple #[.slice none 0 0, .int .i64 ((K : Int) + 1), .bool false])) w') := hide (fun w' hb => by rw [← show ((K + 1 : Nat) : Int) = (K : Int) + 1 by omega]; exact HPO.out.1 (K + 1) w' HT1.out hb)
                  go_wp2
                  exact HRT.out _ (by repeat (first | exact Below.refl _ _ | refine bl_plus ?_ | refine bl_alloc ?_ _ | refine bl_drew ?_ | refine bl_drewN ?_ _))
                have k7 : (((K : Int) + 1) == (s.size : Int)) = false := beq_eq_false_iff_ne.2 (by omega)
                have k8 : (K : Int) + 1 < (s.size : Int) := by omega
                obtain ⟨c2, hc2⟩ : ∃ c, s.data.toList[K + 1]? = some c := ⟨_, List.getElem?_eq_getElem (by rw [← Lib.size_eq]; exact hlt3)⟩
                have iz := idx_str hc2
                have hcast : ((K + 1 : Nat) : Int) = (K : Int) + 1 := by omega
                simp only [hcast] at iz
                clear hcast
                by_cases h126 : c2.toNat = 125
                · have k9 : ((c2.toNat : Int) != 125) = false := bne_eq_false_iff_eq.2 (by omega)
                  have hf := fld_two hd h1 (by omega) hfe hd1 (by rw [hc2, UInt8.toNat_inj.1 (h126.trans (show 125 = (125 : UInt8).toNat from rfl))])
                  clear hfe hd1 hc2
                  have HT1 := hide (HFLD.out (by rw [hf]))
                  simp only [hf] at HT1
                  clear hf HFLD HBAD
                  go_wp2_with (at_builtin; refine wpList_append_m rfl (.tmp 156) (.tmp 160) rfl rfl Try.underlying25 HIP.out.1 HIP.out.2.1 HIP.out.2.2.1 (by decide) rfl (by have := HIP.out.2.2.2; omega) w.heap.size m 2 (.slice A m c) (flatFd fs) [.string tx, .string ⟨#[]⟩, .string ⟨#[]⟩, .bool false, .bool false, .string ⟨#[]⟩, .string (s.extract (i + 2) K), .string (⟨#[]⟩), .bool true, .bool false] _ rfl (by repeat (first | with_reducible exact HS.out | with_reducible refine OwnK.alloc ?_ _ | with_reducible refine OwnK.plus ?_ _ _ | with_reducible refine OwnK.drew ?_)) (by decide) rfl (by intro u hu; simp only [List.mem_cons, List.not_mem_nil, or_false] at hu; rcases hu with rfl | rfl | rfl | rfl | rfl | rfl | rfl | rfl | rfl | rfl <;> rfl) rfl (newN_at (cs := [_, _, _, _, _, _, _, _, _, _]) (by simp only [World.size_alloc, plus_size, World.drew])) (by omega) (by simp only [World.size_alloc, plus_size, World.drew]; omega) ?_; intro v' w1 hown1 hgr1 hfr1; obtain ⟨os9, n9, rfl⟩ := grown_plus (L := w) (by repeat (first | exact Below.refl _ _ | refine bl_plus ?_ | refine bl_alloc ?_ _ | refine bl_drew ?_ | refine bl_drewN ?_ _)) hgr1 (fun q hq => (HS.out.lt q hq).1); obtain ⟨A1, c1, rfl, _⟩ := hown1.form; have HN := hide hown1; clear hown1 hgr1 hfr1)
                  go_roundw
                  case rel => exact ⟨K + 2, m + 2, fs ++ [⟨tx, ⟨#[]⟩, ⟨#[]⟩, false, false⟩, ⟨⟨#[]⟩, (s.extract (i + 2) K), (⟨#[]⟩), true, false⟩], ⟨#[]⟩, A1, c1, os9, n9, by omega, by omega, Nat.zero_le _, by first | rfl | go_num, by first | rfl | trivial, by first | rfl | go_num | (congr 1; omega), hide (by rw [fdNames_append, fdNames_field, ← HNA.out, HT1.out, List.append_assoc]; rfl), hide (by rw [← HNB.out, HT1.out]), hide (by have := HLN.out; rw [fdNames_append, fdNames_field, List.length_append, List.length_append, List.length_cons, List.length_cons, List.length_nil, List.length_cons, List.length_nil]; omega), hide (by rw [flatFd_append]; exact HN.out), by first | rfl | trivial⟩
                  case measure => simp [intOf]; omega
                · have k9 : ((c2.toNat : Int) != 125) = true := bne_iff_ne.2 (by omega)
                  have hne : s.data.toList[K + 1]? ≠ some 125 := by
                    rw [hc2]
                    intro h
                    injection h with h
                    rw [h] at h126
                    exact h126 rfl
                  have hf := fld_one hd h1 (by omega) hfe hd1 hne
                  have HT1 := hide (show R.2 = some (K + 1) by rw [← HNB.out, HBAD.out (by rw [hf]), hf])
                  clear hf HFLD HBAD
                  have HRT : Hid (∀ w', Below w.heap.size w w' → PO (.returned (.tuple #[.slice none 0 0, .int .i64 ((K : Int) + 1), .bool false])) w') := hide (fun w' hb => by rw [← show ((K + 1 : Nat) : Int) = (K : Int) + 1 by omega]; exact HPO.out.1 (K + 1) w' HT1.out hb)
                  go_wp2
                  exact HRT.out _ (by repeat (first | exact Below.refl _ _ | refine bl_plus ?_ | refine bl_alloc ?_ _ | refine bl_drew ?_ | refine bl_drewN ?_ _))
              · have k6 : ((c0.toNat : Int) != 125) = true := bne_iff_ne.2 (by omega)
                have hn125 : s.data.toList[K]? ≠ some 125 := by
                  rw [hc0]
                  intro h
                  injection h with h
                  rw [h] at h125
                  exact h125 rfl
                have hf := fld_other hd h1 (by omega) hn124 hn125
                have HT1 := hide (show R.2 = some (K) by rw [← HNB.out, HBAD.out (by rw [hf]), hf])
                clear hf HFLD HBAD
                have HRT : Hid (∀ w', Below w.heap.size w w' → PO (.returned (.tuple #[.slice none 0 0, .int .i64 (((K : Nat) : Int)), .bool false])) w') := hide (fun w' hb => by exact HPO.out.1 (K) w' HT1.out hb)
                go_wp2
                exact HRT.out _ (by repeat (first | exact Below.refl _ _ | refine bl_plus ?_ | refine bl_alloc ?_ _ | refine bl_drew ?_ | refine bl_drewN ?_ _))
    · obtain rfl : i = s.size := by omega
      have hend := tm_end (s := s) (i := s.size) (by rw [← Lib.size_eq]; exact Nat.le_refl _)
      have HEND := hide hend
      clear hend
      go_wp2_with (at_builtin; refine wpList_append_m rfl (.tmp 164) (.tmp 167) rfl rfl Try.underlying25 HIP.out.1 HIP.out.2.1 HIP.out.2.2.1 (by decide) rfl (by have := HIP.out.2.2.2; omega) w.heap.size m 1 (.slice A m c) (flatFd fs) [.string tx, .string ⟨#[]⟩, .string ⟨#[]⟩, .bool false, .bool false] _ rfl (by repeat (first | with_reducible exact HS.out | with_reducible refine OwnK.alloc ?_ _ | with_reducible refine OwnK.plus ?_ _ _ | with_reducible refine OwnK.drew ?_)) (by decide) rfl (by intro u hu; simp only [List.mem_cons, List.not_mem_nil, or_false] at hu; rcases hu with rfl | rfl | rfl | rfl | rfl <;> rfl) rfl (newN_at (cs := [_, _, _, _, _]) (by simp only [World.size_alloc, plus_size, World.drew])) (by omega) (by simp only [World.size_alloc, plus_size, World.drew]; omega) ?_; intro v' w1 hown1 hgr1 hfr1; obtain ⟨os9, n9, rfl⟩ := grown_plus (L := w) (by repeat (first | exact Below.refl _ _ | refine bl_plus ?_ | refine bl_alloc ?_ _ | refine bl_drew ?_ | refine bl_drewN ?_ _)) hgr1 (fun q hq => (HS.out.lt q hq).1); obtain ⟨A1, c1, rfl, _⟩ := hown1.form; have HN := hide hown1; clear hown1 hgr1 hfr1)
      obtain ⟨hmn, hfl, hat⟩ := OwnK.fds (ps := fs ++ [⟨tx, ⟨#[]⟩, ⟨#[]⟩, false, false⟩]) (by rw [flatFd_append]; exact HN.out)
      have hln := HLN.out
      rw [List.length_append, List.length_cons, List.length_nil] at hfl
      have hret := HPO.out.2 A1 c1 (fs ++ [⟨tx, ⟨#[]⟩, ⟨#[]⟩, false, false⟩]) _ (by rw [← HNB.out, HEND.out]) hat (by rw [fdNames_append, fdNames_text, List.append_nil, ← HNA.out, HEND.out, List.append_nil]) (by rw [fdNames_append, fdNames_text, List.append_nil, List.length_append, List.length_cons, List.length_nil]; omega) (by rw [List.length_append, List.length_cons, List.length_nil]; omega) (by repeat (first | exact Below.refl _ _ | refine bl_plus ?_ | refine bl_alloc ?_ _ | refine bl_drew ?_ | refine bl_drewN ?_ _))
      rw [List.length_append, List.length_cons, List.length_nil, hfl] at hret
      exact hret

end Go.Proofs.Ytpbkidjbbhkjnaa
