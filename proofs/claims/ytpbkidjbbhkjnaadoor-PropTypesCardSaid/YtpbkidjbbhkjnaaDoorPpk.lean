/-
  WALK: what is wrong in a list of properties, by types, in the reference.
-/
import Derived.Test.YtpbkidjbbhkjnaaDoorPpj
import Derived.Test.YtpbkidjbbhkjnaaDoorPpc
import Derived.Test.YtpbkidjbbhkjnaaDoorPpg
namespace Go.Proofs.YtpbkidjbbhkjnaaDoor
open Go.RowKit Go.Lib

theorem getOut_some {l : List PR} {x : ByteArray} {w w' : World} {e : Ending} {q : Nat} (h : GetOut l x w e w') (hR : firstIdx (prIs l x) l.length = some q) (hq : q < l.length) :
    ∃ A3 c3, e = .returned (.tuple #[l[q].v.arg A3 c3, .bool true]) ∧ Below w.heap.size w w' := by
  obtain ⟨hb, ⟨k, hk, A3, c3, h1, h2, -⟩ | ⟨h1, -⟩⟩ := h
  · rw [hR] at h1
    obtain rfl : q = k := Option.some.inj h1
    exact ⟨A3, c3, h2, hb⟩
  · rw [hR] at h1; cases h1
theorem getOut_none {l : List PR} {x : ByteArray} {w w' : World} {e : Ending} (h : GetOut l x w e w') (hR : firstIdx (prIs l x) l.length = none) :
    e = .returned (.tuple #[.agg #[.int .i64 0, .int .i64 0, .int .i64 0, .string ⟨#[]⟩, .slice none 0 0], .bool false]) ∧ Below w.heap.size w w' := by
  obtain ⟨hb, ⟨k, hk, A3, c3, h1, h2, -⟩ | ⟨h1, h2⟩⟩ := h
  · rw [hR] at h1; cases h1
  · exact ⟨h2, hb⟩

set_option maxHeartbeats 25600000 in
set_option maxRecDepth 100000 in
theorem faultsOf_any (ts : List TY) (l : List PR) (A B : Option Addr) (c c' : Nat) (w : World) (hA : TsAt w A ts) (hcap : ts.length ≤ c) (hB : PsAt w B l) :
    Calls Tryd.prog 6 #[.slice A ts.length c, .slice B l.length c'] w (FaultsOut ts l w) := by
  have HT := hide (fun W (hbw : Below w.heap.size w W) => typesFault_any ts A c W (hA.below hbw) hcap)
  have HP := hide (fun W (hbw : Below w.heap.size w W) => propsFault_any l B c' W (hB.below hbw))
  unfold FaultsOut
  have hRL : resList ts l = if resErr ts l = 0 then faults l ts else [] := rfl
  have hRE : resErr ts l = if typesErr ts ≠ 0 then typesErr ts else propsErr l := rfl
  by_cases ht : typesErr ts = 0
  case neg =>
    rw [if_pos ht] at hRE
    rw [hRE, if_neg ht] at hRL
    rw [hRL, hRE]
    generalize typesErr ts = E at *
    have q1 := bne_iff_ne.2 ht
    clear hRL hRE ht hA hB
    go_enter Tryd.func6, Tryd.ntmps6
    go_wp2_with (go_at_call 9; refine (HT.out _ ?hbw).mono ?_; (case hbw => repeat (first | exact Below.refl _ _ | refine bl_plus ?_ | refine bl_alloc ?_ _ | refine bl_drew ?_ | refine bl_drewN ?_ _)); rintro e w' ⟨rfl, hbl⟩; obtain ⟨os1, n1, rfl⟩ := below_plus hbl; clear hbl)
    go_ret2
    exact ⟨none, 0, rfl, FAt.nil, (by repeat (first | exact Below.refl _ _ | refine bl_plus ?_ | refine bl_alloc ?_ _ | refine bl_drew ?_ | refine bl_drewN ?_ _))⟩
  rw [if_neg (by omega)] at hRE
  by_cases hp : propsErr l = 0
  case neg =>
    rw [hRE, if_neg hp] at hRL
    rw [hRL, hRE]
    rw [ht] at HT
    generalize propsErr l = E at *
    have q1 := bne_iff_ne.2 hp
    clear hRL hRE ht hp hA hB
    go_enter Tryd.func6, Tryd.ntmps6
    go_wp2_with (first | (go_at_call 9; refine (HT.out _ ?hbw).mono ?_; (case hbw => repeat (first | exact Below.refl _ _ | refine bl_plus ?_ | refine bl_alloc ?_ _ | refine bl_drew ?_ | refine bl_drewN ?_ _)); rintro e w' ⟨rfl, hbl⟩; obtain ⟨os1, n1, rfl⟩ := below_plus hbl; clear hbl) | (go_at_call 17; refine (HP.out _ ?hbw).mono ?_; (case hbw => repeat (first | exact Below.refl _ _ | refine bl_plus ?_ | refine bl_alloc ?_ _ | refine bl_drew ?_ | refine bl_drewN ?_ _)); rintro e w' ⟨rfl, hbl⟩; obtain ⟨os2, n2, rfl⟩ := below_plus hbl; clear hbl))
    go_ret2
    exact ⟨none, 0, rfl, FAt.nil, (by repeat (first | exact Below.refl _ _ | refine bl_plus ?_ | refine bl_alloc ?_ _ | refine bl_drew ?_ | refine bl_drewN ?_ _))⟩
  rw [hp] at hRE HP
  rw [hRE, if_pos rfl] at hRL
  rw [hRL, hRE]
  rw [ht] at HT
  have hl40 := len_of_typesErr ht
  have hm := hA.1
  have hm2 := hB.1
  unfold maxLen at hm hm2
  have HA := hide hA
  have HB := hide hB
  obtain ⟨iP, hiP, hzP0, hzP1, hzP2⟩ := info_parts info_fault
  have HIP := hide (And.intro hiP (And.intro hzP0 (And.intro hzP1 hzP2)))
  clear hiP hzP0 hzP1 hzP2 hRL hRE ht hp hA hB
  have HTK := hide (show faults l ts = faults l (ts.take ts.length) by rw [List.take_length])
  generalize faults l ts = R at *
  have HTK := hide (fun k (h : k = ts.length) => (by subst h; exact HTK.out : R = faults l (ts.take k)))
  go_enter Tryd.func6, Tryd.ntmps6
  go_wp2_with (first | (go_at_call 9; refine (HT.out _ ?hbw).mono ?_; (case hbw => repeat (first | exact Below.refl _ _ | refine bl_plus ?_ | refine bl_alloc ?_ _ | refine bl_drew ?_ | refine bl_drewN ?_ _)); rintro e w' ⟨rfl, hbl⟩; obtain ⟨os1, n1, rfl⟩ := below_plus hbl; clear hbl) | (go_at_call 17; refine (HP.out _ ?hbw).mono ?_; (case hbw => repeat (first | exact Below.refl _ _ | refine bl_plus ?_ | refine bl_alloc ?_ _ | refine bl_drew ?_ | refine bl_drewN ?_ _)); rintro e w' ⟨rfl, hbl⟩; obtain ⟨os2, n2, rfl⟩ := below_plus hbl; clear hbl))
  go_loopw [8, 26] (fun v i wr => ∃ (k m : Nat) (fs : List (ByteArray × Int)) (A : Option Addr) (c : Nat) (os : Array Obj) (n : Nat), k ≤ ts.length ∧ i = .int .i64 k ∧ v = .slice A m c ∧ Hid (fs = faults l (ts.take k)) ∧ Hid (OwnK 2 30 wr w.heap.size (.slice A m c) m (flatF fs)) ∧ wr = plus w os n) (fun _ i _ => ts.length - (intOf i).toNat)
  case atStart => exact ⟨0, 0, [], none, 0, _, _, Nat.zero_le _, rfl, rfl, hide rfl, hide OwnK.empty, plus_plus⟩
  clear HT HP
  case round =>
    obtain ⟨k, m, fs, A, c, os, n, hk, rfl, rfl, HFS, HS, rfl⟩ := hrel
    by_cases hlt : k < ts.length
    · obtain ⟨b, o, hAb, hb, hv⟩ := HA.out.2 (by omega)
      subst hAb
      have hmk : m ≤ k := by
        have h1 := HS.out.faults.2.1
        have h2 := faults_len (l := l) (ts := ts) (k := k)
        rw [← HFS.out] at h2
        omega
      obtain ⟨c0, hns, c1, c2, c4, c5, A2, e2, c3, hS, hcap2⟩ := hv k hlt
      have HZ := hide (fun h => faults_zero (l := l) hlt h)
      have HM := hide (fun h => faults_more (l := l) hlt h)
      have HFI := hide (fun W (hbw : Below w.heap.size w W) => getOf_any B c' l ts[k].n W (HB.out.below hbw))
      have HSA := hide hS
      have hm3 := hS.1
      unfold maxLen at hm3
      clear hv hns HA hS hcap2 HTK
      cases hR : firstIdx (prIs l ts[k].n) l.length with
      | some q =>
        have hq := (firstIdx_lt hR).1
        have hE := faultErr_some hR hq
        obtain ⟨b2, o2, hBb, hb2, hv2⟩ := HB.out.2 (by omega)
        subst hBb
        obtain ⟨d0, -, d1, d2, d3, d4, A4, e4, d5, hL⟩ := (hv2 q hq).cells
        have hL1 := hL.1
        have HCS := hide (fun W (hbw : Below w.heap.size w W) => containsS_any A2 e2 ts[k].ch l[q].v.s ts[k].ch.length W rfl (HSA.out.below hbw))
        have hcs := ts[k].fault_cases l[q].v
        rw [← hE] at hcs
        unfold maxLen at hL1
        clear hv2 hL HB hE
        have HFI := hide (fun W (hbw : Below w.heap.size w W) => (HFI.out W hbw).mono (fun e w' h => getOut_some h hR hq))
        clear hR
        generalize faultErr l ts[k] = E at *
        generalize hasS ts[k].ch l[q].v.s = HB at *
        generalize ts[k] = y at *
        obtain ⟨tn, tk, tb, tc, tl, th⟩ := y
        generalize l[q] = x at *
        obtain ⟨xn, ⟨xk, xi, xt, xs, xl⟩⟩ := x
        simp only [V.arg, V.k, V.i, V.t, V.s, V.l] at *
        rcases hcs with ⟨h, rfl⟩ | ⟨rfl, ⟨h3, ⟨hz, rfl⟩ | ⟨hz, ⟨hB, rfl⟩ | ⟨hB, rfl⟩⟩⟩ | ⟨h2, ⟨h0, h1, rfl⟩ | ⟨h0, hcs⟩⟩ | ⟨h3, h2, rfl⟩⟩
        · have i1 : (xk != tk) = true := bne_iff_ne.2 h
          have hz : (10 : Int) ≠ 0 := by decide
          go_wp2_with (first | (go_at_call 18; refine (HFI.out _ ?hbw).mono ?_; (case hbw => repeat (first | exact Below.refl _ _ | refine bl_plus ?_ | refine bl_alloc ?_ _ | refine bl_drew ?_ | refine bl_drewN ?_ _)); rintro e w' ⟨A3, c3, rfl, hbl⟩; obtain ⟨os3, n3, rfl⟩ := below_plus hbl; clear hbl) | (go_at_call 19; refine (HCS.out _ ?hbw).mono ?_; (case hbw => repeat (first | exact Below.refl _ _ | refine bl_plus ?_ | refine bl_alloc ?_ _ | refine bl_drew ?_ | refine bl_drewN ?_ _)); rintro e w' ⟨rfl, rfl⟩) | (at_builtin; refine wpList_append_k rfl (.tmp 101) (.tmp 106) rfl rfl Tryd.underlying24 HIP.out.1 HIP.out.2.1 HIP.out.2.2.1 (by decide) rfl (by have := HIP.out.2.2.2; omega) w.heap.size m (.slice A m c) (flatF fs) [.string tn, .int .i64 10] _ rfl (by repeat (first | with_reducible exact HS.out | with_reducible refine OwnK.alloc ?_ _ | with_reducible refine OwnK.plus ?_ _ _ | with_reducible refine OwnK.drew ?_)) rfl (by intro u hu; simp only [List.mem_cons, List.not_mem_nil, or_false] at hu; rcases hu with rfl | rfl <;> rfl) rfl (new2_at (by simp only [World.size_alloc, plus_size, World.drew])) (by omega) (by simp only [World.size_alloc, plus_size, World.drew]; omega) ?_; intro v' w1 hown1 hgr1 hfr1; obtain ⟨os9, n9, rfl⟩ := grown_plus (L := w) (by repeat (first | exact Below.refl _ _ | refine bl_plus ?_ | refine bl_alloc ?_ _ | refine bl_drew ?_ | refine bl_drewN ?_ _)) hgr1 (fun q hq => (HS.out.lt q hq).1); obtain ⟨A1, c1, rfl, _⟩ := hown1.form; have HN := hide hown1; clear hown1 hgr1 hfr1))
          go_roundw
          case rel => exact ⟨k + 1, m + 1, fs ++ [(tn, 10)], A1, c1, _, _, hlt, by go_num, rfl, hide (by rw [HM.out hz, ← HFS.out]), hide (by rw [flatF_append]; exact HN.out), rfl⟩
          case measure => simp [intOf]; omega
        · subst h3
          have i1 : decide (0 < tc.length) = false := decide_eq_false (by omega)
          clear hz
          go_wp2_with (first | (go_at_call 18; refine (HFI.out _ ?hbw).mono ?_; (case hbw => repeat (first | exact Below.refl _ _ | refine bl_plus ?_ | refine bl_alloc ?_ _ | refine bl_drew ?_ | refine bl_drewN ?_ _)); rintro e w' ⟨A3, c3, rfl, hbl⟩; obtain ⟨os3, n3, rfl⟩ := below_plus hbl; clear hbl) | (go_at_call 19; refine (HCS.out _ ?hbw).mono ?_; (case hbw => repeat (first | exact Below.refl _ _ | refine bl_plus ?_ | refine bl_alloc ?_ _ | refine bl_drew ?_ | refine bl_drewN ?_ _)); rintro e w' ⟨rfl, rfl⟩))
          go_roundw
          case rel => exact ⟨k + 1, m, fs, A, c, _, _, hlt, by go_num, rfl, hide ((HZ.out (by trivial)).symm ▸ HFS.out), hide (by repeat (first | with_reducible exact HS.out | with_reducible refine OwnK.alloc ?_ _ | with_reducible refine OwnK.plus ?_ _ _ | with_reducible refine OwnK.drew ?_)), by first | rfl | (simp only [plus_alloc, plus_plus, plus_drewN, plus_drew]; rfl)⟩
          case measure => simp [intOf]; omega
        · subst h3 hB
          have i1 : decide (0 < tc.length) = true := decide_eq_true hz
          clear hz
          have hz : (3 : Int) ≠ 0 := by decide
          go_wp2_with (first | (go_at_call 18; refine (HFI.out _ ?hbw).mono ?_; (case hbw => repeat (first | exact Below.refl _ _ | refine bl_plus ?_ | refine bl_alloc ?_ _ | refine bl_drew ?_ | refine bl_drewN ?_ _)); rintro e w' ⟨A3, c3, rfl, hbl⟩; obtain ⟨os3, n3, rfl⟩ := below_plus hbl; clear hbl) | (go_at_call 19; refine (HCS.out _ ?hbw).mono ?_; (case hbw => repeat (first | exact Below.refl _ _ | refine bl_plus ?_ | refine bl_alloc ?_ _ | refine bl_drew ?_ | refine bl_drewN ?_ _)); rintro e w' ⟨rfl, rfl⟩) | (at_builtin; refine wpList_append_k rfl (.tmp 101) (.tmp 106) rfl rfl Tryd.underlying24 HIP.out.1 HIP.out.2.1 HIP.out.2.2.1 (by decide) rfl (by have := HIP.out.2.2.2; omega) w.heap.size m (.slice A m c) (flatF fs) [.string tn, .int .i64 3] _ rfl (by repeat (first | with_reducible exact HS.out | with_reducible refine OwnK.alloc ?_ _ | with_reducible refine OwnK.plus ?_ _ _ | with_reducible refine OwnK.drew ?_)) rfl (by intro u hu; simp only [List.mem_cons, List.not_mem_nil, or_false] at hu; rcases hu with rfl | rfl <;> rfl) rfl (new2_at (by simp only [World.size_alloc, plus_size, World.drew])) (by omega) (by simp only [World.size_alloc, plus_size, World.drew]; omega) ?_; intro v' w1 hown1 hgr1 hfr1; obtain ⟨os9, n9, rfl⟩ := grown_plus (L := w) (by repeat (first | exact Below.refl _ _ | refine bl_plus ?_ | refine bl_alloc ?_ _ | refine bl_drew ?_ | refine bl_drewN ?_ _)) hgr1 (fun q hq => (HS.out.lt q hq).1); obtain ⟨A1, c1, rfl, _⟩ := hown1.form; have HN := hide hown1; clear hown1 hgr1 hfr1))
          go_roundw
          case rel => exact ⟨k + 1, m + 1, fs ++ [(tn, 3)], A1, c1, _, _, hlt, by go_num, rfl, hide (by rw [HM.out hz, ← HFS.out]), hide (by rw [flatF_append]; exact HN.out), rfl⟩
          case measure => simp [intOf]; omega
        · subst h3 hB
          have i1 : decide (0 < tc.length) = true := decide_eq_true hz
          clear hz
          go_wp2_with (first | (go_at_call 18; refine (HFI.out _ ?hbw).mono ?_; (case hbw => repeat (first | exact Below.refl _ _ | refine bl_plus ?_ | refine bl_alloc ?_ _ | refine bl_drew ?_ | refine bl_drewN ?_ _)); rintro e w' ⟨A3, c3, rfl, hbl⟩; obtain ⟨os3, n3, rfl⟩ := below_plus hbl; clear hbl) | (go_at_call 19; refine (HCS.out _ ?hbw).mono ?_; (case hbw => repeat (first | exact Below.refl _ _ | refine bl_plus ?_ | refine bl_alloc ?_ _ | refine bl_drew ?_ | refine bl_drewN ?_ _)); rintro e w' ⟨rfl, rfl⟩))
          go_roundw
          case rel => exact ⟨k + 1, m, fs, A, c, _, _, hlt, by go_num, rfl, hide ((HZ.out (by trivial)).symm ▸ HFS.out), hide (by repeat (first | with_reducible exact HS.out | with_reducible refine OwnK.alloc ?_ _ | with_reducible refine OwnK.plus ?_ _ _ | with_reducible refine OwnK.drew ?_)), by first | rfl | (simp only [plus_alloc, plus_plus, plus_drewN, plus_drew]; rfl)⟩
          case measure => simp [intOf]; omega
        · subst h2 h0 h1
          go_wp2_with (first | (go_at_call 18; refine (HFI.out _ ?hbw).mono ?_; (case hbw => repeat (first | exact Below.refl _ _ | refine bl_plus ?_ | refine bl_alloc ?_ _ | refine bl_drew ?_ | refine bl_drewN ?_ _)); rintro e w' ⟨A3, c3, rfl, hbl⟩; obtain ⟨os3, n3, rfl⟩ := below_plus hbl; clear hbl) | (go_at_call 19; refine (HCS.out _ ?hbw).mono ?_; (case hbw => repeat (first | exact Below.refl _ _ | refine bl_plus ?_ | refine bl_alloc ?_ _ | refine bl_drew ?_ | refine bl_drewN ?_ _)); rintro e w' ⟨rfl, rfl⟩))
          go_roundw
          case rel => exact ⟨k + 1, m, fs, A, c, _, _, hlt, by go_num, rfl, hide ((HZ.out (by trivial)).symm ▸ HFS.out), hide (by repeat (first | with_reducible exact HS.out | with_reducible refine OwnK.alloc ?_ _ | with_reducible refine OwnK.plus ?_ _ _ | with_reducible refine OwnK.drew ?_)), by first | rfl | (simp only [plus_alloc, plus_plus, plus_drewN, plus_drew]; rfl)⟩
          case measure => simp [intOf]; omega
        · subst h2
          rcases h0 with h0 | ⟨h0, h1⟩
          · have i1 : (tl != 0) = true := bne_iff_ne.2 h0
            rcases hcs with ⟨h4, rfl⟩ | ⟨h4, h5, rfl⟩ | ⟨h4, h5, rfl⟩
            · have i2 : decide (xi < tl) = true := decide_eq_true h4
              have hz : (2 : Int) ≠ 0 := by decide
              go_wp2_with (first | (go_at_call 18; refine (HFI.out _ ?hbw).mono ?_; (case hbw => repeat (first | exact Below.refl _ _ | refine bl_plus ?_ | refine bl_alloc ?_ _ | refine bl_drew ?_ | refine bl_drewN ?_ _)); rintro e w' ⟨A3, c3, rfl, hbl⟩; obtain ⟨os3, n3, rfl⟩ := below_plus hbl; clear hbl) | (go_at_call 19; refine (HCS.out _ ?hbw).mono ?_; (case hbw => repeat (first | exact Below.refl _ _ | refine bl_plus ?_ | refine bl_alloc ?_ _ | refine bl_drew ?_ | refine bl_drewN ?_ _)); rintro e w' ⟨rfl, rfl⟩) | (at_builtin; refine wpList_append_k rfl (.tmp 101) (.tmp 106) rfl rfl Tryd.underlying24 HIP.out.1 HIP.out.2.1 HIP.out.2.2.1 (by decide) rfl (by have := HIP.out.2.2.2; omega) w.heap.size m (.slice A m c) (flatF fs) [.string tn, .int .i64 2] _ rfl (by repeat (first | with_reducible exact HS.out | with_reducible refine OwnK.alloc ?_ _ | with_reducible refine OwnK.plus ?_ _ _ | with_reducible refine OwnK.drew ?_)) rfl (by intro u hu; simp only [List.mem_cons, List.not_mem_nil, or_false] at hu; rcases hu with rfl | rfl <;> rfl) rfl (new2_at (by simp only [World.size_alloc, plus_size, World.drew])) (by omega) (by simp only [World.size_alloc, plus_size, World.drew]; omega) ?_; intro v' w1 hown1 hgr1 hfr1; obtain ⟨os9, n9, rfl⟩ := grown_plus (L := w) (by repeat (first | exact Below.refl _ _ | refine bl_plus ?_ | refine bl_alloc ?_ _ | refine bl_drew ?_ | refine bl_drewN ?_ _)) hgr1 (fun q hq => (HS.out.lt q hq).1); obtain ⟨A1, c1, rfl, _⟩ := hown1.form; have HN := hide hown1; clear hown1 hgr1 hfr1))
              go_roundw
              case rel => exact ⟨k + 1, m + 1, fs ++ [(tn, 2)], A1, c1, _, _, hlt, by go_num, rfl, hide (by rw [HM.out hz, ← HFS.out]), hide (by rw [flatF_append]; exact HN.out), rfl⟩
              case measure => simp [intOf]; omega
            · have i2 : decide (xi < tl) = false := decide_eq_false (by omega)
              have i3 : decide (th < xi) = true := decide_eq_true h5
              have hz : (2 : Int) ≠ 0 := by decide
              go_wp2_with (first | (go_at_call 18; refine (HFI.out _ ?hbw).mono ?_; (case hbw => repeat (first | exact Below.refl _ _ | refine bl_plus ?_ | refine bl_alloc ?_ _ | refine bl_drew ?_ | refine bl_drewN ?_ _)); rintro e w' ⟨A3, c3, rfl, hbl⟩; obtain ⟨os3, n3, rfl⟩ := below_plus hbl; clear hbl) | (go_at_call 19; refine (HCS.out _ ?hbw).mono ?_; (case hbw => repeat (first | exact Below.refl _ _ | refine bl_plus ?_ | refine bl_alloc ?_ _ | refine bl_drew ?_ | refine bl_drewN ?_ _)); rintro e w' ⟨rfl, rfl⟩) | (at_builtin; refine wpList_append_k rfl (.tmp 101) (.tmp 106) rfl rfl Tryd.underlying24 HIP.out.1 HIP.out.2.1 HIP.out.2.2.1 (by decide) rfl (by have := HIP.out.2.2.2; omega) w.heap.size m (.slice A m c) (flatF fs) [.string tn, .int .i64 2] _ rfl (by repeat (first | with_reducible exact HS.out | with_reducible refine OwnK.alloc ?_ _ | with_reducible refine OwnK.plus ?_ _ _ | with_reducible refine OwnK.drew ?_)) rfl (by intro u hu; simp only [List.mem_cons, List.not_mem_nil, or_false] at hu; rcases hu with rfl | rfl <;> rfl) rfl (new2_at (by simp only [World.size_alloc, plus_size, World.drew])) (by omega) (by simp only [World.size_alloc, plus_size, World.drew]; omega) ?_; intro v' w1 hown1 hgr1 hfr1; obtain ⟨os9, n9, rfl⟩ := grown_plus (L := w) (by repeat (first | exact Below.refl _ _ | refine bl_plus ?_ | refine bl_alloc ?_ _ | refine bl_drew ?_ | refine bl_drewN ?_ _)) hgr1 (fun q hq => (HS.out.lt q hq).1); obtain ⟨A1, c1, rfl, _⟩ := hown1.form; have HN := hide hown1; clear hown1 hgr1 hfr1))
              go_roundw
              case rel => exact ⟨k + 1, m + 1, fs ++ [(tn, 2)], A1, c1, _, _, hlt, by go_num, rfl, hide (by rw [HM.out hz, ← HFS.out]), hide (by rw [flatF_append]; exact HN.out), rfl⟩
              case measure => simp [intOf]; omega
            · have i2 : decide (xi < tl) = false := decide_eq_false (by omega)
              have i3 : decide (th < xi) = false := decide_eq_false (by omega)
              go_wp2_with (first | (go_at_call 18; refine (HFI.out _ ?hbw).mono ?_; (case hbw => repeat (first | exact Below.refl _ _ | refine bl_plus ?_ | refine bl_alloc ?_ _ | refine bl_drew ?_ | refine bl_drewN ?_ _)); rintro e w' ⟨A3, c3, rfl, hbl⟩; obtain ⟨os3, n3, rfl⟩ := below_plus hbl; clear hbl) | (go_at_call 19; refine (HCS.out _ ?hbw).mono ?_; (case hbw => repeat (first | exact Below.refl _ _ | refine bl_plus ?_ | refine bl_alloc ?_ _ | refine bl_drew ?_ | refine bl_drewN ?_ _)); rintro e w' ⟨rfl, rfl⟩))
              go_roundw
              case rel => exact ⟨k + 1, m, fs, A, c, _, _, hlt, by go_num, rfl, hide ((HZ.out (by trivial)).symm ▸ HFS.out), hide (by repeat (first | with_reducible exact HS.out | with_reducible refine OwnK.alloc ?_ _ | with_reducible refine OwnK.plus ?_ _ _ | with_reducible refine OwnK.drew ?_)), by first | rfl | (simp only [plus_alloc, plus_plus, plus_drewN, plus_drew]; rfl)⟩
              case measure => simp [intOf]; omega
          · subst h0
            have i1 : (th != 0) = true := bne_iff_ne.2 h1
            rcases hcs with ⟨h4, rfl⟩ | ⟨h4, h5, rfl⟩ | ⟨h4, h5, rfl⟩
            · have i2 : decide (xi < 0) = true := decide_eq_true h4
              have hz : (2 : Int) ≠ 0 := by decide
              go_wp2_with (first | (go_at_call 18; refine (HFI.out _ ?hbw).mono ?_; (case hbw => repeat (first | exact Below.refl _ _ | refine bl_plus ?_ | refine bl_alloc ?_ _ | refine bl_drew ?_ | refine bl_drewN ?_ _)); rintro e w' ⟨A3, c3, rfl, hbl⟩; obtain ⟨os3, n3, rfl⟩ := below_plus hbl; clear hbl) | (go_at_call 19; refine (HCS.out _ ?hbw).mono ?_; (case hbw => repeat (first | exact Below.refl _ _ | refine bl_plus ?_ | refine bl_alloc ?_ _ | refine bl_drew ?_ | refine bl_drewN ?_ _)); rintro e w' ⟨rfl, rfl⟩) | (at_builtin; refine wpList_append_k rfl (.tmp 101) (.tmp 106) rfl rfl Tryd.underlying24 HIP.out.1 HIP.out.2.1 HIP.out.2.2.1 (by decide) rfl (by have := HIP.out.2.2.2; omega) w.heap.size m (.slice A m c) (flatF fs) [.string tn, .int .i64 2] _ rfl (by repeat (first | with_reducible exact HS.out | with_reducible refine OwnK.alloc ?_ _ | with_reducible refine OwnK.plus ?_ _ _ | with_reducible refine OwnK.drew ?_)) rfl (by intro u hu; simp only [List.mem_cons, List.not_mem_nil, or_false] at hu; rcases hu with rfl | rfl <;> rfl) rfl (new2_at (by simp only [World.size_alloc, plus_size, World.drew])) (by omega) (by simp only [World.size_alloc, plus_size, World.drew]; omega) ?_; intro v' w1 hown1 hgr1 hfr1; obtain ⟨os9, n9, rfl⟩ := grown_plus (L := w) (by repeat (first | exact Below.refl _ _ | refine bl_plus ?_ | refine bl_alloc ?_ _ | refine bl_drew ?_ | refine bl_drewN ?_ _)) hgr1 (fun q hq => (HS.out.lt q hq).1); obtain ⟨A1, c1, rfl, _⟩ := hown1.form; have HN := hide hown1; clear hown1 hgr1 hfr1))
              go_roundw
              case rel => exact ⟨k + 1, m + 1, fs ++ [(tn, 2)], A1, c1, _, _, hlt, by go_num, rfl, hide (by rw [HM.out hz, ← HFS.out]), hide (by rw [flatF_append]; exact HN.out), rfl⟩
              case measure => simp [intOf]; omega
            · have i2 : decide (xi < 0) = false := decide_eq_false (by omega)
              have i3 : decide (th < xi) = true := decide_eq_true h5
              have hz : (2 : Int) ≠ 0 := by decide
              go_wp2_with (first | (go_at_call 18; refine (HFI.out _ ?hbw).mono ?_; (case hbw => repeat (first | exact Below.refl _ _ | refine bl_plus ?_ | refine bl_alloc ?_ _ | refine bl_drew ?_ | refine bl_drewN ?_ _)); rintro e w' ⟨A3, c3, rfl, hbl⟩; obtain ⟨os3, n3, rfl⟩ := below_plus hbl; clear hbl) | (go_at_call 19; refine (HCS.out _ ?hbw).mono ?_; (case hbw => repeat (first | exact Below.refl _ _ | refine bl_plus ?_ | refine bl_alloc ?_ _ | refine bl_drew ?_ | refine bl_drewN ?_ _)); rintro e w' ⟨rfl, rfl⟩) | (at_builtin; refine wpList_append_k rfl (.tmp 101) (.tmp 106) rfl rfl Tryd.underlying24 HIP.out.1 HIP.out.2.1 HIP.out.2.2.1 (by decide) rfl (by have := HIP.out.2.2.2; omega) w.heap.size m (.slice A m c) (flatF fs) [.string tn, .int .i64 2] _ rfl (by repeat (first | with_reducible exact HS.out | with_reducible refine OwnK.alloc ?_ _ | with_reducible refine OwnK.plus ?_ _ _ | with_reducible refine OwnK.drew ?_)) rfl (by intro u hu; simp only [List.mem_cons, List.not_mem_nil, or_false] at hu; rcases hu with rfl | rfl <;> rfl) rfl (new2_at (by simp only [World.size_alloc, plus_size, World.drew])) (by omega) (by simp only [World.size_alloc, plus_size, World.drew]; omega) ?_; intro v' w1 hown1 hgr1 hfr1; obtain ⟨os9, n9, rfl⟩ := grown_plus (L := w) (by repeat (first | exact Below.refl _ _ | refine bl_plus ?_ | refine bl_alloc ?_ _ | refine bl_drew ?_ | refine bl_drewN ?_ _)) hgr1 (fun q hq => (HS.out.lt q hq).1); obtain ⟨A1, c1, rfl, _⟩ := hown1.form; have HN := hide hown1; clear hown1 hgr1 hfr1))
              go_roundw
              case rel => exact ⟨k + 1, m + 1, fs ++ [(tn, 2)], A1, c1, _, _, hlt, by go_num, rfl, hide (by rw [HM.out hz, ← HFS.out]), hide (by rw [flatF_append]; exact HN.out), rfl⟩
              case measure => simp [intOf]; omega
            · have i2 : decide (xi < 0) = false := decide_eq_false (by omega)
              have i3 : decide (th < xi) = false := decide_eq_false (by omega)
              go_wp2_with (first | (go_at_call 18; refine (HFI.out _ ?hbw).mono ?_; (case hbw => repeat (first | exact Below.refl _ _ | refine bl_plus ?_ | refine bl_alloc ?_ _ | refine bl_drew ?_ | refine bl_drewN ?_ _)); rintro e w' ⟨A3, c3, rfl, hbl⟩; obtain ⟨os3, n3, rfl⟩ := below_plus hbl; clear hbl) | (go_at_call 19; refine (HCS.out _ ?hbw).mono ?_; (case hbw => repeat (first | exact Below.refl _ _ | refine bl_plus ?_ | refine bl_alloc ?_ _ | refine bl_drew ?_ | refine bl_drewN ?_ _)); rintro e w' ⟨rfl, rfl⟩))
              go_roundw
              case rel => exact ⟨k + 1, m, fs, A, c, _, _, hlt, by go_num, rfl, hide ((HZ.out (by trivial)).symm ▸ HFS.out), hide (by repeat (first | with_reducible exact HS.out | with_reducible refine OwnK.alloc ?_ _ | with_reducible refine OwnK.plus ?_ _ _ | with_reducible refine OwnK.drew ?_)), by first | rfl | (simp only [plus_alloc, plus_plus, plus_drewN, plus_drew]; rfl)⟩
              case measure => simp [intOf]; omega
        · have i1 : (xk == 3) = false := beq_eq_false_iff_ne.2 h3
          have i2 : (xk == 2) = false := beq_eq_false_iff_ne.2 h2
          go_wp2_with (first | (go_at_call 18; refine (HFI.out _ ?hbw).mono ?_; (case hbw => repeat (first | exact Below.refl _ _ | refine bl_plus ?_ | refine bl_alloc ?_ _ | refine bl_drew ?_ | refine bl_drewN ?_ _)); rintro e w' ⟨A3, c3, rfl, hbl⟩; obtain ⟨os3, n3, rfl⟩ := below_plus hbl; clear hbl) | (go_at_call 19; refine (HCS.out _ ?hbw).mono ?_; (case hbw => repeat (first | exact Below.refl _ _ | refine bl_plus ?_ | refine bl_alloc ?_ _ | refine bl_drew ?_ | refine bl_drewN ?_ _)); rintro e w' ⟨rfl, rfl⟩))
          go_roundw
          case rel => exact ⟨k + 1, m, fs, A, c, _, _, hlt, by go_num, rfl, hide ((HZ.out (by trivial)).symm ▸ HFS.out), hide (by repeat (first | with_reducible exact HS.out | with_reducible refine OwnK.alloc ?_ _ | with_reducible refine OwnK.plus ?_ _ _ | with_reducible refine OwnK.drew ?_)), by first | rfl | (simp only [plus_alloc, plus_plus, plus_drewN, plus_drew]; rfl)⟩
          case measure => simp [intOf]; omega
      | none =>
        have hE := faultErr_none hR
        have HFI := hide (fun W (hbw : Below w.heap.size w W) => (HFI.out W hbw).mono (fun e w' h => getOut_none h hR))
        clear HB hR
        generalize faultErr l ts[k] = E at *
        generalize ts[k] = y at *
        obtain ⟨tn, tk, tb, tc, tl, th⟩ := y
        simp only [] at *
        cases tb with
        | true =>
          have hE7 : E = 7 := by rw [hE, if_pos rfl]
          have hz : E ≠ 0 := by rw [hE7]; decide
          subst hE7
          clear hE
          go_wp2_with (first | (go_at_call 18; refine (HFI.out _ ?hbw).mono ?_; (case hbw => repeat (first | exact Below.refl _ _ | refine bl_plus ?_ | refine bl_alloc ?_ _ | refine bl_drew ?_ | refine bl_drewN ?_ _)); rintro e w' ⟨rfl, hbl⟩; obtain ⟨os3, n3, rfl⟩ := below_plus hbl; clear hbl) | (at_builtin; refine wpList_append_k rfl (.tmp 101) (.tmp 106) rfl rfl Tryd.underlying24 HIP.out.1 HIP.out.2.1 HIP.out.2.2.1 (by decide) rfl (by have := HIP.out.2.2.2; omega) w.heap.size m (.slice A m c) (flatF fs) [.string tn, .int .i64 7] _ rfl (by repeat (first | with_reducible exact HS.out | with_reducible refine OwnK.alloc ?_ _ | with_reducible refine OwnK.plus ?_ _ _ | with_reducible refine OwnK.drew ?_)) rfl (by intro u hu; simp only [List.mem_cons, List.not_mem_nil, or_false] at hu; rcases hu with rfl | rfl <;> rfl) rfl (new2_at (by simp only [World.size_alloc, plus_size, World.drew])) (by omega) (by simp only [World.size_alloc, plus_size, World.drew]; omega) ?_; intro v' w1 hown1 hgr1 hfr1; obtain ⟨os9, n9, rfl⟩ := grown_plus (L := w) (by repeat (first | exact Below.refl _ _ | refine bl_plus ?_ | refine bl_alloc ?_ _ | refine bl_drew ?_ | refine bl_drewN ?_ _)) hgr1 (fun q hq => (HS.out.lt q hq).1); obtain ⟨A1, c1, rfl, _⟩ := hown1.form; have HN := hide hown1; clear hown1 hgr1 hfr1))
          go_roundw
          case rel => exact ⟨k + 1, m + 1, fs ++ [(tn, 7)], A1, c1, _, _, hlt, by go_num, rfl, hide (by rw [HM.out hz, ← HFS.out]), hide (by rw [flatF_append]; exact HN.out), rfl⟩
          case measure => simp [intOf]; omega
        | false =>
          have hE0 : E = 0 := by rw [hE, if_neg Bool.false_ne_true]
          subst hE0
          clear hE
          go_wp2_with (go_at_call 18; refine (HFI.out _ ?hbw).mono ?_; (case hbw => repeat (first | exact Below.refl _ _ | refine bl_plus ?_ | refine bl_alloc ?_ _ | refine bl_drew ?_ | refine bl_drewN ?_ _)); rintro e w' ⟨rfl, hbl⟩; obtain ⟨os3, n3, rfl⟩ := below_plus hbl; clear hbl)
          go_roundw
          case rel => exact ⟨k + 1, m, fs, A, c, _, _, hlt, by go_num, rfl, hide ((HZ.out (by trivial)).symm ▸ HFS.out), hide (by repeat (first | with_reducible exact HS.out | with_reducible refine OwnK.alloc ?_ _ | with_reducible refine OwnK.plus ?_ _ _ | with_reducible refine OwnK.drew ?_)), by first | rfl | (simp only [plus_alloc, plus_plus, plus_drewN, plus_drew]; rfl)⟩
          case measure => simp [intOf]; omega
    · have hkl : k = ts.length := by omega
      have hRR := HTK.out k hkl
      subst hkl
      rw [← HFS.out] at hRR
      subst hRR
      obtain ⟨hmn, hfl, hmc, hcm, hnil, hoff, hat⟩ := HS.out.faults
      subst hfl
      clear HS HFS HTK HA HB
      have HAT := hide hat
      clear hat hmc hcm hnil hoff
      go_wp2
      go_ret2
      first
        | exact ⟨A, ⟨c, rfl⟩, HAT.out, (by repeat (first | exact Below.refl _ _ | refine bl_plus ?_ | refine bl_alloc ?_ _ | refine bl_drew ?_ | refine bl_drewN ?_ _))⟩
        | exact ⟨A, c, rfl, HAT.out, (by repeat (first | exact Below.refl _ _ | refine bl_plus ?_ | refine bl_alloc ?_ _ | refine bl_drew ?_ | refine bl_drewN ?_ _))⟩

end Go.Proofs.YtpbkidjbbhkjnaaDoor
