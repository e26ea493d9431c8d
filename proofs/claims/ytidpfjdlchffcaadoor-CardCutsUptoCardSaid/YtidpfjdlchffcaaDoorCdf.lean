/-
  WALK: the cards of gaps, in the reference.
-/
import Derived.Test.YtidpfjdlchffcaaDoorCde
set_option linter.all false
namespace Go.Proofs.YtidpfjdlchffcaaDoor
open Go.RowKit

def flat2 (l : List GP) : List Value := l.flatMap fun g => [.int .i64 g.f, .int .i64 g.u]

theorem flat2_snoc (l : List GP) (g : GP) : flat2 (l ++ [g]) = flat2 l ++ [.int .i64 g.f, .int .i64 g.u] := by simp [flat2]

theorem info_two : (Tryd.prog.info? 78).map (fun i => (i.zero, i.size, i.bytes)) = some (some (.agg #[.int .i64 0, .int .i64 0]), 2, 16) := by kernel_rfl

/-- The row of a gaps' ends. -/
theorem own2_at {w : World} {base c : Nat} {A : Option Addr} {gs : List GP} (h : OwnK 2 78 w base (.slice A gs.length c) gs.length (flat2 gs)) : 0 < gs.length → ∃ g, A = some ⟨g, 0, none⟩ ∧ g < w.heap.size ∧ ∀ j (hj : j < gs.length), w.cell? ⟨g, j * 2, none⟩ = some (.int .i64 gs[j].f) ∧ w.cell? ⟨g, j * 2 + 1, none⟩ = some (.int .i64 gs[j].u) := fun hl => by
  obtain ⟨g, c', hv, -, hlt, hc⟩ := ownK_cell h hl
  injection hv with e1 e2 e3
  subst e1
  refine ⟨g, rfl, hlt, fun j hj => ?_⟩
  have key : ∀ i u, i < 2 → ([Value.int .i64 gs[j].f, .int .i64 gs[j].u])[i]? = some u → w.cell? ⟨g, j * 2 + i, none⟩ = some u := fun i u hi hu => hc _ _ ((flat_at (fun g : GP => [Value.int .i64 g.f, .int .i64 g.u]) 2 (fun _ => rfl) gs j hj i hi).trans hu)
  exact ⟨key 0 _ (by omega) rfl, key 1 _ (by omega) rfl⟩

/-- What lies between a gap's ends. -/
theorem gaps_in (s : ByteArray) : ∀ (f i : Nat), ∀ g ∈ gapsF s f i, g.t = cut1 (s.extract (g.f + 2) (g.u - 2)) ∧ g.h = cut2 (s.extract (g.f + 2) (g.u - 2)) ∧ g.b = cut3 (s.extract (g.f + 2) (g.u - 2))
  | 0, i, g, hg => by unfold gapsF at hg; cases hg
  | f + 1, i, g, hg => by
    unfold gapsF at hg
    split at hg
    · cases he : gapE s i with
      | none => rw [he] at hg; exact gaps_in s f (i + 1) g hg
      | some e =>
        rw [he] at hg
        rcases List.mem_cons.1 hg with rfl | hg
        · exact ⟨rfl, rfl, rfl⟩
        · exact gaps_in s f (e + 2) g hg
    · cases hg

theorem ext_two (s : ByteArray) (i : Nat) (h : i + 1 < s.size) : (s.extract i (i + 2)).data.toList = [s[i], s[i + 1]] := by
  rw [Lib.extract_data, drop_at s (show i < s.size by omega), drop_at s h, show i + 2 - i = 2 by omega]
  rfl

theorem ext_pre2 (s : ByteArray) (i : Nat) (h : i + 1 < s.size) : ((s.extract i (i + 2)).toList == [123, 123]) = pre2 s i 123 := by
  rw [Lib.toList_data, ext_two s i h]
  unfold pre2
  rw [dif_pos h]
  have h1 := u8_eq (a := s[i]) (c := 123) (by decide)
  have h2 := u8_eq (a := s[i + 1]) (c := 123) (by decide)
  rw [← h1, ← h2]
  simp only [List.cons_beq_cons, List.nil_beq_eq, List.isEmpty_nil, Bool.and_true]
  rfl

def bkOf (gs : List GP) (n j : Nat) : ByteArray := if j ≤ n then ⟨#[]⟩ else match gs[n]? with | some g => g.t | none => ⟨#[]⟩

theorem bk_zero (gs : List GP) (n : Nat) : bkOf gs n 0 = ⟨#[]⟩ := by unfold bkOf; rw [if_pos (Nat.zero_le _)]

theorem bk_same {gs : List GP} {n j : Nat} (h : ¬ j = n) : bkOf gs n (j + 1) = bkOf gs n j := by
  unfold bkOf
  by_cases h1 : j ≤ n
  · rw [if_pos h1, if_pos (by omega)]
  · rw [if_neg h1, if_neg (by omega)]

theorem bk_put {gs : List GP} {n j : Nat} (h : n < gs.length) (hj : n < j) : bkOf gs n j = gs[n].t := by
  unfold bkOf
  rw [if_neg (by omega), List.getElem?_eq_getElem h]

theorem blk4 {w : World} {g : Nat} {t : TypeId} {v0 v1 v2 v3 : Value} (h : Blk w g t #[v0, v1, v2, v3]) : w.cell? ⟨g, 0, none⟩ = some v0 ∧ w.cell? ⟨g, 1, none⟩ = some v1 ∧ w.cell? ⟨g, 2, none⟩ = some v2 ∧ w.cell? ⟨g, 3, none⟩ = some v3 ∧ w.frozen? ⟨g, 2, none⟩ = false ∧ w.frozen? ⟨g, 3, none⟩ = false ∧ g < w.heap.size := ⟨h.cell 0, h.cell 1, h.cell 2, h.cell 3, h.frozen 2, h.frozen 3, h.lt⟩

set_option maxHeartbeats 12800000 in
set_option maxRecDepth 100000 in
theorem gapCards_any (s : ByteArray) (w : World) (hs : s.size ≤ 1100000) (hm : MaxTold w) :
    Calls Tryd.prog 17 #[.string s] w fun e w' => ∃ A c, e = Ending.returned (.slice A (cutGaps s).length c) ∧ OwnK 4 29 w' w.heap.size (.slice A (cutGaps s).length c) (cutGaps s).length (flatC (cutGaps s)) ∧ Below w.heap.size w w' := by
  have HPO : Hid (∀ A c w', OwnK 4 29 w' w.heap.size (.slice A (cutGaps s).length c) (cutGaps s).length (flatC (cutGaps s)) → Below w.heap.size w w' → (fun e w' => ∃ A c, e = Ending.returned (.slice A (cutGaps s).length c) ∧ OwnK 4 29 w' w.heap.size (.slice A (cutGaps s).length c) (cutGaps s).length (flatC (cutGaps s)) ∧ Below w.heap.size w w') (.returned (.slice A (cutGaps s).length c)) w') := hide fun A c w' h1 h2 => ⟨A, c, rfl, h1, h2⟩
  generalize (fun e w' => ∃ A c, e = Ending.returned (.slice A (cutGaps s).length c) ∧ OwnK 4 29 w' w.heap.size (.slice A (cutGaps s).length c) (cutGaps s).length (flatC (cutGaps s)) ∧ Below w.heap.size w w') = PO at *
  have HM := hide hm
  clear hm
  go_enter Tryd.func17, Tryd.ntmps17
  go_wp2
  go_loopw [3, 4] (fun sl i9 wr => ∃ (i : Nat) (acc : List GP) (A : Option Addr) (c : Nat), i ≤ s.size ∧ sl = .slice A acc.length c ∧ i9 = .int .i64 i ∧ Hid (OwnK 2 78 wr w.heap.size (.slice A acc.length c) acc.length (flat2 acc)) ∧ Hid (acc ++ gapsAt s i = gapsAt s 0) ∧ Hid (Below w.heap.size w wr) ∧ Hid (acc.length ≤ i)) (fun _ i9 _ => s.size - (intOf i9).toNat)
  case atStart => exact ⟨0, [], none, 0, Nat.zero_le _, rfl, rfl, hide OwnK.empty, hide (List.nil_append _), hide (by repeat (first | with_reducible exact Below.refl _ _ | with_reducible refine bl_plus ?_ | with_reducible refine bl_alloc ?_ _ | with_reducible refine bl_drew ?_ | with_reducible refine bl_drewN ?_ _)), hide (Nat.le_refl _)⟩
  case round =>
    obtain ⟨i, acc, A, c, hi, rfl, rfl, HOW, HAC, HB, HLN⟩ := hrel
    by_cases hlt : i + 1 < s.size
    · have i1 : (i : Int) + 1 < (s.size : Int) := by omega
      have HN2 := hide (fun (h : gapE s i = none) => (show acc ++ gapsAt s (i + 1) = gapsAt s 0 from by rw [← gapsAt_none (by omega) h]; exact HAC.out))
      have HEX := hide (ext_pre2 s i hlt)
      cases h1 : pre2 s i 123 with
      | false =>
        have HNX := hide (HN2.out (by unfold gapE; rw [h1]; rfl))
        have hex := HEX.out
        rw [h1] at hex
        clear HN2 HEX
        go_wp2
        go_roundw
        case rel => exact ⟨i + 1, acc, A, c, by omega, rfl, by go_num, HOW, HNX, HB, hide (by have := HLN.out; omega)⟩
        case measure => simp [intOf]; omega
      | true =>
        have hex := HEX.out
        rw [h1] at hex
        obtain ⟨E, hE⟩ : ∃ E, spEnd s (i + 2) = E := ⟨_, rfl⟩
        have hge : i + 2 ≤ E := hE ▸ spEnd_ge s (i + 2)
        have hle : E ≤ s.size := hE ▸ spEnd_le (s := s) (k := i + 2) (by omega)
        have HGE := hide (show gapE s i = if i + 2 < E ∧ pre2 s E 125 = true then some E else none from by unfold gapE; rw [h1, if_pos rfl, hE])
        have HE := hide hE
        have ie : (E : Int) ≤ (s.size : Int) := by omega
        clear HEX h1 hE
        go_wp2
        go_loopw [6] (fun k9 w2 => ∃ k : Nat, i + 2 ≤ k ∧ k ≤ s.size ∧ k9 = .int .i64 k ∧ w2 = wr ∧ Hid (spEnd s k = E)) (fun k9 _ => s.size - (intOf k9).toNat)
        case atStart => exact ⟨i + 2, Nat.le_refl _, by omega, by go_num, rfl, HE⟩
        case round =>
          obtain ⟨k, hk1, hk2, rfl, rfl, HK⟩ := hrel
          by_cases hk : k < s.size
          · have ik : (k : Int) < (s.size : Int) := by omega
            by_cases b1 : s[k].toNat = 123
            · have hb : notBr s[k] = false := by unfold notBr; rw [b1]; rfl
              obtain rfl : k = E := (spEnd_stop hk hb).symm.trans HK.out
              have c1 : ((s[k].toNat : Int) != 123) = false := by rw [b1]; rfl
              by_cases n0 : i + 2 < k
              · have e3 : (i : Int) + 2 < (k : Int) := by omega
                cases h2 : pre2 s k 125 with
                | false =>
                  have HNX := hide (HN2.out (by rw [HGE.out, if_neg (fun h => by rw [h2] at h; exact absurd h.2 Bool.false_ne_true)]))
                  have HHC1 := hide (fun W => by have := hasC_at s k W; rw [h2] at this; exact this)
                  clear h2
                  go_wp2_with (go_at_call 26; (refine (HHC1.out _).mono ?_); rintro e w' ⟨rfl, hw⟩; subst w')
                  go_roundw
                  case rel => exact ⟨i + 1, acc, A, c, by omega, rfl, by go_num, HOW, HNX, HB, hide (by have := HLN.out; omega)⟩
                  case measure => simp [intOf]; omega
                | true =>
                  have HHC1 := hide (fun W => by have := hasC_at s k W; rw [h2] at this; exact this)
                  have hl3 := pre2_lt h2
                  have HGS := hide (show gapE s i = some k from by rw [HGE.out, if_pos ⟨n0, h2⟩])
                  have HNX := hide (show (acc ++ [gpOf s i k]) ++ gapsAt s (k + 2) = gapsAt s 0 from by rw [List.append_assoc, List.singleton_append, ← gapsAt_some (by omega) HGS.out]; exact HAC.out)
                  have HLG := hide (show (acc ++ [gpOf s i k]).length = acc.length + 1 by simp)
                  obtain ⟨iP, hiP, hzP0, hzP1, hzP2⟩ := info_parts info_two
                  have HIP := hide (And.intro hiP (And.intro hzP0 (And.intro hzP1 hzP2)))
                  have HBG := hide (show (acc.length + 1) * iP.bytes ≤ 140737488355328 ∧ acc.length + 1 ≤ 140737488355328 by have h9 := HIP.out.2.2.2; rw [h9]; have := HLN.out; omega)
                  have HF2 := hide (show flat2 acc ++ [.int .i64 (i : Int), .int .i64 ((k : Int) + 2)] = flat2 (acc ++ [gpOf s i k]) from by rw [flat2_snoc, show (k : Int) + 2 = ((k + 2 : Nat) : Int) by omega]; rfl)
                  have HBZ := hide HB.out.size
                  have i9 : (k : Int) + 1 < (s.size : Int) := by omega
                  clear h2 hiP hzP0 hzP1 hzP2 HGS
                  go_wp2_with (first | (go_at_call 26; (refine (HHC1.out _).mono ?_); rintro e w' ⟨rfl, hw⟩; subst w') | (at_builtin; refine wpList_append_b rfl (.tmp 63) (.tmp 67) rfl rfl Tryd.underlying77 HIP.out.1 HIP.out.2.1 HIP.out.2.2.1 (by decide) rfl (by have := HIP.out.2.2.2; omega) w.heap.size acc.length (.slice A acc.length c) (flat2 acc) [.int .i64 (i : Int), .int .i64 ((k : Int) + 2)] _ rfl (ownK_alloc HOW.out _) rfl (by intro u hu; simp only [List.mem_cons, List.not_mem_nil, or_false] at hu; rcases hu with rfl | rfl <;> rfl) rfl (newN_cells (cs := [.int .i64 (i : Int), .int .i64 ((k : Int) + 2)]) rfl) HBG.out (by rw [World.size_alloc]; have := HBZ.out; omega) ?_; intro v' w8 hown8 hgr8 hfr8; obtain ⟨A7, c7, rfl, _⟩ := ownK_form hown8; have HB8 := hide ((bl_alloc HB.out (.cells #[.int .i64 (i : Int), .int .i64 ((k : Int) + 2)] 78)).grown hgr8 (by rw [World.size_alloc]; have := HBZ.out; omega) (fun k9 hk9 => (HOW.out.lt k9 hk9).1)); rw [← HLG.out, HF2.out] at hown8; have HOW8 := hide hown8; clear hown8 hgr8 hfr8))
                  go_roundw
                  case rel => exact ⟨k + 2, acc ++ [gpOf s i k], A7, c7, by omega, by rw [HLG.out], (by first | go_num | (congr 1; omega)), HOW8, HNX, HB8, hide (by rw [HLG.out]; have := HLN.out; omega)⟩
                  case measure => simp [intOf]; omega
              · have e3 : ¬ (i : Int) + 2 < (k : Int) := by omega
                have HNX := hide (HN2.out (by rw [HGE.out, if_neg (fun h => n0 h.1)]))
                go_wp2
                go_roundw
                case rel => exact ⟨i + 1, acc, A, c, by omega, rfl, by go_num, HOW, HNX, HB, hide (by have := HLN.out; omega)⟩
                case measure => simp [intOf]; omega
            · by_cases b2 : s[k].toNat = 125
              · have hb : notBr s[k] = false := by unfold notBr; rw [b2]; rfl
                obtain rfl : k = E := (spEnd_stop hk hb).symm.trans HK.out
                have c1 : ((s[k].toNat : Int) != 123) = true := by rw [b2]; rfl
                have c2 : ((s[k].toNat : Int) != 125) = false := by rw [b2]; rfl
                by_cases n0 : i + 2 < k
                · have e3 : (i : Int) + 2 < (k : Int) := by omega
                  cases h2 : pre2 s k 125 with
                  | false =>
                    have HNX := hide (HN2.out (by rw [HGE.out, if_neg (fun h => by rw [h2] at h; exact absurd h.2 Bool.false_ne_true)]))
                    have HHC1 := hide (fun W => by have := hasC_at s k W; rw [h2] at this; exact this)
                    clear h2
                    go_wp2_with (go_at_call 26; (refine (HHC1.out _).mono ?_); rintro e w' ⟨rfl, hw⟩; subst w')
                    go_roundw
                    case rel => exact ⟨i + 1, acc, A, c, by omega, rfl, by go_num, HOW, HNX, HB, hide (by have := HLN.out; omega)⟩
                    case measure => simp [intOf]; omega
                  | true =>
                    have HHC1 := hide (fun W => by have := hasC_at s k W; rw [h2] at this; exact this)
                    have hl3 := pre2_lt h2
                    have HGS := hide (show gapE s i = some k from by rw [HGE.out, if_pos ⟨n0, h2⟩])
                    have HNX := hide (show (acc ++ [gpOf s i k]) ++ gapsAt s (k + 2) = gapsAt s 0 from by rw [List.append_assoc, List.singleton_append, ← gapsAt_some (by omega) HGS.out]; exact HAC.out)
                    have HLG := hide (show (acc ++ [gpOf s i k]).length = acc.length + 1 by simp)
                    obtain ⟨iP, hiP, hzP0, hzP1, hzP2⟩ := info_parts info_two
                    have HIP := hide (And.intro hiP (And.intro hzP0 (And.intro hzP1 hzP2)))
                    have HBG := hide (show (acc.length + 1) * iP.bytes ≤ 140737488355328 ∧ acc.length + 1 ≤ 140737488355328 by have h9 := HIP.out.2.2.2; rw [h9]; have := HLN.out; omega)
                    have HF2 := hide (show flat2 acc ++ [.int .i64 (i : Int), .int .i64 ((k : Int) + 2)] = flat2 (acc ++ [gpOf s i k]) from by rw [flat2_snoc, show (k : Int) + 2 = ((k + 2 : Nat) : Int) by omega]; rfl)
                    have HBZ := hide HB.out.size
                    have i9 : (k : Int) + 1 < (s.size : Int) := by omega
                    clear h2 hiP hzP0 hzP1 hzP2 HGS
                    go_wp2_with (first | (go_at_call 26; (refine (HHC1.out _).mono ?_); rintro e w' ⟨rfl, hw⟩; subst w') | (at_builtin; refine wpList_append_b rfl (.tmp 63) (.tmp 67) rfl rfl Tryd.underlying77 HIP.out.1 HIP.out.2.1 HIP.out.2.2.1 (by decide) rfl (by have := HIP.out.2.2.2; omega) w.heap.size acc.length (.slice A acc.length c) (flat2 acc) [.int .i64 (i : Int), .int .i64 ((k : Int) + 2)] _ rfl (ownK_alloc HOW.out _) rfl (by intro u hu; simp only [List.mem_cons, List.not_mem_nil, or_false] at hu; rcases hu with rfl | rfl <;> rfl) rfl (newN_cells (cs := [.int .i64 (i : Int), .int .i64 ((k : Int) + 2)]) rfl) HBG.out (by rw [World.size_alloc]; have := HBZ.out; omega) ?_; intro v' w8 hown8 hgr8 hfr8; obtain ⟨A7, c7, rfl, _⟩ := ownK_form hown8; have HB8 := hide ((bl_alloc HB.out (.cells #[.int .i64 (i : Int), .int .i64 ((k : Int) + 2)] 78)).grown hgr8 (by rw [World.size_alloc]; have := HBZ.out; omega) (fun k9 hk9 => (HOW.out.lt k9 hk9).1)); rw [← HLG.out, HF2.out] at hown8; have HOW8 := hide hown8; clear hown8 hgr8 hfr8))
                    go_roundw
                    case rel => exact ⟨k + 2, acc ++ [gpOf s i k], A7, c7, by omega, by rw [HLG.out], (by first | go_num | (congr 1; omega)), HOW8, HNX, HB8, hide (by rw [HLG.out]; have := HLN.out; omega)⟩
                    case measure => simp [intOf]; omega
                · have e3 : ¬ (i : Int) + 2 < (k : Int) := by omega
                  have HNX := hide (HN2.out (by rw [HGE.out, if_neg (fun h => n0 h.1)]))
                  go_wp2
                  go_roundw
                  case rel => exact ⟨i + 1, acc, A, c, by omega, rfl, by go_num, HOW, HNX, HB, hide (by have := HLN.out; omega)⟩
                  case measure => simp [intOf]; omega
              · have hb : notBr s[k] = true := by unfold notBr; simp [b1, b2]
                have c1 : ((s[k].toNat : Int) != 123) = true := by simp; omega
                have c2 : ((s[k].toNat : Int) != 125) = true := by simp; omega
                go_wp2
                go_roundw
                case rel => exact ⟨k + 1, by omega, by omega, by go_num, (by first | rfl | trivial), hide ((spEnd_step hk hb).trans HK.out)⟩
                case measure => simp [intOf]; omega
          · obtain rfl : k = E := (spEnd_over (by omega)).symm.trans HK.out
            have ik : ¬ (k : Int) < (s.size : Int) := by omega
            by_cases n0 : i + 2 < k
            · have e3 : (i : Int) + 2 < (k : Int) := by omega
              cases h2 : pre2 s k 125 with
              | false =>
                have HNX := hide (HN2.out (by rw [HGE.out, if_neg (fun h => by rw [h2] at h; exact absurd h.2 Bool.false_ne_true)]))
                have HHC1 := hide (fun W => by have := hasC_at s k W; rw [h2] at this; exact this)
                clear h2
                go_wp2_with (go_at_call 26; (refine (HHC1.out _).mono ?_); rintro e w' ⟨rfl, hw⟩; subst w')
                go_roundw
                case rel => exact ⟨i + 1, acc, A, c, by omega, rfl, by go_num, HOW, HNX, HB, hide (by have := HLN.out; omega)⟩
                case measure => simp [intOf]; omega
              | true => exact absurd (pre2_lt h2) (by omega)
            · have e3 : ¬ (i : Int) + 2 < (k : Int) := by omega
              have HNX := hide (HN2.out (by rw [HGE.out, if_neg (fun h => n0 h.1)]))
              go_wp2
              go_roundw
              case rel => exact ⟨i + 1, acc, A, c, by omega, rfl, by go_num, HOW, HNX, HB, hide (by have := HLN.out; omega)⟩
              case measure => simp [intOf]; omega
    · have i1 : ¬ (i : Int) + 1 < (s.size : Int) := by omega
      have HR := hide (show acc = gapsAt s 0 from by have := HAC.out; rwa [gapsAt_last (by omega), List.append_nil] at this)
      go_upto_region 15 with (fail)
      have HCH0 := hide (show Chain s 0 acc from HR.out ▸ chain_all s)
      have HGI := hide (show ∀ g ∈ acc, g.t = cut1 (s.extract (g.f + 2) (g.u - 2)) ∧ g.h = cut2 (s.extract (g.f + 2) (g.u - 2)) ∧ g.b = cut3 (s.extract (g.f + 2) (g.u - 2)) from fun g hg => gaps_in s _ 0 g (by rw [HR.out] at hg; exact hg))
      obtain ⟨WB, hWB⟩ : ∃ WB : World, WB = wr := ⟨_, rfl⟩
      subst hWB
      obtain ⟨hcA, hcB⟩ := ownK_form1 HOW.out
      obtain ⟨A9, c9, -, hc91, hc92, -⟩ := ownK_form HOW.out
      have hmx := Nat.le_trans hc91 hc92
      clear hc91 hc92
      unfold maxLen at hmx
      have HCG := hide (show cutGaps s = (List.range (min acc.length 20)).map (cardG s acc) by unfold cutGaps; rw [← HR.out])
      clear HAC HLN HR hi hlt i1
      by_cases h0 : acc.length = 0
      · have HZ0 := hide (show cutGaps s = [] from by rw [HCG.out, h0]; rfl)
        obtain rfl := List.length_eq_zero_iff.1 h0
        have HZ := hide (HPO.out none 0 WB)
        rw [HZ0.out] at HZ
        clear HOW HGI HCH0 HCG
        cases A with
        | none =>
          obtain rfl := hcB rfl
          clear hcB hcA
          go_wp2
          go_loopw [7, 76] (fun l8 i9 wr => i9 = .int .i64 0 ∧ l8 = .slice none 0 0 ∧ wr = WB) (fun _ _ _ => 0)
          case atStart => exact ⟨rfl, rfl, rfl⟩
          case round =>
            obtain ⟨rfl, rfl, rfl⟩ := hrel
            go_wp2
            (first | exact HZ.out OwnK.empty HB.out | (go_returns; exact HZ.out OwnK.empty HB.out))
        | some a =>
          have i5 : (0 : Int) ≤ (c : Int) := by omega
          go_wp2
          go_loopw [7, 76] (fun l8 i9 wr => i9 = .int .i64 0 ∧ l8 = .slice none 0 0 ∧ wr = WB) (fun _ _ _ => 0)
          case atStart => exact ⟨rfl, rfl, rfl⟩
          case round =>
            obtain ⟨rfl, rfl, rfl⟩ := hrel
            go_wp2
            (first | exact HZ.out OwnK.empty HB.out | (go_returns; exact HZ.out OwnK.empty HB.out))
      · obtain ⟨gA, rfl, hgA, -⟩ := own2_at HOW.out (by omega)
        obtain ⟨m, hm⟩ : ∃ m, min acc.length 20 = m := ⟨_, rfl⟩
        have hmin : min (acc.length : Int) 20 = (m : Int) := by omega
        have hmax : max (m : Int) 0 = (m : Int) := by omega
        have hm1 : (m : Int) ≤ (acc.length : Int) := by omega
        have hm2 : (m : Int) ≤ 20 := by omega
        have i6 : (acc.length : Int) ≤ (c : Int) := by omega
        rw [hm] at HCG
        clear hm h0
        go_wp2
        (try simp only [hmin, hmax, Int.toNat_natCast])
        obtain ⟨iC, hiP, hzP0, hzP1, hzP2⟩ := info_parts info_cardC
        have HIC := hide (And.intro hiP (And.intro hzP0 (And.intro hzP1 hzP2)))
        clear hiP hzP0 hzP1 hzP2 hmin hmax
        go_loopw [7, 76] (fun l7 i9 wr => ∃ (k : Nat) (A8 : Option Addr) (c8 : Nat), k ≤ m ∧ i9 = .int .i64 k ∧ l7 = .slice A8 k c8 ∧ Hid (OwnK 4 29 wr WB.heap.size (.slice A8 k c8) k (flatC ((List.range k).map (cardG s acc)))) ∧ Hid (Below WB.heap.size WB wr)) (fun _ i9 _ => m - (intOf i9).toNat)
        case atStart => exact ⟨0, none, 0, Nat.zero_le _, rfl, rfl, hide OwnK.empty, hide (by repeat (first | with_reducible exact Below.refl _ _ | with_reducible refine bl_plus ?_ | with_reducible refine bl_alloc ?_ _ | with_reducible refine bl_drew ?_ | with_reducible refine bl_drewN ?_ _))⟩
        case round =>
          obtain ⟨k, A8, c8, hk, rfl, rfl, HO8, HBW⟩ := hrel
          by_cases hlt : k < m
          · have ik : (k : Int) < (m : Int) := by omega
            obtain ⟨W3, hW3⟩ : ∃ W3 : World, W3 = wr := ⟨_, rfl⟩
            subst hW3
            have HOW3 := hide (ownK_below HOW.out HBW.out)
            go_upto_region 20 with (fail)
            have HBX0 := hide (Blk.new W3 29 #[.int .i64 0, .int .i64 ((k : Int) + 1), .string ⟨#[]⟩, .string ⟨#[]⟩])
            have HBR0 := hide (bl_alloc (Below.refl W3.heap.size W3) (.cells #[.int .i64 0, .int .i64 ((k : Int) + 1), .string ⟨#[]⟩, .string ⟨#[]⟩] 29))
            go_wp2
            go_loopw [10, 84] (fun a9 j9 w4 => ∃ (j at_ : Nat) (q bk : ByteArray), j ≤ acc.length ∧ j9 = .int .i64 j ∧ a9 = .int .i64 at_ ∧ Hid (bk = bkOf acc k j) ∧ Hid (Blk w4 W3.heap.size 29 #[.int .i64 0, .int .i64 ((k : Int) + 1), .string q, .string bk]) ∧ Hid (q.data.toList ++ askGo s k j at_ (acc.drop j) = askGo s k 0 0 acc) ∧ Hid (Chain s at_ (acc.drop j)) ∧ Hid (q.size ≤ at_) ∧ Hid (Below W3.heap.size W3 w4)) (fun _ j9 _ => acc.length - (intOf j9).toNat)
            case atStart => exact ⟨0, 0, ⟨#[]⟩, ⟨#[]⟩, Nat.zero_le _, rfl, rfl, hide (bk_zero _ _).symm, HBX0, hide rfl, HCH0, hide (Nat.le_refl _), HBR0⟩
            case round =>
              obtain ⟨j, at_, q, bk, hj, rfl, rfl, HBK, HBX, HAC, HCH, HLN, HBR⟩ := hrel
              clear HBX0 HBR0
              have hat := chain_le HCH.out
              have ia : (at_ : Int) ≤ (s.size : Int) := by omega
              have HQS := hide (show q.size ≤ 1100000 by have := HLN.out; omega)
              by_cases hjl : j < acc.length
              · have ij : (j : Int) < (acc.length : Int) := by omega
                obtain ⟨g2, hA2, hlt2, hrow⟩ := own2_at (ownK_below HOW3.out HBR.out) (by omega)
                obtain rfl : gA = g2 := by injection hA2 with hA2; injection hA2
                obtain ⟨y0, y1⟩ := hrow j hjl
                have hdr : acc.drop j = acc[j] :: acc.drop (j + 1) := List.drop_eq_getElem_cons hjl
                have hc := HCH.out
                rw [hdr] at hc
                have HPL := hide (piece_len (n := k) (k := j) hc)
                have HC9 := hide hc
                have HGO := hide (show askGo s k j at_ (acc.drop j) = (s.extract at_ acc[j].f).data.toList ++ pieceL k j acc[j] ++ askGo s k (j + 1) acc[j].u (acc.drop (j + 1)) from by rw [hdr]; rfl)
                have HCH2 := hide (show Chain s acc[j].u (acc.drop (j + 1)) from hc.2.2.2.2.2)
                have HGI1 := hide (HGI.out acc[j] (List.getElem_mem hjl))
                have HBP := hide (fun (h : j = k) => (show acc[j].t = bkOf acc k (j + 1) by subst h; exact (bk_put hjl (Nat.lt_succ_self _)).symm))
                have HBS := hide (fun (h : ¬ j = k) => bk_same (gs := acc) h)
                clear hrow hdr hc hA2
                generalize acc[j] = g9 at *
                obtain ⟨gf, gu, gt, gh, gb⟩ := g9
                (try simp only at *)
                obtain ⟨hc1, hc2, hc3, hc4, hc5, -⟩ := HC9.out
                simp only at hc1 hc2 hc3 hc4 hc5
                obtain ⟨e, rfl⟩ : ∃ e, gu = e + 2 := ⟨gu - 2, by omega⟩
                have if1 : (at_ : Int) ≤ (gf : Int) := by omega
                have if2 : (gf : Int) + 2 ≤ (e : Int) := by omega
                have if3 : (e : Int) + 2 ≤ (s.size : Int) := by omega
                have y1' : wr.cell? ⟨gA, j * 2 + 1, none⟩ = some (.int .i64 ((e : Int) + 2)) := y1
                have HC9 := hide (And.intro hc1 (And.intro hc2 hc5))
                have HCU := hide (fun W (hb : Below wr.heap.size wr W) => (show Calls Tryd.prog 28 #[.string (s.extract (gf + 2) e), .string ⟨#[124]⟩] W fun e w' => e = .returned (.tuple #[.string gt, .string gh, .bool gb]) ∧ ∃ n, w' = W.drewN n from by
                  have h9 := cutBar_any (s.extract (gf + 2) e) W (maxTold_b HM.out (HB.out.trans ((HBW.out.trans ((HBR.out.trans (hb.mono HBR.out.size)).mono HBW.out.size)).mono HB.out.size))) (by rw [ByteArray.size_extract]; omega)
                  have h8 := HGI1.out
                  simp only [Nat.add_sub_cancel] at h8
                  rw [← h8.1, ← h8.2.1, ← h8.2.2] at h9
                  exact h9))
                have HSX := hide (ext_size_le s at_ gf)
                clear y1 HGI1
                go_upto_region 25 with (go_at_call 28; (refine (HCU.out _ (by repeat (first | with_reducible exact Below.refl _ _ | with_reducible refine bl_plus ?_ | with_reducible refine bl_alloc ?_ _ | with_reducible refine bl_drew ?_ | with_reducible refine bl_drewN ?_ _))).mono ?_); rintro e9 w' ⟨rfl, n2, rfl⟩)
                have HBX2 := hide ((HBX.out.alloc (.cells #[.int .i64 gf, .int .i64 ((e : Int) + 2)] 78)).drewN n2)
                have HBR2 := hide (bl_drewN (bl_alloc HBR.out (.cells #[.int .i64 gf, .int .i64 ((e : Int) + 2)] 78)) n2)
                have HBG := hide ((Blk.new wr 78 #[.int .i64 gf, .int .i64 ((e : Int) + 2)]).drewN n2)
                have HNE := hide HBX.out.lt
                clear y0 y1' HCU HBR
                generalize ((wr.alloc (.cells #[.int .i64 gf, .int .i64 ((e : Int) + 2)] 78)).drewN n2) = W2 at *
                obtain ⟨v0, v1, v2, v3, z2, z3, vl⟩ := blk4 HBX2.out
                obtain ⟨x0, x1, x2⟩ := (show W2.cell? ⟨wr.heap.size, 0, none⟩ = some (.int .i64 gf) ∧ W2.cell? ⟨wr.heap.size, 1, none⟩ = some (.int .i64 ((e : Int) + 2)) ∧ wr.heap.size < W2.heap.size from ⟨HBG.out.cell 0, HBG.out.cell 1, HBG.out.lt⟩)
                have hne := HNE.out
                generalize wr.heap.size = gG at *
                have hq1 := HQS.out
                have hx1 := HSX.out
                have hx2 : gf ≤ s.size := by omega
                have k1 : ¬ (9223372036854775807 < q.size + (s.extract at_ gf).size) := by omega
                have k2 : ¬ (9223372036854775807 < q.size + (gf - at_)) := by omega
                have k3 : ¬ (9223372036854775807 < q.size + (min gf s.size - at_)) := by omega
                have k4 : ¬ ((9223372036854775807 : Int) < (q.size : Int) + ((s.extract at_ gf).size : Int)) := by omega
                go_region
                have HQ2 := hide (show (q ++ s.extract at_ gf).size ≤ gf by rw [ByteArray.size_append]; have := HLN.out; omega)
                have HQD := hide (show (q ++ s.extract at_ gf).data.toList = q.data.toList ++ (s.extract at_ gf).data.toList by simp)
                generalize q ++ s.extract at_ gf = q2 at *
                have HBX3 := hide (show Blk ((W2.setCell ⟨W3.heap.size, 2, none⟩ (.string q2)).drew) W3.heap.size 29 #[.int .i64 0, .int .i64 ((k : Int) + 1), .string q2, .string bk] from (HBX2.out.set_ 2 (.string q2)).drew)
                have HBR3 := hide (bl_drew (HBR2.out.setCell (p := ⟨W3.heap.size, 2, none⟩) (Nat.le_refl _) (.string q2)))
                have HBG3 := hide (show Blk ((W2.setCell ⟨W3.heap.size, 2, none⟩ (.string q2)).drew) gG 78 #[.int .i64 gf, .int .i64 ((e : Int) + 2)] from (HBG.out.far (p := ⟨W3.heap.size, 2, none⟩) (show gG ≠ W3.heap.size by omega) (.string q2)).drew)
                clear HBX2 HBR2 HBG v0 v1 v2 v3 z2 z3 vl x0 x1 x2 k1 k2 k3 k4 hx1 hx2 hq1
                generalize ((W2.setCell ⟨W3.heap.size, 2, none⟩ (.string q2)).drew) = W5 at *
                obtain ⟨v0, v1, v2, v3, z2, z3, vl⟩ := blk4 HBX3.out
                obtain ⟨x0, x1, x2⟩ := (show W5.cell? ⟨gG, 0, none⟩ = some (.int .i64 gf) ∧ W5.cell? ⟨gG, 1, none⟩ = some (.int .i64 ((e : Int) + 2)) ∧ gG < W5.heap.size from ⟨HBG3.out.cell 0, HBG3.out.cell 1, HBG3.out.lt⟩)
                have hq2 := HQ2.out
                have l1 : (q2.size : Int) ≤ 1100000 := by omega
                have l2 : (gt.size : Int) ≤ 1100000 := by omega
                have l3 : (gh.size : Int) ≤ 1100000 := by omega
                have l4 : ¬ (9223372036854775807 < q2.size + gt.size) := by omega
                have l5 : ¬ (9223372036854775807 < q2.size + 5) := by omega
                have l6 : ¬ (9223372036854775807 < 1 + gh.size) := by omega
                have l7 : ¬ (9223372036854775807 < 1 + gh.size + 1) := by omega
                have l8 : ¬ (9223372036854775807 < q2.size + (1 + gh.size + 1)) := by omega
                have HCV := hide (show ∀ pc : ByteArray, pieceL k j (.mk gf (e + 2) gt gh gb) = pc.data.toList → (q2 ++ pc).data.toList ++ askGo s k (j + 1) (e + 2) (acc.drop (j + 1)) = askGo s k 0 0 acc from fun pc h => by
                  have h9 := HAC.out
                  rw [HGO.out, h] at h9
                  rw [← h9, ByteArray.data_append, Array.toList_append, HQD.out]
                  simp only [List.append_assoc])
                have HLV := hide (show ∀ pc : ByteArray, pieceL k j (.mk gf (e + 2) gt gh gb) = pc.data.toList → (q2 ++ pc).size ≤ e + 2 from fun pc h => by
                  have h9 := HPL.out
                  rw [h, ← Lib.size_eq] at h9
                  (try simp only at h9)
                  rw [ByteArray.size_append]
                  omega)
                clear HAC HGO HPL HLN HQD
                by_cases hkn : j = k
                · have e1 : ((j : Int) != (k : Int)) = false := by simp; omega
                  have e2 : ((j : Int) == (k : Int)) = true := by simp; omega
                  have HBK2 := hide (HBP.out hkn)
                  cases gb with
                  | true =>
                    have HPC := hide (show pieceL k j (.mk gf (e + 2) gt gh true) = (⟨#[91]⟩ ++ gh ++ ⟨#[93]⟩ : ByteArray).data.toList by
                      unfold pieceL
                      rw [if_neg (fun h => h hkn), if_pos rfl]
                      simp)
                    clear hkn HBP HBS
                    go_wp2
                    generalize (({data := #[91]} : ByteArray) ++ gh ++ {data := #[93]}) = pc at HPC ⊢
                    go_roundw
                    case rel => exact ⟨j + 1, e + 2, q2 ++ pc, gt, by omega, by go_num, (by first | go_num | (congr 1; omega)), HBK2, hide ((HBX3.out.set_ 2 (.string (q2 ++ pc))).set_ 3 (.string gt)), hide (HCV.out _ HPC.out), HCH2, hide (HLV.out _ HPC.out), hide ((HBR3.out.setCell (p := ⟨W3.heap.size, 2, none⟩) (Nat.le_refl _) (.string (q2 ++ pc))).setCell (p := ⟨W3.heap.size, 3, none⟩) (Nat.le_refl _) (.string gt))⟩
                    case measure => simp [intOf]; omega
                  | false =>
                    have HPC := hide (show pieceL k j (.mk gf (e + 2) gt gh false) = (⟨#[91, 46, 46, 46, 93]⟩ : ByteArray).data.toList by
                      unfold pieceL
                      rw [if_neg (fun h => h hkn), if_neg Bool.false_ne_true])
                    clear hkn HBP HBS
                    go_wp2
                    generalize ({data := #[91, 46, 46, 46, 93]} : ByteArray) = pc at HPC ⊢
                    go_roundw
                    case rel => exact ⟨j + 1, e + 2, q2 ++ pc, gt, by omega, by go_num, (by first | go_num | (congr 1; omega)), HBK2, hide ((HBX3.out.set_ 2 (.string (q2 ++ pc))).set_ 3 (.string gt)), hide (HCV.out _ HPC.out), HCH2, hide (HLV.out _ HPC.out), hide ((HBR3.out.setCell (p := ⟨W3.heap.size, 2, none⟩) (Nat.le_refl _) (.string (q2 ++ pc))).setCell (p := ⟨W3.heap.size, 3, none⟩) (Nat.le_refl _) (.string gt))⟩
                    case measure => simp [intOf]; omega
                · have e1 : ((j : Int) != (k : Int)) = true := by simp; omega
                  have e2 : ((j : Int) == (k : Int)) = false := by simp; omega
                  have HBK2 := hide (HBK.out.trans (HBS.out hkn).symm)
                  have HPC := hide (show pieceL k j (.mk gf (e + 2) gt gh gb) = gt.data.toList by
                    unfold pieceL
                    rw [if_pos hkn])
                  clear hkn HBP HBS
                  go_wp2
                  go_roundw
                  case rel => exact ⟨j + 1, e + 2, q2 ++ gt, bk, by omega, by go_num, (by first | go_num | (congr 1; omega)), HBK2, hide ((HBX3.out.set_ 2 (.string (q2 ++ gt)))), hide (HCV.out _ HPC.out), HCH2, hide (HLV.out _ HPC.out), hide (HBR3.out.setCell (p := ⟨W3.heap.size, 2, none⟩) (Nat.le_refl _) (.string (q2 ++ gt)))⟩
                  case measure => simp [intOf]; omega
              · obtain rfl : j = acc.length := by omega
                have HQA := hide (show q ++ s.extract at_ s.size = askB s k acc from by
                  have h8 := HAC.out
                  rw [List.drop_length, askGo] at h8
                  have h9 : (q ++ s.extract at_ s.size).data.toList = askGo s k 0 0 acc := by
                    rw [← h8, ← ext_drop s at_, ByteArray.data_append, Array.toList_append]
                  unfold askB
                  rw [← h9])
                have hka : k < acc.length := by omega
                have HCM := hide (show (cardG s acc k).cells = [.int .i64 0, .int .i64 ((k : Int) + 1), .string (askB s k acc), .string bk] from by rw [cardG_at hka, HBK.out, bk_put hka hka]; rfl)
                have HBG := hide (show (k + 1) * iC.bytes ≤ 140737488355328 ∧ k + 1 ≤ 140737488355328 by have h9 := HIC.out.2.2.2; rw [h9]; omega)
                obtain ⟨v0, v1, v2, v3, z2, z3, vl⟩ := blk4 HBX.out
                have hq1 := HQS.out
                have hx1 := ext_size_le s at_ s.size
                have k1 : ¬ (9223372036854775807 < q.size + (s.extract at_ s.size).size) := by omega
                have k2 : ¬ (9223372036854775807 < q.size + (s.size - at_)) := by omega
                have k4 : ¬ ((9223372036854775807 : Int) < (q.size : Int) + ((s.extract at_ s.size).size : Int)) := by omega
                clear HAC HBK HLN HGI
                go_upto_region 35 with (fail)
                go_region
                have HBX5 := hide (show Blk ((wr.setCell ⟨W3.heap.size, 2, none⟩ (.string (q ++ s.extract at_ s.size))).drew) W3.heap.size 29 #[.int .i64 0, .int .i64 ((k : Int) + 1), .string (q ++ s.extract at_ s.size), .string bk] from (HBX.out.set_ 2 (.string (q ++ s.extract at_ s.size))).drew)
                have HBR5 := hide (bl_drew (HBR.out.setCell (p := ⟨W3.heap.size, 2, none⟩) (Nat.le_refl _) (.string (q ++ s.extract at_ s.size))))
                clear v0 v1 v2 v3 z2 z3 vl k1 k2 k4 hx1 hq1 HBX HBR
                rw [HQA.out] at HBX5 HBR5 ⊢
                generalize askB s k acc = qB at *
                generalize ((wr.setCell ⟨W3.heap.size, 2, none⟩ (.string qB)).drew) = W5 at *
                obtain ⟨v0, v1, v2, v3, z2, z3, vl⟩ := blk4 HBX5.out
                have HO85 := hide (ownK_below HO8.out HBR5.out)
                have HB5 := hide (HBW.out.trans (HBR5.out.mono HBW.out.size))
                have HS5 := hide HB5.out.size
                go_upto_region 37 with (at_builtin; refine wpList_append_b rfl (.tmp 148) (.tmp 150) rfl rfl Tryd.underlying23 HIC.out.1 HIC.out.2.1 HIC.out.2.2.1 (by decide) rfl (by have := HIC.out.2.2.2; omega) WB.heap.size k (.slice A8 k c8) (flatC ((List.range k).map (cardG s acc))) [.int .i64 0, .int .i64 ((k : Int) + 1), .string qB, .string bk] _ rfl (ownK_alloc HO85.out _) rfl (by intro u hu; simp only [List.mem_cons, List.not_mem_nil, or_false] at hu; rcases hu with rfl | rfl | rfl | rfl <;> rfl) rfl (newN_cells (cs := [.int .i64 0, .int .i64 ((k : Int) + 1), .string qB, .string bk]) rfl) HBG.out (by rw [World.size_alloc]; have := HS5.out; omega) ?_; intro v' w8 hown8 hgr8 hfr8; obtain ⟨A7, c7, rfl, _⟩ := ownK_form hown8; have HB8 := hide ((bl_alloc HB5.out (.cells #[.int .i64 0, .int .i64 ((k : Int) + 1), .string qB, .string bk] 29)).grown hgr8 (by rw [World.size_alloc]; have := HS5.out; omega) (fun k9 hk9 => (HO85.out.lt k9 hk9).1)); rw [← HCM.out, ← flatC_snoc, ← cards_snoc] at hown8; have HOW8 := hide hown8; clear hown8 hgr8 hfr8)
                go_wp2
                go_roundw
                case rel => exact ⟨k + 1, A7, c7, by omega, by go_num, rfl, HOW8, HB8⟩
                case measure => simp [intOf]; omega
          · obtain rfl : k = m := by omega
            have HZ := hide (HPO.out A8 c8 wr)
            rw [HCG.out, List.length_map, List.length_range] at HZ
            go_wp2
            (first | exact HZ.out (ownK_low HO8.out HB.out.size) (HB.out.trans (HBW.out.mono HB.out.size)) | (show PO (.returned (.slice A8 k c8)) wr; exact HZ.out (ownK_low HO8.out HB.out.size) (HB.out.trans (HBW.out.mono HB.out.size))) | (go_returns; exact HZ.out (ownK_low HO8.out HB.out.size) (HB.out.trans (HBW.out.mono HB.out.size))))

end Go.Proofs.YtidpfjdlchffcaaDoor
