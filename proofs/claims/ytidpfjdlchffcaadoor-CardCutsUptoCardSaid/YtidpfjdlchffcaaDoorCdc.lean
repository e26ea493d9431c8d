/-
  WALK: the gaps of a string, in the program.
-/
import Derived.Test.YtidpfjdlchffcaaDoorCdb
set_option linter.all false
namespace Go.Proofs.YtidpfjdlchffcaaDoor
open Go.RowKit

theorem ext_drop (s : ByteArray) (k : Nat) : (s.extract k s.size).data.toList = s.data.toList.drop k := by
  rw [Lib.extract_data]
  exact List.take_of_length_le (by rw [List.length_drop, ← Lib.size_eq]; exact Nat.le_refl _)

theorem hasO_at (s : ByteArray) (k : Nat) (w : World) : Calls Tryd.prog 26 #[.string (s.extract k s.size), .string ⟨#[123, 123]⟩] w fun e w' => e = .returned (.bool (pre2 s k 123)) ∧ w' = w := by
  have h := Tryd.hasPrefix_any (s.extract k s.size) ⟨#[123, 123]⟩ w
  rw [ext_drop] at h
  rw [← pre2_has s k 123 (by decide)]
  exact h

theorem hasC_at (s : ByteArray) (k : Nat) (w : World) : Calls Tryd.prog 26 #[.string (s.extract k s.size), .string ⟨#[125, 125]⟩] w fun e w' => e = .returned (.bool (pre2 s k 125)) ∧ w' = w := by
  have h := Tryd.hasPrefix_any (s.extract k s.size) ⟨#[125, 125]⟩ w
  rw [ext_drop] at h
  rw [← pre2_has s k 125 (by decide)]
  exact h

theorem idx_at (s : ByteArray) (k : Nat) (w : World) (h : k ≤ s.size) (hs : s.size ≤ 1100000) : Calls Tryd.prog 27 #[.string (s.extract k s.size), .string ⟨#[123, 125]⟩] w fun e w' => e = .returned (.int .i64 (if spEnd s k < s.size then ((spEnd s k : Nat) : Int) - (k : Int) else -1)) ∧ Below w.heap.size w w' := by
  have h1 := indexAny_any (s.extract k s.size) ⟨#[123, 125]⟩ w (by decide) (by decide) (by rw [ByteArray.size_extract]; omega) (by
    intro j b hb
    match j, hb with
    | 0, hb => obtain rfl := Option.some.inj hb; decide
    | 1, hb => obtain rfl := Option.some.inj hb; decide)
  rw [ext_drop, show (⟨#[123, 125]⟩ : ByteArray).data.toList = [123, 125] from rfl, idx_end h] at h1
  exact h1

def cut1 (x : ByteArray) : ByteArray := ⟨(Lib.cut x.data.toList [124]).1.toArray⟩

def cut2 (x : ByteArray) : ByteArray := ⟨(Lib.cut x.data.toList [124]).2.1.toArray⟩

def cut3 (x : ByteArray) : Bool := (Lib.cut x.data.toList [124]).2.2

theorem cutBar_any (x : ByteArray) (w : World) (hm : MaxTold w) (hs : x.size ≤ 1100000) : Calls Tryd.prog 28 #[.string x, .string ⟨#[124]⟩] w fun e w' => e = .returned (.tuple #[.string (cut1 x), .string (cut2 x), .bool (cut3 x)]) ∧ ∃ n, w' = w.drewN n :=
  Tryd.cut_any x ⟨#[124]⟩ w hm (by omega)

def GP.cells (g : GP) : List Value := [.int .i64 g.f, .int .i64 g.u, .string g.t, .string g.h, .bool g.b]

def flatG (l : List GP) : List Value := l.flatMap GP.cells

theorem flatG_snoc (l : List GP) (g : GP) : flatG (l ++ [g]) = flatG l ++ g.cells := by simp [flatG]

theorem info_gap : (Tryd.prog.info? 43).map (fun i => (i.zero, i.size, i.bytes)) = some (some (.agg #[.int .i64 0, .int .i64 0, .string ByteArray.empty, .string ByteArray.empty, .bool false]), 5, 56) := by kernel_rfl

theorem maxTold_b {w w' : World} (h : MaxTold w) (hb : Below w.heap.size w w') : MaxTold w' := maxTold_below h hb

set_option maxHeartbeats 3200000 in
set_option maxRecDepth 100000 in
theorem gaps_any (s : ByteArray) (w : World) (hs : s.size ≤ 1100000) (hm : MaxTold w) :
    Calls Tryd.prog 13 #[.string s] w fun e w' => ∃ A c, e = .returned (.slice A (gapsAt s 0).length c) ∧ OwnK 5 43 w' w.heap.size (.slice A (gapsAt s 0).length c) (gapsAt s 0).length (flatG (gapsAt s 0)) ∧ Below w.heap.size w w' := by
  have HHO := hide (fun k W => hasO_at s k W)
  have HHC := hide (fun k W => hasC_at s k W)
  have HM := hide hm
  have HPO : Hid (∀ A c w', OwnK 5 43 w' w.heap.size (.slice A (gapsAt s 0).length c) (gapsAt s 0).length (flatG (gapsAt s 0)) → Below w.heap.size w w' → (fun e w' => ∃ A c, e = Ending.returned (.slice A (gapsAt s 0).length c) ∧ OwnK 5 43 w' w.heap.size (.slice A (gapsAt s 0).length c) (gapsAt s 0).length (flatG (gapsAt s 0)) ∧ Below w.heap.size w w') (.returned (.slice A (gapsAt s 0).length c)) w') := hide fun A c w' h1 h2 => ⟨A, c, rfl, h1, h2⟩
  generalize (fun e w' => ∃ A c, e = Ending.returned (.slice A (gapsAt s 0).length c) ∧ OwnK 5 43 w' w.heap.size (.slice A (gapsAt s 0).length c) (gapsAt s 0).length (flatG (gapsAt s 0)) ∧ Below w.heap.size w w') = PO at *
  clear hm
  go_enter Tryd.func13, Tryd.ntmps13
  go_wp2
  go_loopw [3, 4] (fun sl i9 wr => ∃ (i : Nat) (acc : List GP) (A : Option Addr) (c : Nat), i ≤ s.size ∧ sl = .slice A acc.length c ∧ i9 = .int .i64 i ∧ Hid (OwnK 5 43 wr w.heap.size (.slice A acc.length c) acc.length (flatG acc)) ∧ Hid (acc ++ gapsAt s i = gapsAt s 0) ∧ Hid (Below w.heap.size w wr) ∧ Hid (acc.length ≤ i)) (fun _ i9 _ => s.size - (intOf i9).toNat)
  case atStart => exact ⟨0, [], none, 0, Nat.zero_le _, rfl, rfl, hide OwnK.empty, hide (List.nil_append _), hide (by repeat (first | with_reducible exact Below.refl _ _ | with_reducible refine bl_plus ?_ | with_reducible refine bl_alloc ?_ _ | with_reducible refine bl_drew ?_ | with_reducible refine bl_drewN ?_ _)), hide (Nat.le_refl _)⟩
  case round =>
    obtain ⟨i, acc, A, c, hi, rfl, rfl, HOW, HAC, HB, HLN⟩ := hrel
    by_cases hlt : i < s.size
    · have i1 : (i : Int) < (s.size : Int) := by omega
      have HN2 := hide (fun (h : gapE s i = none) => (show acc ++ gapsAt s (i + 1) = gapsAt s 0 from by rw [← gapsAt_none hlt h]; exact HAC.out))
      cases h1 : pre2 s i 123 with
      | false =>
        have HNX := hide (HN2.out (by unfold gapE; rw [h1]; rfl))
        have HHO1 := hide (fun W => by have := HHO.out i W; rw [h1] at this; exact this)
        clear HN2 HHC HHO
        go_wp2_with (go_at_call 26; (refine (HHO1.out _).mono ?_); rintro e w' ⟨rfl, hw⟩; subst w')
        go_roundw
        case rel => exact ⟨i + 1, acc, A, c, by omega, rfl, by go_num, hide (ownK_below HOW.out (by repeat (first | with_reducible exact Below.refl _ _ | with_reducible refine bl_plus ?_ | with_reducible refine bl_alloc ?_ _ | with_reducible refine bl_drew ?_ | with_reducible refine bl_drewN ?_ _))), HNX, hide (below_chainT HB.out (by repeat (first | with_reducible exact Below.refl _ _ | with_reducible refine bl_plus ?_ | with_reducible refine bl_alloc ?_ _ | with_reducible refine bl_drew ?_ | with_reducible refine bl_drewN ?_ _))), hide (by have := HLN.out; omega)⟩
        case measure => simp [intOf]; omega
      | true =>
        have hl2 := pre2_lt h1
        have i2 : (i : Int) + 2 ≤ (s.size : Int) := by omega
        have HHO1 := hide (fun W => by have := HHO.out i W; rw [h1] at this; exact this)
        have HIX0 := hide (fun W => idx_at s (i + 2) W (by omega) hs)
        obtain ⟨n, hn⟩ : ∃ n, spEnd s (i + 2) = i + 2 + n := ⟨spEnd s (i + 2) - (i + 2), by have := spEnd_ge s (i + 2); omega⟩
        have hle := spEnd_le (s := s) (k := i + 2) (by omega)
        have HGE := hide (show gapE s i = if i + 2 < i + 2 + n ∧ pre2 s (i + 2 + n) 125 = true then some (i + 2 + n) else none from by unfold gapE; rw [h1, if_pos rfl, hn])
        rw [hn] at HIX0 hle
        clear HHO h1
        by_cases hE : i + 2 + n < s.size
        · have HIX := hide (fun W => by have := HIX0.out W; rw [if_pos hE, show (((i + 2 + n : Nat) : Int) - ((i + 2 : Nat) : Int)) = (n : Int) by omega] at this; exact this)
          by_cases hn0 : n = 0
          · subst hn0
            have HNX := hide (HN2.out (by rw [HGE.out, if_neg (fun h => by have := h.1; omega)]))
            clear HN2 HHC HIX0 HGE
            go_wp2_with (first | (go_at_call_of 26 (Value.string ⟨#[123, 123]⟩); (refine (HHO1.out _).mono ?_); rintro e w' ⟨rfl, hw⟩; subst w') | (go_at_call 27; (refine (HIX.out _).mono ?_); rintro e w' ⟨rfl, hbl⟩; obtain ⟨os1, n1, rfl⟩ := below_plus hbl; clear hbl))
            go_roundw
            case rel => exact ⟨i + 1, acc, A, c, by omega, rfl, by go_num, hide (ownK_below HOW.out (by repeat (first | with_reducible exact Below.refl _ _ | with_reducible refine bl_plus ?_ | with_reducible refine bl_alloc ?_ _ | with_reducible refine bl_drew ?_ | with_reducible refine bl_drewN ?_ _))), HNX, hide (below_chainT HB.out (by repeat (first | with_reducible exact Below.refl _ _ | with_reducible refine bl_plus ?_ | with_reducible refine bl_alloc ?_ _ | with_reducible refine bl_drew ?_ | with_reducible refine bl_drewN ?_ _))), hide (by have := HLN.out; omega)⟩
            case measure => simp [intOf]; omega
          · have hn1 : ¬ (n : Int) < 1 := by omega
            have i3 : (i : Int) + 2 + n ≤ (s.size : Int) := by omega
            cases h2 : pre2 s (i + 2 + n) 125 with
            | false =>
              have HNX := hide (HN2.out (by rw [HGE.out, if_neg (fun h => by rw [h2] at h; exact absurd h.2 Bool.false_ne_true)]))
              have HHC1 := hide (fun W => by have := HHC.out (i + 2 + n) W; rw [h2] at this; exact this)
              clear HN2 HHC HIX0 HGE
              go_wp2_with (first | (go_at_call_of 26 (Value.string ⟨#[123, 123]⟩); (refine (HHO1.out _).mono ?_); rintro e w' ⟨rfl, hw⟩; subst w') | (go_at_call 27; (refine (HIX.out _).mono ?_); rintro e w' ⟨rfl, hbl⟩; obtain ⟨os1, n1, rfl⟩ := below_plus hbl; clear hbl) | (go_at_call_of 26 (Value.string ⟨#[125, 125]⟩); (refine (HHC1.out _).mono ?_); rintro e w' ⟨rfl, hw⟩; subst w'))
              go_roundw
              case rel => exact ⟨i + 1, acc, A, c, by omega, rfl, by go_num, hide (ownK_below HOW.out (by repeat (first | with_reducible exact Below.refl _ _ | with_reducible refine bl_plus ?_ | with_reducible refine bl_alloc ?_ _ | with_reducible refine bl_drew ?_ | with_reducible refine bl_drewN ?_ _))), HNX, hide (below_chainT HB.out (by repeat (first | with_reducible exact Below.refl _ _ | with_reducible refine bl_plus ?_ | with_reducible refine bl_alloc ?_ _ | with_reducible refine bl_drew ?_ | with_reducible refine bl_drewN ?_ _))), hide (by have := HLN.out; omega)⟩
              case measure => simp [intOf]; omega
            | true =>
              have HHC1 := hide (fun W => by have := HHC.out (i + 2 + n) W; rw [h2] at this; exact this)
              have hl3 := pre2_lt h2
              have HGS := hide (show gapE s i = some (i + 2 + n) from by rw [HGE.out, if_pos ⟨by omega, h2⟩])
              have HNX := hide (show (acc ++ [gpOf s i (i + 2 + n)]) ++ gapsAt s (i + 2 + n + 2) = gapsAt s 0 from by rw [List.append_assoc, List.singleton_append, ← gapsAt_some hlt HGS.out]; exact HAC.out)
              have HCU := hide (fun W (hb : Below wr.heap.size wr W) => cutBar_any (s.extract (i + 2) (i + 2 + n)) W (maxTold_b HM.out (below_chainT HB.out hb)) (by rw [ByteArray.size_extract]; omega))
              have HLG := hide (show (acc ++ [gpOf s i (i + 2 + n)]).length = acc.length + 1 by simp)
              have HGP := hide (show (gpOf s i (i + 2 + n)).cells = [.int .i64 i, .int .i64 ((i : Int) + n + 4), .string (cut1 (s.extract (i + 2) (i + 2 + n))), .string (cut2 (s.extract (i + 2) (i + 2 + n))), .bool (cut3 (s.extract (i + 2) (i + 2 + n)))] from by rw [show (i : Int) + n + 4 = ((i + 2 + n + 2 : Nat) : Int) by omega]; rfl)
              obtain ⟨iP, hiP, hzP0, hzP1, hzP2⟩ := info_parts info_gap
              have HIP := hide (And.intro hiP (And.intro hzP0 (And.intro hzP1 hzP2)))
              have HBG := hide (show (acc.length + 1) * iP.bytes ≤ 140737488355328 ∧ acc.length + 1 ≤ 140737488355328 by have h9 := HIP.out.2.2.2; rw [h9]; have := HLN.out; omega)
              clear HN2 HHC HIX0 HGE h2 hiP hzP0 hzP1 hzP2 HGS
              generalize cut1 (s.extract (i + 2) (i + 2 + n)) = k1 at *
              generalize cut2 (s.extract (i + 2) (i + 2 + n)) = k2 at *
              generalize cut3 (s.extract (i + 2) (i + 2 + n)) = k3 at *
              go_upto_region 9 with (first | (go_at_call_of 26 (Value.string ⟨#[123, 123]⟩); (refine (HHO1.out _).mono ?_); rintro e w' ⟨rfl, hw⟩; subst w') | (go_at_call 27; (refine (HIX.out _).mono ?_); rintro e w' ⟨rfl, hbl⟩; obtain ⟨os1, n1, rfl⟩ := below_plus hbl; clear hbl) | (go_at_call_of 26 (Value.string ⟨#[125, 125]⟩); (refine (HHC1.out _).mono ?_); rintro e w' ⟨rfl, hw⟩; subst w'))
              have HBW := hide (bl_plus (os := os1) (n := n1) (Below.refl wr.heap.size wr))
              have HOW1 := hide (ownK_below HOW.out HBW.out)
              have HB1 := hide (below_chainT HB.out HBW.out)
              have HCU1 := hide (fun W (hb : Below (plus wr os1 n1).heap.size (plus wr os1 n1) W) => HCU.out W (below_chainT HBW.out hb))
              have HWS := hide HBW.out.size
              have HOW0 := HOW
              clear HCU HOW HBW HB HHO1 HHC1 HIX
              generalize plus wr os1 n1 = WB at *
              go_upto_region 11 with (go_at_call 28; (refine (HCU1.out _ (by repeat (first | with_reducible exact Below.refl _ _ | with_reducible refine bl_plus ?_ | with_reducible refine bl_alloc ?_ _ | with_reducible refine bl_drew ?_ | with_reducible refine bl_drewN ?_ _))).mono ?_); rintro e w' ⟨rfl, n2, rfl⟩)
              have HBK := hide (show Blk (((((WB.alloc (.cells #[.int .i64 i, .int .i64 ((i : Int) + n + 4), .string ⟨#[]⟩, .string ⟨#[]⟩, .bool false] 43)).drewN n2).setCell ⟨WB.heap.size, 2, none⟩ (.string k1)).setCell ⟨WB.heap.size, 3, none⟩ (.string k2)).setCell ⟨WB.heap.size, 4, none⟩ (.bool k3)) WB.heap.size 43 #[.int .i64 i, .int .i64 ((i : Int) + n + 4), .string k1, .string k2, .bool k3] from ((((Blk.new WB 43 #[.int .i64 i, .int .i64 ((i : Int) + n + 4), .string ⟨#[]⟩, .string ⟨#[]⟩, .bool false]).set_ 2 (.string k1)).set_ 3 (.string k2)).set_ 4 (.bool k3)))
              have HBB := hide (show Below WB.heap.size WB (((((WB.alloc (.cells #[.int .i64 i, .int .i64 ((i : Int) + n + 4), .string ⟨#[]⟩, .string ⟨#[]⟩, .bool false] 43)).drewN n2).setCell ⟨WB.heap.size, 2, none⟩ (.string k1)).setCell ⟨WB.heap.size, 3, none⟩ (.string k2)).setCell ⟨WB.heap.size, 4, none⟩ (.bool k3)) from (((bl_drewN (bl_alloc (Below.refl _ _) _) _).setCell (p := ⟨WB.heap.size, 2, none⟩) (Nat.le_refl _) (.string k1)).setCell (p := ⟨WB.heap.size, 3, none⟩) (Nat.le_refl _) (.string k2)).setCell (p := ⟨WB.heap.size, 4, none⟩) (Nat.le_refl _) (.bool k3))
              clear HCU1
              have HOW2 := hide (ownK_below HOW1.out HBB.out)
              have HB2 := hide (below_chainT HB1.out HBB.out)
              clear HBB HOW1 HB1
              generalize (((((WB.alloc (.cells #[.int .i64 i, .int .i64 ((i : Int) + n + 4), .string ⟨#[]⟩, .string ⟨#[]⟩, .bool false] 43)).drewN n2).setCell ⟨WB.heap.size, 2, none⟩ (.string k1)).setCell ⟨WB.heap.size, 3, none⟩ (.string k2)).setCell ⟨WB.heap.size, 4, none⟩ (.bool k3)) = W2 at *
              obtain ⟨v0, v1, v2, v3, v4, vl⟩ := (show W2.cell? ⟨WB.heap.size, 0, none⟩ = some (.int .i64 i) ∧ W2.cell? ⟨WB.heap.size, 1, none⟩ = some (.int .i64 ((i : Int) + n + 4)) ∧ W2.cell? ⟨WB.heap.size, 2, none⟩ = some (.string k1) ∧ W2.cell? ⟨WB.heap.size, 3, none⟩ = some (.string k2) ∧ W2.cell? ⟨WB.heap.size, 4, none⟩ = some (.bool k3) ∧ WB.heap.size < W2.heap.size from ⟨HBK.out.cell 0, HBK.out.cell 1, HBK.out.cell 2, HBK.out.cell 3, HBK.out.cell 4, HBK.out.lt⟩)
              have HV1 := hide (fun (W8 : World) (hg : (W2.alloc (.cells #[.int .i64 i, .int .i64 ((i : Int) + n + 4), .string k1, .string k2, .bool k3] 43)).grownBy W8 (Value.slice A acc.length c).ownBlock) => (show W8.cell? ⟨WB.heap.size, 1, none⟩ = some (.int .i64 ((i : Int) + n + 4)) from ((HBK.out.alloc _).grown hg (fun e9 => by have h9 := (HOW0.out.lt _ e9.symm).2; have := HWS.out; omega)).cell 1))
              generalize WB.heap.size = gB at *
              go_wp2_with (at_builtin; refine wpList_append_b rfl (.tmp 56) (.tmp 58) rfl rfl Tryd.underlying40 HIP.out.1 HIP.out.2.1 HIP.out.2.2.1 (by decide) rfl (by have := HIP.out.2.2.2; omega) w.heap.size acc.length (.slice A acc.length c) (flatG acc) [.int .i64 i, .int .i64 ((i : Int) + n + 4), .string k1, .string k2, .bool k3] _ rfl (ownK_alloc HOW2.out _) rfl (by intro u hu; simp only [List.mem_cons, List.not_mem_nil, or_false] at hu; rcases hu with rfl | rfl | rfl | rfl | rfl <;> rfl) rfl (newN_cells (cs := [.int .i64 i, .int .i64 ((i : Int) + n + 4), .string k1, .string k2, .bool k3]) rfl) HBG.out (by rw [World.size_alloc]; have := HB2.out.size; omega) ?_; intro v' w8 hown8 hgr8 hfr8; obtain ⟨A7, c7, rfl, _⟩ := ownK_form hown8; have HB8 := hide ((bl_alloc HB2.out (.cells #[.int .i64 i, .int .i64 ((i : Int) + n + 4), .string k1, .string k2, .bool k3] 43)).grown hgr8 (by rw [World.size_alloc]; have := HB2.out.size; omega) (fun k9 hk9 => (HOW2.out.lt k9 hk9).1)); rw [← HLG.out, ← HGP.out, ← flatG_snoc] at hown8; have HOW8 := hide hown8; have v1 := HV1.out w8 hgr8; clear hown8 hgr8 hfr8)
              have z1 := HB8.out.size
              go_roundw
              case rel => exact ⟨i + 2 + n + 2, acc ++ [gpOf s i (i + 2 + n)], A7, c7, by omega, by rw [HLG.out], (by first | go_num | (congr 1; omega)), HOW8, HNX, HB8, hide (by rw [HLG.out]; have := HLN.out; omega)⟩
              case measure => simp [intOf]; omega
        · have HIX := hide (fun W => by have := HIX0.out W; rw [if_neg hE] at this; exact this)
          have HNX := hide (HN2.out (by rw [HGE.out, if_neg (fun h => by have := pre2_lt h.2; omega)]))
          clear HN2 HHC HIX0 HGE
          go_wp2_with (first | (go_at_call_of 26 (Value.string ⟨#[123, 123]⟩); (refine (HHO1.out _).mono ?_); rintro e w' ⟨rfl, hw⟩; subst w') | (go_at_call 27; (refine (HIX.out _).mono ?_); rintro e w' ⟨rfl, hbl⟩; obtain ⟨os1, n1, rfl⟩ := below_plus hbl; clear hbl))
          go_roundw
          case rel => exact ⟨i + 1, acc, A, c, by omega, rfl, by go_num, hide (ownK_below HOW.out (by repeat (first | with_reducible exact Below.refl _ _ | with_reducible refine bl_plus ?_ | with_reducible refine bl_alloc ?_ _ | with_reducible refine bl_drew ?_ | with_reducible refine bl_drewN ?_ _))), HNX, hide (below_chainT HB.out (by repeat (first | with_reducible exact Below.refl _ _ | with_reducible refine bl_plus ?_ | with_reducible refine bl_alloc ?_ _ | with_reducible refine bl_drew ?_ | with_reducible refine bl_drewN ?_ _))), hide (by have := HLN.out; omega)⟩
          case measure => simp [intOf]; omega
    · obtain rfl : i = s.size := by omega
      have HR := hide (show acc = gapsAt s 0 from by have := HAC.out; rwa [gapsAt_over (Nat.le_refl _), List.append_nil] at this)
      have HZ := hide (show PO (.returned (.slice A acc.length c)) wr from by have h9 := HPO.out A c wr; rw [← HR.out] at h9; exact h9 HOW.out HB.out)
      go_wp2
      first
        | exact HZ.out
        | (go_returns; exact HZ.out)

end Go.Proofs.YtidpfjdlchffcaaDoor
