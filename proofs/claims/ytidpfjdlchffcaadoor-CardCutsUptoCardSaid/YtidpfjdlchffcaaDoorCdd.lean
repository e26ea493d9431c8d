/-
  WALK: a string in which one gap is open, in the program.
-/
import Derived.Test.YtidpfjdlchffcaaDoorCdc
import Derived.Shelf.Strings.BuilderK
import Derived.Lib.OthersKept
import Derived.Lib.BufferKept
import Derived.Deep.RegionHeld3
import Derived.Sort.AtCall
set_option linter.all false
namespace Go.Proofs.YtidpfjdlchffcaaDoor
open Go.RowKit

/-- What a gap shows. -/
def pieceL (n k : Nat) (g : GP) : List UInt8 := if k ≠ n then g.t.data.toList else if g.b = true then [91] ++ g.h.data.toList ++ [93] else [91, 46, 46, 46, 93]

def askGo (s : ByteArray) (n : Nat) : Nat → Nat → List GP → List UInt8
  | _, at_, [] => s.data.toList.drop at_
  | k, at_, g :: gs => (s.extract at_ g.f).data.toList ++ pieceL n k g ++ askGo s n (k + 1) g.u gs

/-- Gaps one behind the other. -/
def Chain (s : ByteArray) : Nat → List GP → Prop
  | p, [] => p ≤ s.size
  | p, g :: gs => p ≤ g.f ∧ g.f + 5 ≤ g.u ∧ g.t.size ≤ g.u - g.f ∧ g.h.size + 2 ≤ g.u - g.f ∧ g.u ≤ s.size ∧ Chain s g.u gs

theorem chain_le : ∀ {s : ByteArray} {p : Nat} {gs : List GP}, Chain s p gs → p ≤ s.size
  | _, _, [], h => h
  | _, _, g :: gs, h => by
    have h1 := h.1
    have h2 := h.2.1
    have h3 := h.2.2.2.2.1
    omega

theorem chain_low {s : ByteArray} {p q : Nat} : ∀ {gs : List GP}, Chain s p gs → q ≤ p → Chain s q gs
  | [], h, hq => Nat.le_trans hq h
  | _ :: _, h, hq => ⟨Nat.le_trans hq h.1, h.2⟩

theorem cut_sizes (x : ByteArray) : (cut1 x).size ≤ x.size ∧ ((cut2 x).size = 0 ∨ (cut2 x).size + 1 ≤ x.size) := by
  have h1 : (cut1 x).size = (Lib.cut x.data.toList [124]).1.length := by simp [cut1, ByteArray.size]
  have h2 : (cut2 x).size = (Lib.cut x.data.toList [124]).2.1.length := by simp [cut2, ByteArray.size]
  rw [h1, h2, Lib.size_eq]
  unfold Lib.cut
  split
  · rename_i h
    simp only [List.length_take, List.length_drop, List.length_singleton]
    omega
  · simp

theorem chain_gaps (s : ByteArray) : ∀ (f i : Nat), s.size - i ≤ f → i ≤ s.size → Chain s i (gapsF s f i)
  | 0, i, h, hi => by unfold gapsF Chain; exact hi
  | f + 1, i, h, hi => by
    unfold gapsF
    by_cases hl : i < s.size
    · rw [if_pos hl]
      cases he : gapE s i with
      | none => exact chain_low (chain_gaps s f (i + 1) (by omega) (by omega)) (by omega)
      | some e =>
        have h1 := gapE_lt he
        have h2 := cut_sizes (inB s i e)
        have h3 : (inB s i e).size = e - (i + 2) := by unfold inB; rw [ByteArray.size_extract]; omega
        rw [h3] at h2
        refine ⟨Nat.le_refl _, ?_, ?_, ?_, ?_, chain_gaps s f (e + 2) (by omega) (by omega)⟩
        · show i + 5 ≤ e + 2; omega
        · show (cut1 (inB s i e)).size ≤ e + 2 - i; omega
        · show (cut2 (inB s i e)).size + 2 ≤ e + 2 - i; omega
        · show e + 2 ≤ s.size; omega
    · rw [if_neg hl]
      exact hi

theorem chain_all (s : ByteArray) : Chain s 0 (gapsAt s 0) := chain_gaps s _ 0 (Nat.le_refl _) (Nat.zero_le _)

theorem piece_len {s : ByteArray} {p n k : Nat} {g : GP} {gs : List GP} (h : Chain s p (g :: gs)) : (pieceL n k g).length ≤ g.u - g.f := by
  obtain ⟨h1, h2, h3, h4, h5, -⟩ := h
  unfold pieceL
  split
  · rw [← Lib.size_eq]; exact h3
  · split
    · simp only [List.length_append, List.length_singleton, ← Lib.size_eq]; omega
    · simp; omega

/-- Gaps in memory. -/
def GsAt (w : World) (A : Option Addr) (gs : List GP) : Prop := gs.length ≤ maxLen ∧ (0 < gs.length → ∃ b o, A = some ⟨b, o, none⟩ ∧ b < w.heap.size ∧ ∀ j (h : j < gs.length), w.cell? ⟨b, o + j * 5, none⟩ = some (.int .i64 gs[j].f) ∧ w.cell? ⟨b, o + j * 5 + 1, none⟩ = some (.int .i64 gs[j].u) ∧
  w.cell? ⟨b, o + j * 5 + 2, none⟩ = some (.string gs[j].t) ∧ w.cell? ⟨b, o + j * 5 + 3, none⟩ = some (.string gs[j].h) ∧ w.cell? ⟨b, o + j * 5 + 4, none⟩ = some (.bool gs[j].b))

theorem GsAt.below {w w' : World} {A : Option Addr} {gs : List GP} (h : GsAt w A gs) (hb : Below w.heap.size w w') : GsAt w' A gs :=
  ⟨h.1, fun hl => by
    obtain ⟨b, o, hA, hlt, hj⟩ := h.2 hl
    refine ⟨b, o, hA, Nat.lt_of_lt_of_le hlt hb.size, fun j hj2 => ?_⟩
    obtain ⟨h0, h1, h2, h3, h4⟩ := hj j hj2
    exact ⟨(hb.cell (p := ⟨b, o + j * 5, none⟩) hlt).trans h0, (hb.cell (p := ⟨b, o + j * 5 + 1, none⟩) hlt).trans h1, (hb.cell (p := ⟨b, o + j * 5 + 2, none⟩) hlt).trans h2, (hb.cell (p := ⟨b, o + j * 5 + 3, none⟩) hlt).trans h3, (hb.cell (p := ⟨b, o + j * 5 + 4, none⟩) hlt).trans h4⟩⟩

/-- A builder of the call's own that holds the bytes l. -/
def BldF (w : World) (g : Nat) (l : List UInt8) : Prop := Lib.IsBuilderF 64 5 g g (Lib.byteCells l) w

theorem bldF_lt {w : World} {g : Nat} {l : List UInt8} (h : BldF w g l) : g < w.heap.size := by
  rcases h with ⟨-, v, hb, -⟩ | ⟨-, v, hb, -⟩ <;> exact (Array.getElem?_eq_some_iff.1 hb).1

theorem bldF_below {w w' : World} {g : Nat} {l : List UInt8} (h : BldF w g l) (hb : Below w.heap.size w w') : BldF w' g l := by
  have key : ∀ p, Lib.BuilderAtF 64 5 g g p (Lib.byteCells l) w → Lib.BuilderAtF 64 5 g g p (Lib.byteCells l) w' := fun p ⟨hB, v, hv, ⟨hl, ho⟩, hne⟩ => by
    refine ⟨hB, v, (hb.block g (Array.getElem?_eq_some_iff.1 hv).1).trans hv, ⟨hl, ?_⟩, hne⟩
    rcases ho with ho | ⟨g2, cap, cur, fz, e, h1, h2, h3⟩
    · exact .inl ho
    · exact .inr ⟨g2, cap, cur, fz, e, h1, (hb.block g2 (Array.getElem?_eq_some_iff.1 h2).1).trans h2, h3⟩
  rcases h with h | h
  · exact .inl (key _ h)
  · exact .inr (key _ h)

theorem bldF_new (w : World) : BldF (w.alloc (.cells #[.pointer none, .slice none 0 0] 64)) w.heap.size [] := by
  refine .inl ⟨Nat.le_refl _, .slice none 0 0, Blk.new w 64 #[.pointer none, .slice none 0 0], ⟨rfl, .inl ⟨rfl, rfl⟩⟩, ?_⟩
  intro h; cases h

theorem bldW_any (g : Nat) (l : List UInt8) (s : ByteArray) (w : World) (h : BldF w g l) (hlen : l.length + s.size ≤ 140737488355328) :
    Calls Tryd.prog 29 #[.pointer (some ⟨g, 0, none⟩), .string s] w fun e w' => e = .returned (.tuple #[.int .i64 s.size, .nilIface]) ∧ BldF w' g (l ++ s.data.toList) ∧ Below g w w' ∧ Lib.OthersKept 5 (some g) w w' := by
  refine (Any.Builder_WriteString_k Tryd.wstrL Tryd.wstrX g g (Lib.byteCells l) s w h (by rw [Lib.byteCells_length]; exact hlen) (Nat.le_of_lt (bldF_lt h))).mono ?_
  rintro e w' ⟨he, h1, h2, h3⟩
  refine ⟨he, ?_, h2, h3⟩
  rw [Lib.strCells_eq, ← Lib.byteCells_append] at h1
  exact .inr h1

theorem bldS_any (g : Nat) (l : List UInt8) (w : World) (h : BldF w g l) :
    Calls Tryd.prog 30 #[.pointer (some ⟨g, 0, none⟩)] w fun e w' => e = .returned (.string ⟨l.toArray⟩) ∧ Below g w w' :=
  (Any.Builder_String_any_k Tryd.repL Tryd.repX g g l w h (Nat.le_of_lt (bldF_lt h))).mono fun _ _ hh => ⟨hh.1, hh.2.2.1⟩

theorem Blk.others {w w' : World} {g b : Nat} {t : TypeId} {cs : Array Value} (h : Blk w g t cs) (ho : Lib.OthersKept 5 (some b) w w') (hne : g ≠ b) (ht : t ≠ 5) : Blk w' g t cs :=
  ho g _ h (fun e => hne (Option.some.inj e)) (fun c fz e => by injection e with _ e _; exact ht e)

theorem bytes_of (l : List UInt8) : (⟨l.toArray⟩ : ByteArray).data.toList = l := by simp

theorem brk_size (g : ByteArray) : (({data := #[91]} : ByteArray) ++ g ++ {data := #[93]}).size = g.size + 2 := by
  rw [ByteArray.size_append, ByteArray.size_append]
  have h7 : (⟨#[91]⟩ : ByteArray).size = 1 := rfl
  have h6 : (⟨#[93]⟩ : ByteArray).size = 1 := rfl
  omega

theorem blkG {w : World} {g : Nat} {t : TypeId} {v0 v1 v2 v3 v4 : Value} (h : Blk w g t #[v0, v1, v2, v3, v4]) : w.cell? ⟨g, 0, none⟩ = some v0 ∧ w.cell? ⟨g, 1, none⟩ = some v1 ∧ w.cell? ⟨g, 2, none⟩ = some v2 ∧ w.cell? ⟨g, 3, none⟩ = some v3 ∧ w.cell? ⟨g, 4, none⟩ = some v4 ∧ g < w.heap.size := ⟨h.cell 0, h.cell 1, h.cell 2, h.cell 3, h.cell 4, h.lt⟩

theorem ext_size_le (s : ByteArray) (a b : Nat) : (s.extract a b).size ≤ b - a := by rw [ByteArray.size_extract]; omega

set_option maxHeartbeats 3200000 in
set_option maxRecDepth 100000 in
theorem asked_any (s : ByteArray) (gs : List GP) (A : Option Addr) (c n : Nat) (w : World) (hA : GsAt w A gs) (hch : Chain s 0 gs) (hs : s.size ≤ 1100000) (hn : n ≤ 1000000) :
    Calls Tryd.prog 14 #[.string s, .slice A gs.length c, .int .i64 n] w fun e w' => e = .returned (.string ⟨(askGo s n 0 0 gs).toArray⟩) ∧ Below w.heap.size w w' := by
  have hm := hA.1
  unfold maxLen at hm
  have HA := hide hA
  clear hA
  go_enter Tryd.func14, Tryd.ntmps14
  go_wp2
  go_loopw [8, 13] (fun a9 i9 wr => ∃ (k : Nat) (acc : List UInt8) (at_ : Nat), k ≤ gs.length ∧ i9 = .int .i64 k ∧ a9 = .int .i64 at_ ∧ Hid (BldF wr w.heap.size acc) ∧ Hid (acc ++ askGo s n k at_ (gs.drop k) = askGo s n 0 0 gs) ∧ Hid (Chain s at_ (gs.drop k)) ∧ Hid (Below w.heap.size w wr) ∧ Hid (acc.length ≤ at_)) (fun _ i9 _ => gs.length - (intOf i9).toNat)
  case atStart => exact ⟨0, [], 0, Nat.zero_le _, rfl, rfl, hide (bldF_new w), hide rfl, hide hch, hide (by repeat (first | with_reducible exact Below.refl _ _ | with_reducible refine bl_plus ?_ | with_reducible refine bl_alloc ?_ _ | with_reducible refine bl_drew ?_ | with_reducible refine bl_drewN ?_ _)), hide (Nat.le_refl _)⟩
  case round =>
    obtain ⟨k, acc, at_, hk, rfl, rfl, HBD, HAC, HCH, HB, HLN⟩ := hrel
    have HWS := hide (bldF_lt HBD.out)
    have hat := chain_le HCH.out
    have ia : (at_ : Int) ≤ (s.size : Int) := by omega
    by_cases hlt : k < gs.length
    · obtain ⟨b, o, rfl, hb, hj⟩ := (HA.out.below HB.out).2 (by omega)
      obtain ⟨y0, y1, y2, y3, y4⟩ := hj k hlt
      have i1 : (k : Int) < (gs.length : Int) := by omega
      have hdr : gs.drop k = gs[k] :: gs.drop (k + 1) := List.drop_eq_getElem_cons hlt
      have hc := HCH.out
      rw [hdr] at hc
      have HPL := hide (piece_len (n := n) (k := k) hc)
      have HC9 := hide hc
      have HGO := hide (show askGo s n k at_ (gs.drop k) = (s.extract at_ gs[k].f).data.toList ++ pieceL n k gs[k] ++ askGo s n (k + 1) gs[k].u (gs.drop (k + 1)) from by rw [hdr]; rfl)
      have HCH2 := hide (show Chain s gs[k].u (gs.drop (k + 1)) from hc.2.2.2.2.2)
      clear hj hdr hc
      generalize gs[k] = g at *
      obtain ⟨gf, gu, gt, gh, gb⟩ := g
      (try simp only at *)
      obtain ⟨hc1, hc2, hc3, hc4, hc5, -⟩ := HC9.out
      simp only at hc1 hc2 hc3 hc4 hc5
      have if1 : (at_ : Int) ≤ (gf : Int) := by omega
      have if2 : (gf : Int) ≤ (s.size : Int) := by omega
      have HS1 := hide (show acc.length + (s.extract at_ gf).size ≤ 140737488355328 by have := ext_size_le s at_ gf; have := HLN.out; omega)
      have HS2 := hide (show (acc ++ (s.extract at_ gf).data.toList).length ≤ gf by rw [List.length_append, ← Lib.size_eq]; have := ext_size_le s at_ gf; have := HLN.out; omega)
      have HC9 := hide (And.intro hc1 (And.intro hc2 hc5))
      by_cases hkn : k = n
      · have e1 : ((k : Int) != (n : Int)) = false := by simp; omega
        cases gb with
        | true =>
          have HPC : pieceL n k (.mk gf gu gt gh true) = (⟨#[91]⟩ ++ gh ++ ⟨#[93]⟩ : ByteArray).data.toList := by
            unfold pieceL
            rw [if_neg (fun h => h hkn), if_pos rfl]
            simp
          have i7 : (gh.size : Int) ≤ 1100000 := by omega
          have HP0 := hide HPC
          clear HPC hkn
          go_wp2_with (first | (go_at_call_of 29 (Value.string (s.extract at_ gf)); (refine (bldW_any w.heap.size acc (s.extract at_ gf) _ (bldF_below HBD.out (by repeat (first | with_reducible exact Below.refl _ _ | with_reducible refine bl_plus ?_ | with_reducible refine bl_alloc ?_ _ | with_reducible refine bl_drew ?_ | with_reducible refine bl_drewN ?_ _))) HS1.out).mono ?_); rintro e W1 ⟨rfl, hb1, hb2, hb3⟩; have HBD1 := hide hb1; have HBL1 := hide ((show Below w.heap.size w _ from HB.out.trans (Below.mono (show Below wr.heap.size wr _ from (by repeat (first | with_reducible exact Below.refl _ _ | with_reducible refine bl_plus ?_ | with_reducible refine bl_alloc ?_ _ | with_reducible refine bl_drew ?_ | with_reducible refine bl_drewN ?_ _))) (Nat.le_of_lt HWS.out))).trans hb2); have HBX1 := hide ((Blk.new wr 43 #[.int .i64 gf, .int .i64 gu, .string gt, .string gh, .bool true]).others hb3 (by have := HWS.out; omega) (by decide)); obtain ⟨v0, v1, v2, v3, v4, vl⟩ := blkG HBX1.out; clear hb1 hb2 hb3) | (go_at_call 29; generalize hq : (({data := #[91]} : ByteArray) ++ gh ++ {data := #[93]}) = q9; (refine (bldW_any w.heap.size (acc ++ (s.extract at_ gf).data.toList) q9 _ HBD1.out (by have h9 := HS2.out; have h8 := (congrArg ByteArray.size hq).symm.trans (brk_size gh); omega)).mono ?_); rintro e W2 ⟨rfl, hb1, hb2, hb3⟩; have HBD2 := hide hb1; have HBL2 := hide (HBL1.out.trans hb2); have HBX2 := hide (HBX1.out.others hb3 (by have := HWS.out; omega) (by decide)); obtain ⟨x0, x1, x2, x3, x4, xl⟩ := blkG HBX2.out; clear hb1 hb2 hb3))
          have HP := hide (HP0.out.trans (by rw [hq]))
          have HAC2 := hide (show (acc ++ (s.extract at_ gf).data.toList ++ q9.data.toList) ++ askGo s n (k + 1) gu (gs.drop (k + 1)) = askGo s n 0 0 gs from by have h9 := HAC.out; rw [HGO.out, HP.out] at h9; simp only [List.append_assoc] at h9 ⊢; exact h9)
          have HLN2 := hide (show (acc ++ (s.extract at_ gf).data.toList ++ q9.data.toList).length ≤ gu from by
            have h1 := HPL.out
            (try simp only at h1)
            rw [HP.out] at h1
            rw [List.length_append, List.length_append]
            have h5 := Lib.size_eq (s.extract at_ gf)
            have h2 := ext_size_le s at_ gf
            have h3 := HLN.out
            have h4 := HC9.out
            omega)
          go_roundw
          case rel => exact ⟨k + 1, _, gu, hlt, by go_num, rfl, HBD2, HAC2, HCH2, hide (HBL2.out), HLN2⟩
          case measure => simp [intOf]; omega
        | false =>
          have HPC : pieceL n k (.mk gf gu gt gh false) = (⟨#[91, 46, 46, 46, 93]⟩ : ByteArray).data.toList := by
            unfold pieceL
            rw [if_neg (fun h => h hkn), if_neg Bool.false_ne_true]
          have HP := hide (show pieceL n k (.mk gf gu gt gh false) = (⟨#[91, 46, 46, 46, 93]⟩ : ByteArray).data.toList from HPC)
          clear HPC hkn
          go_wp2_with (first | (go_at_call_of 29 (Value.string (s.extract at_ gf)); (refine (bldW_any w.heap.size acc (s.extract at_ gf) _ (bldF_below HBD.out (by repeat (first | with_reducible exact Below.refl _ _ | with_reducible refine bl_plus ?_ | with_reducible refine bl_alloc ?_ _ | with_reducible refine bl_drew ?_ | with_reducible refine bl_drewN ?_ _))) HS1.out).mono ?_); rintro e W1 ⟨rfl, hb1, hb2, hb3⟩; have HBD1 := hide hb1; have HBL1 := hide ((show Below w.heap.size w _ from HB.out.trans (Below.mono (show Below wr.heap.size wr _ from (by repeat (first | with_reducible exact Below.refl _ _ | with_reducible refine bl_plus ?_ | with_reducible refine bl_alloc ?_ _ | with_reducible refine bl_drew ?_ | with_reducible refine bl_drewN ?_ _))) (Nat.le_of_lt HWS.out))).trans hb2); have HBX1 := hide ((Blk.new wr 43 #[.int .i64 gf, .int .i64 gu, .string gt, .string gh, .bool false]).others hb3 (by have := HWS.out; omega) (by decide)); obtain ⟨v0, v1, v2, v3, v4, vl⟩ := blkG HBX1.out; clear hb1 hb2 hb3) | (go_at_call_of 29 (Value.string ⟨#[91, 46, 46, 46, 93]⟩); (refine (bldW_any w.heap.size (acc ++ (s.extract at_ gf).data.toList) ⟨#[91, 46, 46, 46, 93]⟩ _ HBD1.out (by have h9 := HS2.out; have h8 : (⟨#[91, 46, 46, 46, 93]⟩ : ByteArray).size = 5 := rfl; omega)).mono ?_); rintro e W2 ⟨rfl, hb1, hb2, hb3⟩; have HBD2 := hide hb1; have HBL2 := hide (HBL1.out.trans hb2); have HBX2 := hide (HBX1.out.others hb3 (by have := HWS.out; omega) (by decide)); obtain ⟨x0, x1, x2, x3, x4, xl⟩ := blkG HBX2.out; clear hb1 hb2 hb3))
          have HAC2 := hide (show (acc ++ (s.extract at_ gf).data.toList ++ (⟨#[91, 46, 46, 46, 93]⟩ : ByteArray).data.toList) ++ askGo s n (k + 1) gu (gs.drop (k + 1)) = askGo s n 0 0 gs from by have h9 := HAC.out; rw [HGO.out, HP.out] at h9; simp only [List.append_assoc] at h9 ⊢; exact h9)
          have HLN2 := hide (show (acc ++ (s.extract at_ gf).data.toList ++ (⟨#[91, 46, 46, 46, 93]⟩ : ByteArray).data.toList).length ≤ gu from by
            have h1 := HPL.out
            (try simp only at h1)
            rw [HP.out] at h1
            rw [List.length_append, List.length_append]
            have h5 := Lib.size_eq (s.extract at_ gf)
            have h2 := ext_size_le s at_ gf
            have h3 := HLN.out
            have h4 := HC9.out
            have h8 : (⟨#[91, 46, 46, 46, 93]⟩ : ByteArray).data.toList.length = 5 := rfl
            omega)
          go_roundw
          case rel => exact ⟨k + 1, _, gu, hlt, by go_num, rfl, HBD2, HAC2, HCH2, hide (HBL2.out), HLN2⟩
          case measure => simp [intOf]; omega
      · have e1 : ((k : Int) != (n : Int)) = true := by simp; omega
        have HPC : pieceL n k (.mk gf gu gt gh gb) = gt.data.toList := by
          unfold pieceL
          rw [if_pos hkn]
        have HP := hide (show pieceL n k (.mk gf gu gt gh gb) = gt.data.toList from HPC)
        clear HPC hkn
        go_wp2_with (first | (go_at_call_of 29 (Value.string (s.extract at_ gf)); (refine (bldW_any w.heap.size acc (s.extract at_ gf) _ (bldF_below HBD.out (by repeat (first | with_reducible exact Below.refl _ _ | with_reducible refine bl_plus ?_ | with_reducible refine bl_alloc ?_ _ | with_reducible refine bl_drew ?_ | with_reducible refine bl_drewN ?_ _))) HS1.out).mono ?_); rintro e W1 ⟨rfl, hb1, hb2, hb3⟩; have HBD1 := hide hb1; have HBL1 := hide ((show Below w.heap.size w _ from HB.out.trans (Below.mono (show Below wr.heap.size wr _ from (by repeat (first | with_reducible exact Below.refl _ _ | with_reducible refine bl_plus ?_ | with_reducible refine bl_alloc ?_ _ | with_reducible refine bl_drew ?_ | with_reducible refine bl_drewN ?_ _))) (Nat.le_of_lt HWS.out))).trans hb2); have HBX1 := hide ((Blk.new wr 43 #[.int .i64 gf, .int .i64 gu, .string gt, .string gh, .bool gb]).others hb3 (by have := HWS.out; omega) (by decide)); obtain ⟨v0, v1, v2, v3, v4, vl⟩ := blkG HBX1.out; clear hb1 hb2 hb3) | (go_at_call_of 29 (Value.string gt); (refine (bldW_any w.heap.size (acc ++ (s.extract at_ gf).data.toList) gt _ HBD1.out (by have := HS2.out; omega)).mono ?_); rintro e W2 ⟨rfl, hb1, hb2, hb3⟩; have HBD2 := hide hb1; have HBL2 := hide (HBL1.out.trans hb2); have HBX2 := hide (HBX1.out.others hb3 (by have := HWS.out; omega) (by decide)); obtain ⟨x0, x1, x2, x3, x4, xl⟩ := blkG HBX2.out; clear hb1 hb2 hb3))
        have HAC2 := hide (show (acc ++ (s.extract at_ gf).data.toList ++ gt.data.toList) ++ askGo s n (k + 1) gu (gs.drop (k + 1)) = askGo s n 0 0 gs from by have h9 := HAC.out; rw [HGO.out, HP.out] at h9; simp only [List.append_assoc] at h9 ⊢; exact h9)
        have HLN2 := hide (show (acc ++ (s.extract at_ gf).data.toList ++ gt.data.toList).length ≤ gu from by
          have h1 := HPL.out
          (try simp only at h1)
          rw [HP.out] at h1
          rw [List.length_append, List.length_append]
          have h5 := Lib.size_eq (s.extract at_ gf)
          have h2 := ext_size_le s at_ gf
          have h3 := HLN.out
          have h4 := HC9.out
          omega)
        go_roundw
        case rel => exact ⟨k + 1, _, gu, hlt, by go_num, rfl, HBD2, HAC2, HCH2, hide (HBL2.out), HLN2⟩
        case measure => simp [intOf]; omega
    · obtain rfl : k = gs.length := by omega
      have HR := hide (show acc ++ s.data.toList.drop at_ = askGo s n 0 0 gs from by have := HAC.out; rwa [List.drop_length, askGo] at this)
      have HBS := hide (fun W (hb : Below wr.heap.size wr W) => bldS_any w.heap.size acc W (bldF_below HBD.out hb))
      have HQ := hide (show (⟨acc.toArray⟩ : ByteArray) ++ s.extract at_ s.size = ⟨(askGo s n 0 0 gs).toArray⟩ from by
        have h9 : ((⟨acc.toArray⟩ : ByteArray) ++ s.extract at_ s.size).data.toList = askGo s n 0 0 gs := by
          rw [← HR.out, ← ext_drop s at_]
          simp
        rw [← h9])
      have hqs : (⟨acc.toArray⟩ : ByteArray).size ≤ 1100000 := by have h9 := HLN.out; simp [ByteArray.size]; omega
      generalize (⟨acc.toArray⟩ : ByteArray) = q9 at HBS HQ hqs
      have hes := ext_size_le s at_ s.size
      have i8 : ¬ (9223372036854775807 < q9.size + (s.extract at_ s.size).size) := by omega
      have i9 : ¬ (9223372036854775807 < q9.size + (s.size - at_)) := by omega
      have i10 : ¬ ((9223372036854775807 : Int) < (q9.size : Int) + ((s.extract at_ s.size).size : Int)) := by omega
      have i11 : ¬ ((9223372036854775807 : Int) < (q9.size : Int) + ((s.size - at_ : Nat) : Int)) := by omega
      go_upto_region 14 with (fail)
      go_region_with (go_at_call 30; (refine (HBS.out _ (by repeat (first | with_reducible exact Below.refl _ _ | with_reducible refine bl_plus ?_ | with_reducible refine bl_alloc ?_ _ | with_reducible refine bl_drew ?_ | with_reducible refine bl_drewN ?_ _))).mono ?_); rintro e W9 ⟨rfl, hbl⟩; have HB9 := hide (HB.out.trans (Below.trans (Below.mono (show Below wr.heap.size wr _ from (by repeat (first | with_reducible exact Below.refl _ _ | with_reducible refine bl_plus ?_ | with_reducible refine bl_alloc ?_ _ | with_reducible refine bl_drew ?_ | with_reducible refine bl_drewN ?_ _))) (Nat.le_of_lt HWS.out)) hbl)); clear hbl)
      all_goals
        go_wp2
        go_ret
        rw [← HQ.out]
        exact ⟨rfl, HB9.out⟩

end Go.Proofs.YtidpfjdlchffcaaDoor
