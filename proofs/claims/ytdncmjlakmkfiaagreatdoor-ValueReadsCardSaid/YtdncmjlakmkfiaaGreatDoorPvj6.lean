/-
  WALK: a value's error, in the reference, where there are no items: links.
-/
import Derived.Test.YtdncmjlakmkfiaaGreatDoorPvi
import Derived.Deep.RegionHeld3
set_option linter.all false
namespace Go.Proofs.YtdncmjlakmkfiaaGreatDoor
open Go.RowKit Go.Lib

theorem trim_same {s : ByteArray} {m : Nat} {x y : UInt8} (hm : s.size = m + 1) (hx : s.data.toList[0]? = some x) (hy : s.data.toList[m]? = some y) :
    ((⟨(Lib.trimS s.data.toList [32]).toArray⟩ : ByteArray).toList == s.toList) = !(decide (x.toNat = 32) || decide (y.toNat = 32)) := by
  rw [Lib.toList_data, Lib.toList_data]
  exact trim_blank (by rw [Array.length_toList]; exact hm) hx hy

set_option maxHeartbeats 64000000 in
set_option maxRecDepth 100000 in
theorem valueFault_6link (s : ByteArray) (A : Option Addr) (c : Nat) (w : World) (E : Int) (h1 : s.size ≤ 100) (hc : ctl s = false) (m : Nat) (x y : UInt8) (hm : s.size = m + 1) (hx : s.data.toList[0]? = some x) (hy : s.data.toList[m]? = some y)
    (hE : (x.toNat = 32 ∧ E = 1) ∨ (x.toNat ≠ 32 ∧ y.toNat = 32 ∧ E = 1) ∨ (x.toNat ≠ 32 ∧ y.toNat ≠ 32 ∧ sqAny s = true ∧ E = 1) ∨ (x.toNat ≠ 32 ∧ y.toNat ≠ 32 ∧ sqAny s = false ∧ E = 0)) :
    Calls Tryz.prog 18 #[.agg #[.int .i64 6, .int .i64 0, .int .i64 0, .string s, .slice A 0 c]] w fun e w' => e = .returned (.int .i64 E) ∧ Below w.heap.size w w' := by
  have hemp := toList_empty s
  rw [decide_eq_false (by omega)] at hemp
  have hlow := fun w => lowByte_any s w
  rw [hc] at hlow
  have HCT := hide hlow
  have hts := trim_same hm hx hy
  have htr := fun w => Tryz.trim_any s ⟨#[32]⟩ w (by omega) (by decide) (by decide)
  have HTR : Hid (∀ w, Calls Tryz.prog 67 #[.string s, .string ⟨#[32]⟩] w fun e w' => e = .returned (.string ⟨(Lib.trimS s.data.toList [32]).toArray⟩) ∧ Below w.heap.size w w') := hide htr
  have HQ := hide (fun w => containsAny_any s ⟨#[91, 93, 124]⟩ w (by decide) (by decide) (by omega) (by
        intro j b hb
        have hmem : b ∈ [(91 : UInt8), 93, 124] := List.mem_of_getElem? hb
        simp only [List.mem_cons, List.not_mem_nil, or_false] at hmem
        rcases hmem with rfl | rfl | rfl <;> decide))
  change Hid (∀ w, Calls Tryz.prog 68 #[.string s, .string ⟨#[91, 93, 124]⟩] w fun e w' => e = .returned (.bool (sqAny s)) ∧ Below w.heap.size w w') at HQ
  generalize (⟨(Lib.trimS s.data.toList [32]).toArray⟩ : ByteArray) = T at *
  generalize sqAny s = Q at *
  have hs2 : ¬ (100 : Int) < (s.size : Int) := by omega
  clear htr hlow hx hy hc hm
  have hts2 : ((T.toList == s.toList) = false ∧ E = 1) ∨ ((T.toList == s.toList) = true ∧ ((Q = true ∧ E = 1) ∨ (Q = false ∧ E = 0))) := by
    rw [hts]
    rcases hE with ⟨e1, e⟩ | ⟨e1, e2, e⟩ | ⟨e1, e2, q, e⟩ | ⟨e1, e2, q, e⟩
    · exact .inl ⟨by simp [e1], e⟩
    · exact .inl ⟨by simp [e2], e⟩
    · exact .inr ⟨by simp [e1, e2], .inl ⟨q, e⟩⟩
    · exact .inr ⟨by simp [e1, e2], .inr ⟨q, e⟩⟩
  clear hts hE
  rcases hts2 with ⟨hts, rfl⟩ | ⟨hts, ⟨rfl, rfl⟩ | ⟨rfl, rfl⟩⟩
  all_goals
    go_enter Tryz.func18, Tryz.ntmps18
    go_upto_region 24 with (go_at_call 66; refine (HCT.out _).mono ?_; rintro e w' ⟨rfl, hbl⟩; obtain ⟨os1, n1, rfl⟩ := below_plus hbl; clear hbl)
    have hb3 := ((Blk.new w 24 #[.int .i64 6, .int .i64 0, .int .i64 0, .string s, .slice A 0 c]).plus (os := os1) (n := n1)).cell 3
    have hb0 := ((Blk.new w 24 #[.int .i64 6, .int .i64 0, .int .i64 0, .string s, .slice A 0 c]).plus (os := os1) (n := n1)).cell 0
    first
      | (go_region_with (first
      | (go_at_call 67; refine (HTR.out _).mono ?_; rintro e w' ⟨rfl, hbl⟩; obtain ⟨os2, n2, rfl⟩ := below_plus hbl; clear hbl)
      | (go_at_call 68; refine (HQ.out _).mono ?_; rintro e w' ⟨rfl, hbl⟩; obtain ⟨os3, n3, rfl⟩ := below_plus hbl; clear hbl)))
      | fail
    all_goals go_wp2
    all_goals first
      | (go_ret; exact ⟨rfl, (by repeat (first | exact Below.refl _ _ | refine bl_plus ?_ | refine bl_alloc ?_ _ | refine bl_drew ?_ | refine bl_drewN ?_ _))⟩)
      | (go_loopw [179] (fun i wr => i = .int .i64 0 ∧ Hid (Below w.heap.size w wr)) (fun _ _ => 0)
         case atStart => exact ⟨rfl, hide (by repeat (first | exact Below.refl _ _ | refine bl_plus ?_ | refine bl_alloc ?_ _ | refine bl_drew ?_ | refine bl_drewN ?_ _))⟩
         case round =>
           obtain ⟨rfl, HB⟩ := hrel
           go_wp2
           go_ret
           exact ⟨rfl, HB.out⟩)

end Go.Proofs.YtdncmjlakmkfiaaGreatDoor
