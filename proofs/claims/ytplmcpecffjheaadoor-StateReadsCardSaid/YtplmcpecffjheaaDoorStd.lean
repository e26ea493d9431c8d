/-
  WALKS: a state as text in the reference.
-/
import Derived.Test.YtplmcpecffjheaaDoorStc
import Derived.StillTailTactics
namespace Go.Proofs.YtplmcpecffjheaaDoor
open Go.RowKit

def ptrs (g : Nat) : Array Value := #[.pointer (some ⟨g, 0, none⟩), .pointer (some ⟨g, 1, none⟩), .pointer (some ⟨g, 2, none⟩), .pointer (some ⟨g, 3, none⟩), .pointer (some ⟨g, 4, none⟩), .pointer (some ⟨g, 5, none⟩), .pointer (some ⟨g, 6, none⟩), .pointer (some ⟨g, 7, none⟩), .pointer (some ⟨g, 8, none⟩)]
theorem ptrs_at (g : Nat) : ∀ {k : Nat}, k < 9 → (ptrs g)[k]? = some (.pointer (some ⟨g, k, none⟩))
  | 0, _ | 1, _ | 2, _ | 3, _ | 4, _ | 5, _ | 6, _ | 7, _ | 8, _ => rfl
  | _ + 9, h => by omega
set_option maxHeartbeats 1600000 in
set_option maxRecDepth 100000 in
theorem numbersOf_any (g : Nat) (w : World) :
    Calls Tryd.prog 15 #[.pointer (some ⟨g, 0, none⟩)] w fun e w' => e = .returned (.slice (some ⟨w.heap.size, 0, none⟩) 9 9) ∧ w' = w.drew.alloc (.cells (ptrs g) 40) := by
  go_enter Tryd.func15, Tryd.ntmps15
  go_wp2_with fail
  go_still_tail 27, (by kernel_rfl)
  change wpList _ _ _ _ _ w.drew
  go_wp2
  go_returns
  exact ⟨rfl, rfl⟩

set_option maxHeartbeats 3200000 in
set_option maxRecDepth 100000 in
theorem stateString_any (x : St) (w : World) (ht : PowTab w) (hck : ∀ w, Calls Tryd.prog 10 #[x.val] w fun e w' => e = .returned (.int .i64 x.err) ∧ Below w.heap.size w w') :
    Calls Tryd.prog 6 #[x.val] w (TextOut x w) := by
  unfold TextOut
  have hni := nums_int x
  by_cases he : x.err = 0
  · rw [if_pos he, he]
    rw [he] at hck
    have hg := St.good_of_err he
    have hfit := stateS_fits hg
    have hnb := nums_bd hg
    have h9 : (nums x).length = 9 := rfl
    have hsl : (strsOf x).length = 9 := rfl
    have HX := hide (show stateS x = ⟨(Lib.join ((strsOf x).map (·.data.toList)) (⟨#[32]⟩ : ByteArray).data.toList).toArray⟩ from rfl)
    have hso : (strsOf x) = (nums x).map itS := rfl
    have HFIT := hide hfit
    have HNB := hide hnb
    have HNI := hide hni
    have HSO := hide hso
    have HSL := hide hsl
    have H9 := hide h9
    have HT := hide ht
    obtain ⟨iP, hiP, hzP0, hzP1, hzP2⟩ := info_parts info_st
    have HIP := hide (And.intro hiP (And.intro hzP0 (And.intro hzP1 hzP2)))
    clear hiP hzP0 hzP1 hzP2 hfit hnb hni hso hsl h9 ht he hg
    unfold St.val at hck ⊢
    have HCK := hide hck
    clear hck
    generalize stateS x = S at *
    generalize strsOf x = ss at *
    generalize nums x = ns at *
    obtain ⟨b0, b1, b2, b3, b4, b5, b6, b7, b8⟩ := x
    simp only at HNI HCK ⊢
    go_enter Tryd.func6, Tryd.ntmps6
    go_wp2_with (first | (go_at_call 10; refine (HCK.out _).mono ?_; rintro e w' ⟨rfl, hbl⟩; obtain ⟨os1, n1, rfl⟩ := below_plus hbl; clear hbl) | (go_at_call 15; refine (numbersOf_any _ _).mono ?_; rintro e w' ⟨rfl, rfl⟩))
    have hB : Blk ((plus (w.alloc (.cells #[.int .i64 b0, .int .i64 b1, .int .i64 b2, .int .i64 b3, .int .i64 b4, .int .i64 b5, .int .i64 b6, .int .i64 b7, .int .i64 b8] 23)) os1 (n1 + 1)).alloc (.cells (ptrs w.heap.size) 40)) w.heap.size 23 #[.int .i64 b0, .int .i64 b1, .int .i64 b2, .int .i64 b3, .int .i64 b4, .int .i64 b5, .int .i64 b6, .int .i64 b7, .int .i64 b8] := ((Blk.new w 23 #[.int .i64 b0, .int .i64 b1, .int .i64 b2, .int .i64 b3, .int .i64 b4, .int .i64 b5, .int .i64 b6, .int .i64 b7, .int .i64 b8]).plus).alloc _
    have hP : Blk ((plus (w.alloc (.cells #[.int .i64 b0, .int .i64 b1, .int .i64 b2, .int .i64 b3, .int .i64 b4, .int .i64 b5, .int .i64 b6, .int .i64 b7, .int .i64 b8] 23)) os1 (n1 + 1)).alloc (.cells (ptrs w.heap.size) 40)) (w.heap.size + 1 + os1.size) 40 (ptrs w.heap.size) := by
      have := Blk.new (plus (w.alloc (.cells #[.int .i64 b0, .int .i64 b1, .int .i64 b2, .int .i64 b3, .int .i64 b4, .int .i64 b5, .int .i64 b6, .int .i64 b7, .int .i64 b8] 23)) os1 (n1 + 1)) 40 (ptrs w.heap.size)
      rw [plus_size, World.size_alloc] at this
      exact this
    have hbw : Below w.heap.size w ((plus (w.alloc (.cells #[.int .i64 b0, .int .i64 b1, .int .i64 b2, .int .i64 b3, .int .i64 b4, .int .i64 b5, .int .i64 b6, .int .i64 b7, .int .i64 b8] 23)) os1 (n1 + 1)).alloc (.cells (ptrs w.heap.size) 40)) := (by repeat (first | exact Below.refl _ _ | refine bl_plus ?_ | refine bl_alloc ?_ _ | refine bl_drew ?_))
    have hB2 : ∀ k, (((plus (w.alloc (.cells #[.int .i64 b0, .int .i64 b1, .int .i64 b2, .int .i64 b3, .int .i64 b4, .int .i64 b5, .int .i64 b6, .int .i64 b7, .int .i64 b8] 23)) os1 (n1 + 1)).alloc (.cells (ptrs w.heap.size) 40))).cell? ⟨w.heap.size, k, none⟩ = (ints ns)[k]? := fun k => by rw [hB.cell k, HNI.out]
    have hP2 : ∀ k, k < 9 → (((plus (w.alloc (.cells #[.int .i64 b0, .int .i64 b1, .int .i64 b2, .int .i64 b3, .int .i64 b4, .int .i64 b5, .int .i64 b6, .int .i64 b7, .int .i64 b8] 23)) os1 (n1 + 1)).alloc (.cells (ptrs w.heap.size) 40))).cell? ⟨w.heap.size + 1 + os1.size, k, none⟩ = some (.pointer (some ⟨w.heap.size, k, none⟩)) := fun k hk => by rw [hP.cell k, ptrs_at _ hk]
    have hlt : w.heap.size + 1 + os1.size < (((plus (w.alloc (.cells #[.int .i64 b0, .int .i64 b1, .int .i64 b2, .int .i64 b3, .int .i64 b4, .int .i64 b5, .int .i64 b6, .int .i64 b7, .int .i64 b8] 23)) os1 (n1 + 1)).alloc (.cells (ptrs w.heap.size) 40))).heap.size := by simp [plus_size]
    have hltS : w.heap.size < ((plus (w.alloc (.cells #[.int .i64 b0, .int .i64 b1, .int .i64 b2, .int .i64 b3, .int .i64 b4, .int .i64 b5, .int .i64 b6, .int .i64 b7, .int .i64 b8] 23)) os1 (n1 + 1)).alloc (.cells (ptrs w.heap.size) 40)).heap.size := by simp [plus_size]; omega
    have hPT := powTab_below HT.out hbw
    clear hB hP
    generalize ((plus (w.alloc (.cells #[.int .i64 b0, .int .i64 b1, .int .i64 b2, .int .i64 b3, .int .i64 b4, .int .i64 b5, .int .i64 b6, .int .i64 b7, .int .i64 b8] 23)) os1 (n1 + 1)).alloc (.cells (ptrs w.heap.size) 40)) = W at *
    generalize w.heap.size + 1 + os1.size = gI at *
    have HP2 := hide hP2
    clear hP2
    have HB2 := hide hB2
    have HBW := hide hbw
    have HPT := hide hPT
    clear hB2 hbw hPT HT HCK
    go_loopw [5, 15] (fun v i wr => ∃ (k : Nat) (A : Option Addr) (c : Nat) (os : Array Obj) (n : Nat), k ≤ 9 ∧ i = .int .i64 k ∧ v = .slice A k c ∧ Hid (OwnK 1 9 wr W.heap.size (.slice A k c) k ((ss.map Value.string).take k)) ∧ wr = plus W os n) (fun _ i _ => 9 - (intOf i).toNat)
    case atStart => exact ⟨0, none, 0, #[], _, by omega, rfl, rfl, hide (by rw [List.take_zero]; exact OwnK.empty), plus_nil.symm⟩
    case round =>
      obtain ⟨k, A, c, os, n, hk, rfl, rfl, HS, rfl⟩ := hrel
      by_cases hlt9 : k < 9
      · have hkn : k < ns.length := by rw [H9.out]; exact hlt9
        have hcell : W.cell? ⟨w.heap.size, k, none⟩ = some (.int .i64 ns[k]) := by rw [HB2.out, ints_get hkn]
        have hptr := HP2.out k hlt9
        have hb := HNB.out k hkn
        have htk : (ss.map Value.string).take (k + 1) = (ss.map Value.string).take k ++ [.string (itS ns[k])] := by
          rw [List.take_succ_eq_append_getElem (by rw [List.length_map, HSL.out]; exact hlt9), List.getElem_map]
          simp only [HSO.out, List.getElem_map]
        have HTK := hide htk
        obtain ⟨v0, v1⟩ := hb
        generalize ns[k] = v at *
        have HIT := hide (fun w ht => Tryd.itoa_any v (by omega) (by omega) w ht)
        have hits : (⟨(Lib.itoa v).toArray⟩ : ByteArray) = itS v := rfl
        rw [hits] at HIT
        clear htk hits hkn v0 v1
        generalize itS v = t at *
        have i1 : (k : Int) < 9 := by omega
        go_wp2_with (first
          | (go_at_call 13; refine (HIT.out _ (powTab_below HPT.out (by repeat (first | exact Below.refl _ _ | refine bl_plus ?_ | refine bl_alloc ?_ _ | refine bl_drew ?_)))).mono ?_; rintro e w' ⟨rfl, os2, n2, rfl⟩)
          | (at_builtin; refine wpList_append_k rfl (.tmp 19) (.tmp 24) rfl rfl Tryd.underlying33 HIP.out.1 HIP.out.2.1 HIP.out.2.2.1 (by decide) rfl (by have := HIP.out.2.2.2; omega) W.heap.size k (.slice A k c) ((ss.map Value.string).take k) [.string t] _ rfl (by repeat (first | with_reducible exact HS.out | with_reducible refine OwnK.alloc ?_ _ | with_reducible refine OwnK.plus ?_ _ _)) rfl (by intro u hu; simp only [List.mem_cons, List.not_mem_nil, or_false] at hu; subst hu; rfl) rfl (new1_at (by simp only [plus_size])) (by omega) (by simp only [World.size_alloc, plus_size]; omega) ?_; intro v' w1 hown1 hgr1 hfr1; obtain ⟨os9, n9, rfl⟩ := grown_plus (L := W) (by repeat (first | exact Below.refl _ _ | refine bl_plus ?_ | refine bl_alloc ?_ _ | refine bl_drew ?_)) hgr1 (fun q hq => (HS.out.lt q hq).1); obtain ⟨A1, c1, rfl, _⟩ := hown1.form; have HN := hide hown1; clear hown1 hgr1 hfr1))
        go_roundw
        case rel => exact ⟨k + 1, A1, c1, _, _, hlt9, by go_num, rfl, hide (by rw [HTK.out]; exact HN.out), rfl⟩
        case measure => simp [intOf]; omega
      · have hk9 : k = 9 := by omega
        subst hk9
        have hs2 := HS.out
        rw [List.take_of_length_le (by rw [List.length_map, HSL.out]; omega)] at hs2
        obtain ⟨h1, h2, b, rfl, hb, hcells⟩ := strs_cells hs2 (by omega)
        have HJ := hide (Tryd.join_any b 0 c ss ⟨#[32]⟩ (plus W os n) hcells hb (by rw [h1]; omega) (by rw [h1]; exact h2) HFIT.out)
        rw [h1, ← HX.out] at HJ
        clear hs2 hcells hb h1 h2 HS
        go_wp2_with (go_at_call 14; refine HJ.out.mono ?_; rintro e w' ⟨rfl, hbl⟩; obtain ⟨os5, n5, rfl⟩ := below_plus hbl; clear hbl)
        go_ret2
        exact ⟨rfl, bl_plus (bl_plus HBW.out)⟩
  · rw [if_neg he]
    have hne : (x.err != 0) = true := bne_iff_ne.2 he
    clear ht hni
    generalize x.err = r at *
    unfold St.val at hck ⊢
    have HCK := hide hck
    clear hck
    go_enter Tryd.func6, Tryd.ntmps6
    go_wp2_with (go_at_call 10; refine (HCK.out _).mono ?_; rintro e w' ⟨rfl, hbl⟩; obtain ⟨os1, n1, rfl⟩ := below_plus hbl; clear hbl)
    go_ret2
    exact ⟨rfl, (by repeat (first | exact Below.refl _ _ | refine bl_plus ?_ | refine bl_alloc ?_ _ | refine bl_drew ?_))⟩

end Go.Proofs.YtplmcpecffjheaaDoor
