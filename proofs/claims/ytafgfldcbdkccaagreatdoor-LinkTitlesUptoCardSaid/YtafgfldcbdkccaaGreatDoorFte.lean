/-
  WALKS: titles folded, link's way and the reference's.
-/
import Derived.Test.YtafgfldcbdkccaaGreatDoorDlS
import Derived.Test.YtafgfldcbdkccaaGreatDoorFtb
import Derived.Test.YtafgfldcbdkccaaGreatDoorFtl
set_option linter.all false
namespace Go.Proofs.YtafgfldcbdkccaaGreatDoor
open Go.RowKit Go.Lib

theorem emptyS (x : ByteArray) : (!fullS x) = x.toList.isEmpty := by
  unfold fullS
  rw [Lib.toList_data, Bool.not_not]

set_option maxHeartbeats 800000 in
theorem foldA_any (x : ByteArray) (w : World) : Calls Tryz.prog 22 #[.string x] w fun e w' => e = .returned (.bool (!fullS x)) ∧ Below w.heap.size w w' := by
  rw [emptyS]
  go_enter Tryz.func22, Tryz.ntmps22
  go_wp2
  go_ret
  exact ⟨rfl, Below.refl _ _⟩

set_option maxHeartbeats 800000 in
theorem foldB_any (x : ByteArray) (w : World) : Calls Tryz.prog 25 #[.string x] w fun e w' => e = .returned (.bool (!fullS x)) ∧ Below w.heap.size w w' := by
  rw [emptyS]
  go_enter Tryz.func25, Tryz.ntmps25
  go_wp2
  go_ret
  exact ⟨rfl, Below.refl _ _⟩

/-- The parts as Split lays them. -/
theorem rw_parts (s : ByteArray) (w : World) (c : Nat) : RwS (w.alloc (.cells ((partsS s).map Value.string).toArray 9)) w.heap.size c (partsS s) :=
  ⟨_, heap_alloc_new w _, by simp, fun k hk => by simp [hk]⟩

theorem rw_join {w : World} {g c : Nat} {xs : List ByteArray} (h : RwS w g c xs) : ∀ (j : Nat) x, xs[j]? = some x → w.cell? ⟨g, 0 + j, none⟩ = some (.string x) := fun j x hx => by
  obtain ⟨hj, rfl⟩ := List.getElem?_eq_some_iff.1 hx
  rw [Nat.zero_add]
  exact (h.cell hj).1

theorem rw_grown {w w' : World} {g c : Nat} {xs : List ByteArray} (h : RwS w g c xs) (hb : Below w.heap.size w w') : RwS w' g c xs := h.below hb

def joinS (s : ByteArray) : ByteArray := ⟨(join (((partsS s).filter fullS).map (·.data.toList)) [32]).toArray⟩

theorem joinS_list (s : ByteArray) : (joinS s).data.toList = join (keepL (partF 32 s.data.toList)) [32] := by
  unfold joinS
  rw [fullS_map, partsS_map]

theorem joinS_len (s : ByteArray) : (join (((partsS s).filter fullS).map (·.data.toList)) [32]).length ≤ s.size + 1 := by
  rw [fullS_map, partsS_map]
  exact keepL_len _

theorem joinS_size (s : ByteArray) : (joinS s).size ≤ s.size + 1 := by
  have := joinS_len s
  have e : (joinS s).size = (join (((partsS s).filter fullS).map (·.data.toList)) [32]).length := List.size_toArray
  omega

theorem foldT_prog (s : ByteArray) : joinS (lowS s) = foldT s := by
  have h := joinS_list (lowS s)
  rw [lowS_lw] at h
  unfold foldT foldL
  rw [← h]

theorem foldT_ref (s : ByteArray) : lowS (joinS s) = foldT s := by
  have h := lowS_lw (joinS s)
  rw [joinS_list, foldL_ref] at h
  unfold foldT
  rw [← h]

theorem foldT_size (s : ByteArray) : (foldT s).size ≤ s.size + 1 := by
  have := foldL_len s.data.toList
  have e : (foldT s).size = (foldL s.data.toList).length := List.size_toArray
  have e2 : s.data.toList.length = s.size := Array.length_toList
  omega

set_option maxHeartbeats 3200000 in
set_option maxRecDepth 100000 in
theorem foldTitle_any (s : ByteArray) (w : World) (hm : MaxTold w) (hs : s.size ≤ 1100000) :
    Calls Tryz.prog 9 #[.string s] w fun e w' => e = .returned (.string (foldT s)) ∧ Below w.heap.size w w' := by
  rw [← foldT_prog]
  have hsz := lowS_sz s
  have HL := hide (fun W => lowerK_any s W (by omega))
  generalize lowS s = z at *
  have HP := hide (partsS_le z)
  have HJ := hide (joinS_len z)
  have HE := hide (partsS_len z)
  go_enter Tryz.func9, Tryz.ntmps9
  go_upto_region 2 with (first | (go_at_call 20; refine (HL.out _).mono ?_; rintro e w1 ⟨rfl, hb1⟩) | (go_at_call 19; refine (Tryz.split_any z ⟨#[32]⟩ _ (maxTold_below hm hb1) (by omega) (by decide)).mono ?_; rintro e w' ⟨rfl, rfl⟩))
  have HD := hide (deleteS_any 22 fullS w1 w1.heap.size (countB z ⟨#[32]⟩ + 1) (partsS z) (w1.alloc (.cells ((splitB ⟨#[32]⟩ 0 (countB z ⟨#[32]⟩) z).map Value.string).toArray 9)) (by have := HP.out; omega) (by rw [HE.out]; exact Nat.le_refl _) (by have := HP.out; have := HE.out; unfold maxLen; omega) (enters_of Tryz.func22 (by kernel_rfl) rfl) (rw_parts z w1 _) (bl_alloc (Below.refl _ _) _) (Nat.le_refl _) (fun x _ W _ => foldA_any x W))
  have hfl := List.length_filter_le fullS (partsS z)
  have HFC := hide (show ((partsS z).filter fullS).length ≤ countB z ⟨#[32]⟩ + 1 from by have := HE.out; omega)
  have HFL := hide (show ((partsS z).filter fullS).length ≤ 1100001 from by have := HP.out; omega)
  clear hfl
  rw [HE.out] at HD
  generalize hW2 : w1.alloc (.cells ((splitB ⟨#[32]⟩ 0 (countB z ⟨#[32]⟩) z).map Value.string).toArray 9) = W2 at *
  have HB2 := hide (show Below w1.heap.size w1 W2 from by rw [← hW2]; exact bl_alloc (Below.refl _ _) _)
  clear hW2
  generalize countB z ⟨#[32]⟩ + 1 = n at *
  go_upto_region 3 with (go_at_call 21; refine HD.out.mono ?_; rintro e w3 ⟨rfl, hr, hg⟩; have HR := hide hr; have HG := hide hg; clear hr hg)
  have HB3 := hide (HB2.out.grown HG.out HB2.out.size (fun k hk => by have := Option.some.inj hk; omega))
  have hj := Tryz.join_any w1.heap.size 0 n ((partsS z).filter fullS) ⟨#[32]⟩ w3 (rw_join HR.out) HR.out.lt (by have := HFL.out; omega) HFC.out (Nat.le_trans HJ.out (by omega))
  have HJN := hide hj
  clear hj HD
  generalize ((partsS z).filter fullS).length = m at *
  go_wp2_with (go_at_call 23; refine HJN.out.mono ?_; rintro e w4 ⟨rfl, hb4⟩)
  go_ret
  exact ⟨rfl, (hb1.trans ((HB3.out.trans (hb4.mono HB3.out.size)).mono hb1.size))⟩

set_option maxHeartbeats 3200000 in
set_option maxRecDepth 100000 in
theorem foldOfTitle_any (s : ByteArray) (w : World) (hm : MaxTold w) (hs : s.size ≤ 1100000) :
    Calls Tryz.prog 10 #[.string s] w fun e w' => e = .returned (.string (foldT s)) ∧ Below w.heap.size w w' := by
  rw [← foldT_ref]
  have HL := hide (fun W => small_any (joinS s) W (by have := joinS_size s; omega))
  obtain ⟨z, hz⟩ : ∃ z, z = s := ⟨_, rfl⟩
  have hsz : z.size = s.size := by rw [hz]
  subst hz
  have HP := hide (partsS_le z)
  have HJ := hide (joinS_len z)
  have HE := hide (partsS_len z)
  go_enter Tryz.func10, Tryz.ntmps10
  obtain ⟨w1, rfl⟩ : ∃ w1, w1 = w := ⟨_, rfl⟩
  have HD := hide (deleteS_any 25 fullS w1 w1.heap.size (countB z ⟨#[32]⟩ + 1) (partsS z) (w1.alloc (.cells ((splitB ⟨#[32]⟩ 0 (countB z ⟨#[32]⟩) z).map Value.string).toArray 9)) (by have := HP.out; omega) (by rw [HE.out]; exact Nat.le_refl _) (by have := HP.out; have := HE.out; unfold maxLen; omega) (enters_of Tryz.func25 (by kernel_rfl) rfl) (rw_parts z w1 _) (bl_alloc (Below.refl _ _) _) (Nat.le_refl _) (fun x _ W _ => foldB_any x W))
  have hfl := List.length_filter_le fullS (partsS z)
  have HFC := hide (show ((partsS z).filter fullS).length ≤ countB z ⟨#[32]⟩ + 1 from by have := HE.out; omega)
  have HFL := hide (show ((partsS z).filter fullS).length ≤ 1100001 from by have := HP.out; omega)
  clear hfl
  rw [HE.out] at HD
  have HB2 := hide (show Below w1.heap.size w1 (w1.alloc (.cells ((splitB ⟨#[32]⟩ 0 (countB z ⟨#[32]⟩) z).map Value.string).toArray 9)) from bl_alloc (Below.refl _ _) _)
  go_wp2_with (first
    | (go_at_call 19; refine (Tryz.split_any z ⟨#[32]⟩ _ hm (by omega) (by decide)).mono ?_; rintro e w' ⟨rfl, rfl⟩)
    | (go_at_call 21; refine HD.out.mono ?_; rintro e w3 ⟨rfl, hr, hg⟩; have HR := hide hr; have HG := hide hg; clear hr hg; have HB3 := hide (HB2.out.grown HG.out HB2.out.size (fun k hk => by have := Option.some.inj hk; omega)); have HJN := hide (Tryz.join_any w1.heap.size 0 (countB z ⟨#[32]⟩ + 1) ((partsS z).filter fullS) ⟨#[32]⟩ w3 (rw_join HR.out) HR.out.lt (by have := HFL.out; omega) HFC.out (Nat.le_trans HJ.out (by omega))))
    | (go_at_call 23; refine HJN.out.mono ?_; rintro e w4 ⟨rfl, hb4⟩)
    | (go_at_call 24; refine (HL.out _).mono ?_; rintro e w5 ⟨rfl, hb5⟩))
  go_ret
  exact ⟨rfl, (HB3.out.trans (hb4.mono HB3.out.size)).trans (hb5.mono (Nat.le_trans HB3.out.size hb4.size))⟩

end Go.Proofs.YtafgfldcbdkccaaGreatDoor
