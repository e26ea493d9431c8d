/-
  WALK: best at words that are near.
-/
import Derived.Test.YtfpcfpjnafnjiaaSgl
import Derived.Test.YtfpcfpjnafnjiaaClNr
import Derived.Test.YtfpcfpjnafnjiaaDistA
set_option linter.all false
namespace Go.Proofs.Ytfpcfpjnafnjiaa
open Go.RowKit Go.Lib Go.Shelf Go.Sort
attribute [local go_sem high] run_min_i

def NearOut (P : ByteArray) (l : List Og) (w : World) (e : Ending) (w' : World) : Prop := ∃ A c, e = .returned (.slice A l.length c) ∧ EAt (encP P) 3 w' A l ∧ Below w.heap.size w w'

set_option maxHeartbeats 1600000 in
set_option maxRecDepth 100000 in
theorem best_any (P : ByteArray) (xs : List Og) (A : Option Addr) (c : Nat) (m : Nat) (w : World) (hA : EAt (encP P) 3 w A xs) (hn : xs.length ≤ 1048576) (hm : m ≤ 200) :
    Calls Try.prog 14 #[.slice A xs.length c, .int .i64 m, .func (.func 15) #[] #[]] w (NearOut P ((sortP P xs).take m) w) := by
  have HCL := hide (fun W' => cloneNr_any (encP_len P) (encP_one P) A c xs W')
  have HA := hide hA
  have HCL2 := hide (cloneNr_any (encP_len P) (encP_one P) A c xs w hA (by omega))
  unfold CloneNrOut at HCL2
  have HSO := hide (fun A1 c1 W (h : OwnK 3 45 W w.heap.size (.slice A1 xs.length c1) xs.length (xs.flatMap (encP P))) => sortNr_any (encP_len P) (encP_one P) 15 (cfP P) (fun args w => Go.Proofs.enters_of Try.func15 (by kernel_rfl) rfl args w) (fun x y W => nearCmp_any P x y W) A1 c1 w.heap.size xs W h (by omega))
  have hk : (sortP P xs).length = xs.length := sortP_len P xs
  have HT := hide (show ((sortP P xs).take m).length = min m xs.length by rw [List.length_take, hk])
  have HPO := hide (show ∀ A' c' w', EAt (encP P) 3 w' A' ((sortP P xs).take m) → Below w.heap.size w w' → NearOut P ((sortP P xs).take m) w (.returned (.slice A' (min m xs.length) c')) w' from fun A' c' w' h1 h2 => ⟨A', c', by rw [HT.out], h1, h2⟩)
  have HSE := hide (show ∀ W A1 c1, OwnK 3 45 W w.heap.size (.slice A1 xs.length c1) xs.length ((stableF (ltOf (cfP P)) xs.toArray).toList.flatMap (encP P)) → EAt (encP P) 3 W A1 ((sortP P xs).take m) from fun W A1 c1 h => ((ownK_eat (encP_len P) h (by decide)).2.2.2).take m)
  generalize NearOut P ((sortP P xs).take m) w = PO at *
  clear HT hk hA HCL
  obtain ⟨k, hk⟩ : ∃ k, k = min m xs.length := ⟨_, rfl⟩
  rw [← hk] at HPO
  have hmn : min (m : Int) (xs.length : Int) = (k : Int) := by omega
  have hkl : k ≤ xs.length := by omega
  clear hk
  go_enter Try.func14, Try.ntmps14
  go_wp2_with (first | (go_at_call 34; refine (HCL2.out).mono ?_; rintro e w' ⟨A1, c1, rfl, hown, hbl⟩; obtain ⟨os1, n1, rfl⟩ := below_plus hbl; have hc1 := (ownK_eat (encP_len P) hown (by decide)).2.2.1; have HO1 := hide hown; clear hbl hown) | (go_at_call 35; refine (HSO.out A1 c1 _ HO1.out).mono ?_; rintro e w' ⟨rfl, hgr, hown2⟩; have hb2 := Below.grown (bl_plus (Below.refl _ _)) hgr (le_plus (Nat.le_refl _)) (fun k hk => (HO1.out.lt k hk).1); obtain ⟨os2, n2, rfl⟩ := below_plus hb2; have HO2 := hide hown2; clear hgr hown2 hb2) | (go_at_call 36; refine (clipNr_any _ _ _ _ (by omega)).mono ?_; rintro e w' ⟨rfl, rfl⟩))
  exact HPO.out A1 _ _ (HSE.out _ A1 c1 HO2.out) (by repeat (first | with_reducible exact Below.refl _ _ | with_reducible refine bl_plus ?_ | with_reducible refine bl_alloc ?_ _ | with_reducible refine bl_drew ?_ | with_reducible refine bl_drewN ?_ _))

end Go.Proofs.Ytfpcfpjnafnjiaa
