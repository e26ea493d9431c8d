/-
  WALKS: the two orders of words, the program's and the reference's.
-/
import Derived.Test.YtfpcfpjnafnjiaaSgk
import Derived.Test.YtfpcfpjnafnjiaaSgi
import Derived.Test.YtfpcfpjnafnjiaaValB
import Derived.Deep.RegionHeld3
set_option linter.all false
namespace Go.Proofs.Ytfpcfpjnafnjiaa
open Go.RowKit Go.Lib Go.Shelf

set_option maxHeartbeats 1600000 in
theorem or3_any (g : Nat) (p q r : Int) (w : World) (h0 : w.cell? ⟨g, 0, none⟩ = some (.int .i64 p)) (h1 : w.cell? ⟨g, 1, none⟩ = some (.int .i64 q)) (h2 : w.cell? ⟨g, 2, none⟩ = some (.int .i64 r)) :
    Calls Try.prog 16 #[.slice (some ⟨g, 0, none⟩) 3 3] w fun e w' => e = .returned (.int .i64 (or3 p q r)) ∧ w = w' := by
  have hc : ((p == 0) = false ∧ or3 p q r = p) ∨ (p = 0 ∧ (q == 0) = false ∧ or3 p q r = q) ∨ (p = 0 ∧ q = 0 ∧ (r == 0) = false ∧ or3 p q r = r) ∨ (p = 0 ∧ q = 0 ∧ r = 0 ∧ or3 p q r = 0) := by
    unfold or3
    by_cases hp : p = 0
    · rw [if_pos hp]
      by_cases hq : q = 0
      · rw [if_pos hq]
        by_cases hr : r = 0
        · exact .inr (.inr (.inr ⟨hp, hq, hr, hr⟩))
        · exact .inr (.inr (.inl ⟨hp, hq, by simp [hr], rfl⟩))
      · rw [if_neg hq]
        exact .inr (.inl ⟨hp, by simp [hq], rfl⟩)
    · rw [if_neg hp]
      exact .inl ⟨by simp [hp], rfl⟩
  generalize or3 p q r = R at hc ⊢
  rcases hc with ⟨h, rfl⟩ | ⟨rfl, h, rfl⟩ | ⟨rfl, rfl, h, rfl⟩ | ⟨rfl, rfl, rfl, rfl⟩
  all_goals
    go_enter Try.func16, Try.ntmps16
    go_wp2
    refine wp_loop_rounds 4 ?_
    rw [rounds_succ]
    go_wp2
    repeat (rw [rounds_succ]; go_wp2)
    go_ret
    exact ⟨rfl, rfl⟩

/-- A word as the program lays it, as the reference lays it. -/
def encP (P : ByteArray) (x : Og) : List Value := [.string x.t, .int .i64 (dst P x.t), .int .i64 x.n]
def encR (x : Og) : List Value := [.string x.t, .int .i64 x.b, .int .i64 x.n]
theorem encP_len (P : ByteArray) (x : Og) : (encP P x).length = 3 := rfl
theorem encR_len (x : Og) : (encR x).length = 3 := rfl
theorem encP_one (P : ByteArray) (x : Og) : ∀ v ∈ encP P x, v.oneCell' = true := fun v hv => by
  simp only [encP, List.mem_cons, List.not_mem_nil, or_false] at hv
  rcases hv with rfl | rfl | rfl <;> rfl
theorem encR_one (x : Og) : ∀ v ∈ encR x, v.oneCell' = true := fun v hv => by
  simp only [encR, List.mem_cons, List.not_mem_nil, or_false] at hv
  rcases hv with rfl | rfl | rfl <;> rfl

set_option maxHeartbeats 3200000 in
set_option maxRecDepth 100000 in
theorem nearCmp_any (P : ByteArray) (x y : Og) (w : World) :
    Calls Try.prog 15 #[.agg (encP P x).toArray, .agg (encP P y).toArray] w fun e w' => e = .returned (.int .i64 (cfP P x y)) ∧ Grows w w' := by
  unfold cfP cmpW encP
  obtain ⟨xt, xb, xn, _⟩ := x
  obtain ⟨yt, yb, yn, _⟩ := y
  simp only
  generalize dst P xt = xd
  generalize dst P yt = yd
  have HC := hide (fun W => compareS_any xt yt W)
  generalize compareBytes xt.data.toList yt.data.toList = r at *
  go_enter Try.func15, Try.ntmps15
  go_wp2_with (fail)
  go_region_held3 (fun w' => w'.cell? ⟨w.heap.size, 0, none⟩ = some (.string xt) ∧ w'.cell? ⟨w.heap.size, 1, none⟩ = some (.int .i64 xd) ∧ w'.cell? ⟨w.heap.size, 2, none⟩ = some (.int .i64 xn) ∧ w'.cell? ⟨w.heap.size + 1, 0, none⟩ = some (.string yt) ∧ w'.cell? ⟨w.heap.size + 1, 1, none⟩ = some (.int .i64 yd) ∧ w'.cell? ⟨w.heap.size + 1, 2, none⟩ = some (.int .i64 yn)) (go_keep)
    (first | (go_at_call 17; refine (compare_any _ _ _).mono ?_; rintro e w' ⟨rfl, rfl⟩) | (go_at_call 18; refine (HC.out _).mono ?_; rintro e w' ⟨rfl, rfl⟩) | (go_at_call 16; refine (or3_any _ (cmp3 xd yd) (cmp3 yn xn) r _ ?_ ?_ ?_).mono ?_; go_simp; go_simp; go_simp; rintro e w' ⟨rfl, rfl⟩))
  go_wp2
  go_ret
  exact ⟨rfl, (by repeat (first | exact Grows.refl _ | refine Grows.alloc ?_ _ | refine Grows.drew ?_ | refine Grows.drewN ?_ _))⟩

theorem grows_cell {a b : World} (h : Grows a b) {k i : Nat} (hk : k < a.heap.size) : b.cell? ⟨k, i, none⟩ = a.cell? ⟨k, i, none⟩ := h.below.cell (p := ⟨k, i, none⟩) hk
/-- What the reference's order reads is kept. -/
theorem keep5 {V0 W1 w2 : World} {g pb : Nat} {P xt yt : ByteArray} {xn yn : Int} (h : W1.cell? ⟨pb, 0, none⟩ = some (.string P) ∧ W1.cell? ⟨g, 0, none⟩ = some (.string xt) ∧ W1.cell? ⟨g, 2, none⟩ = some (.int .i64 xn) ∧ W1.cell? ⟨g + 1, 0, none⟩ = some (.string yt) ∧ W1.cell? ⟨g + 1, 2, none⟩ = some (.int .i64 yn) ∧ Grows V0 W1) (hl : pb < V0.heap.size) (hg : g + 1 < V0.heap.size) (hG : Grows W1 w2) : w2.cell? ⟨pb, 0, none⟩ = some (.string P) ∧ w2.cell? ⟨g, 0, none⟩ = some (.string xt) ∧ w2.cell? ⟨g, 2, none⟩ = some (.int .i64 xn) ∧ w2.cell? ⟨g + 1, 0, none⟩ = some (.string yt) ∧ w2.cell? ⟨g + 1, 2, none⟩ = some (.int .i64 yn) ∧ Grows V0 w2 := by
  obtain ⟨h1, h2, h3, h4, h5, h6⟩ := h
  have hs := h6.below.size
  exact ⟨(grows_cell hG (by omega)).trans h1, (grows_cell hG (by omega)).trans h2, (grows_cell hG (by omega)).trans h3, (grows_cell hG (by omega)).trans h4, (grows_cell hG (by omega)).trans h5, h6.trans hG⟩

set_option maxHeartbeats 6400000 in
set_option maxRecDepth 100000 in
theorem oftenCmp_any (P : ByteArray) (hP : P.size ≤ 1900000) (pb : Nat) (x y : Og) (w : World) (hp : w.cell? ⟨pb, 0, none⟩ = some (.string P)) (hl : pb < w.heap.size) :
    Calls Try.prog 25 #[.agg (encR x).toArray, .agg (encR y).toArray, .pointer (some ⟨pb, 0, none⟩)] w fun e w' => e = .returned (.int .i64 (cfR P x y)) ∧ Grows w w' := by
  unfold cfR cmpW encR dfull
  obtain ⟨xt, xb, xn, hx⟩ := x
  obtain ⟨yt, yb, yn, hy⟩ := y
  simp only at hx hy ⊢
  have HC := hide (fun W => stringsCompare_any xt yt W)
  have HX := hide (fun W => steps_grow P xt W (by omega) (by omega))
  have HY := hide (fun W => steps_grow P yt W (by omega) (by omega))
  generalize compareBytes xt.data.toList yt.data.toList = r at *
  generalize ((Osa.D (sb P) (sb xt) P.size xt.size : Nat) : Int) = xd at *
  generalize ((Osa.D (sb P) (sb yt) P.size yt.size : Nat) : Int) = yd at *
  have hg : w.heap.size + 1 < ((w.alloc (.cells #[.string xt, .int .i64 xb, .int .i64 xn] 59)).alloc (.cells #[.string yt, .int .i64 yb, .int .i64 yn] 59)).heap.size := by simp
  have hl2 : pb < ((w.alloc (.cells #[.string xt, .int .i64 xb, .int .i64 xn] 59)).alloc (.cells #[.string yt, .int .i64 yb, .int .i64 yn] 59)).heap.size := by simp; omega
  have hW : Grows w ((w.alloc (.cells #[.string xt, .int .i64 xb, .int .i64 xn] 59)).alloc (.cells #[.string yt, .int .i64 yb, .int .i64 yn] 59)) := Grows.alloc (Grows.alloc (Grows.refl _) _) _
  have HW := hide hW
  have HK := hide (show ∀ w', Grows ((w.alloc (.cells #[.string xt, .int .i64 xb, .int .i64 xn] 59)).alloc (.cells #[.string yt, .int .i64 yb, .int .i64 yn] 59)) w' → w'.cell? ⟨pb, 0, none⟩ = some (.string P) ∧ w'.cell? ⟨w.heap.size, 0, none⟩ = some (.string xt) ∧ w'.cell? ⟨w.heap.size, 2, none⟩ = some (.int .i64 xn) ∧ w'.cell? ⟨w.heap.size + 1, 0, none⟩ = some (.string yt) ∧ w'.cell? ⟨w.heap.size + 1, 2, none⟩ = some (.int .i64 yn) ∧ Grows ((w.alloc (.cells #[.string xt, .int .i64 xb, .int .i64 xn] 59)).alloc (.cells #[.string yt, .int .i64 yb, .int .i64 yn] 59)) w' from fun w' h => ⟨(grows_cell h hl2).trans (by go_simp), (grows_cell h (by simp only [World.size_alloc]; omega)).trans (by go_simp), (grows_cell h (by simp only [World.size_alloc]; omega)).trans (by go_simp), (grows_cell h (by simp only [World.size_alloc]; omega)).trans (by go_simp), (grows_cell h (by simp only [World.size_alloc]; omega)).trans (by go_simp), h⟩)
  clear hW hx hy
  go_enter Try.func25, Try.ntmps25
  go_wp2_with (fail)
  go_region_held3 (fun w' => w'.cell? ⟨pb, 0, none⟩ = some (.string P) ∧ w'.cell? ⟨w.heap.size, 0, none⟩ = some (.string xt) ∧ w'.cell? ⟨w.heap.size, 2, none⟩ = some (.int .i64 xn) ∧ w'.cell? ⟨w.heap.size + 1, 0, none⟩ = some (.string yt) ∧ w'.cell? ⟨w.heap.size + 1, 2, none⟩ = some (.int .i64 yn) ∧ Grows ((w.alloc (.cells #[.string xt, .int .i64 xb, .int .i64 xn] 59)).alloc (.cells #[.string yt, .int .i64 yb, .int .i64 yn] 59)) w') (first | assumption | exact HK.out _ (Grows.drew (Grows.refl _)) | exact HK.out _ (Grows.alloc (by assumption) _))
    (first | (go_at_call_of 26 (Value.string xt); refine (HX.out _).mono ?_; rintro e w' ⟨rfl, hbl, hdr⟩; have hG := Grows.mk hbl hdr; first | (have hGG := Grows.trans (Grows.drew (Grows.refl ((w.alloc (.cells #[.string xt, .int .i64 xb, .int .i64 xn] 59)).alloc (.cells #[.string yt, .int .i64 yb, .int .i64 yn] 59)))) hG; have hS := HK.out _ hGG) | (have hGG := Grows.trans (a := ((w.alloc (.cells #[.string xt, .int .i64 xb, .int .i64 xn] 59)).alloc (.cells #[.string yt, .int .i64 yb, .int .i64 yn] 59))) (by assumption) hG; have hS := HK.out _ hGG)) | (go_at_call_of 26 (Value.string yt); refine (HY.out _).mono ?_; rintro e w' ⟨rfl, hbl, hdr⟩; have hG := Grows.mk hbl hdr; first | (have hGG := Grows.trans (Grows.drew (Grows.refl ((w.alloc (.cells #[.string xt, .int .i64 xb, .int .i64 xn] 59)).alloc (.cells #[.string yt, .int .i64 yb, .int .i64 yn] 59)))) hG; have hS := HK.out _ hGG) | (have hGG := Grows.trans (a := ((w.alloc (.cells #[.string xt, .int .i64 xb, .int .i64 xn] 59)).alloc (.cells #[.string yt, .int .i64 yb, .int .i64 yn] 59))) (by assumption) hG; have hS := HK.out _ hGG)) | (go_at_call 17; refine (compare_any _ _ _).mono ?_; rintro e w' ⟨rfl, rfl⟩) | (go_at_call 27; refine (HC.out _).mono ?_; rintro e w' ⟨rfl, rfl⟩) | (go_at_call 16; refine (or3_any _ (cmp3 xd yd) (cmp3 yn xn) r _ ?_ ?_ ?_).mono ?_; go_simp; go_simp; go_simp; rintro e w' ⟨rfl, rfl⟩))
  all_goals
    go_wp2
    go_ret
    refine ⟨rfl, HW.out.trans ?_⟩
    first | assumption | exact Grows.alloc (by assumption) _

end Go.Proofs.Ytfpcfpjnafnjiaa
