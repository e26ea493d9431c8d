/-
  WALKS: the order of states, as slices.SortFunc asks it; slices.SortFunc at states.
-/
import Derived.Test.YtokghdcfbbogdaaClone
import Derived.Shelf.SlSortCmp.WholeK
namespace Go.Proofs.Ytokghdcfbbogdaa
open Go.RowKit Go.Shelf

def Try.sortSt_ren : Go.Shelf.Ren := ⟨fun | 6 => 78 | 15 => 98 | 14 => 97 | 28 => 108 | 29 => 109 | 20 => 100 | 21 => 101 | 22 => 102 | 23 => 103 | 24 => 104 | 25 => 105 | 26 => 106 | 27 => 107 | 46 => 112 | 47 => 113 | 48 => 114 | 49 => 115 | 50 => 116 | 57 => 118 | n => n, fun | 22 => 36 | 24 => 24 | 25 => 102 | 3 => 3 | 39 => 119 | 0 => 0 | 53 => 130 | 55 => 132 | 4 => 4 | 46 => 123 | 45 => 122 | 50 => 127 | 5 => 5 | 9 => 9 | 66 => 135 | 70 => 139 | 76 => 141 | 77 => 142 | n => n, fun | n => n⟩
theorem Try.sortSt : Go.Proofs.SlLaysF0.n6 Try.prog Try.sortSt_ren := {
  mixed := by kernel_rfl
  f6 := ⟨Try.f78.name, by decide, Try.func78.trans (congrArg some (by kernel_rfl))⟩
  f14 := ⟨Try.f97.name, by decide, Try.func97.trans (congrArg some (by kernel_rfl))⟩
  f15 := Try.func98.trans (congrArg some (by kernel_rfl))
  f20 := ⟨Try.f100.name, by decide, Try.func100.trans (congrArg some (by kernel_rfl))⟩
  f21 := ⟨Try.f101.name, by decide, Try.func101.trans (congrArg some (by kernel_rfl))⟩
  f22 := ⟨Try.f102.name, by decide, Try.func102.trans (congrArg some (by kernel_rfl))⟩
  f23 := ⟨Try.f103.name, by decide, Try.func103.trans (congrArg some (by kernel_rfl))⟩
  f24 := ⟨Try.f104.name, by decide, Try.func104.trans (congrArg some (by kernel_rfl))⟩
  f25 := ⟨Try.f105.name, by decide, Try.func105.trans (congrArg some (by kernel_rfl))⟩
  f26 := ⟨Try.f106.name, by decide, Try.func106.trans (congrArg some (by kernel_rfl))⟩
  f27 := ⟨Try.f107.name, by decide, Try.func107.trans (congrArg some (by kernel_rfl))⟩
  f28 := Try.func108.trans (congrArg some (by kernel_rfl))
  f29 := Try.func109.trans (congrArg some (by kernel_rfl))
  f46 := ⟨Try.f112.name, by decide, Try.func112.trans (congrArg some (by kernel_rfl))⟩
  f47 := Try.func113.trans (congrArg some (by kernel_rfl))
  f48 := Try.func114.trans (congrArg some (by kernel_rfl))
  f49 := ⟨Try.f115.name, by decide, Try.func115.trans (congrArg some (by kernel_rfl))⟩
  f50 := ⟨Try.f116.name, by decide, Try.func116.trans (congrArg some (by kernel_rfl))⟩
  f57 := ⟨Try.f118.name, by decide, Try.func118.trans (congrArg some (by kernel_rfl))⟩
  t0 := Try.underlying0
  a0 := Try.isAgg0
  z0 := Try.sizeOf0
  v0 := Try.zeroValue0
  t3 := Try.underlying3
  a3 := Try.isAgg3
  z3 := Try.sizeOf3
  v3 := Try.zeroValue3
  t4 := Try.underlying4
  a4 := Try.isAgg4
  z4 := Try.sizeOf4
  v4 := Try.zeroValue4
  t5 := Try.underlying5
  a5 := Try.isAgg5
  z5 := Try.sizeOf5
  v5 := Try.zeroValue5
  t9 := Try.underlying9
  a9 := Try.isAgg9
  z9 := Try.sizeOf9
  v9 := Try.zeroValue9
  t22 := Try.underlying36
  a22 := Try.isAgg36
  z22 := Try.sizeOf36
  v22 := Try.zeroValue36
  t25 := Try.underlying102
  a25 := Try.isAgg102
  z25 := Try.sizeOf102
  v25 := Try.zeroValue102
  t39 := Try.underlying119
  a39 := Try.isAgg119
  z39 := Try.sizeOf119
  v39 := Try.zeroValue119
  t45 := Try.underlying122
  a45 := Try.isAgg122
  z45 := Try.sizeOf122
  v45 := Try.zeroValue122
  t46 := Try.underlying123
  a46 := Try.isAgg123
  z46 := Try.sizeOf123
  v46 := Try.zeroValue123
  t50 := Try.underlying127
  a50 := Try.isAgg127
  z50 := Try.sizeOf127
  v50 := Try.zeroValue127
  t53 := Try.underlying130
  a53 := Try.isAgg130
  z53 := Try.sizeOf130
  v53 := Try.zeroValue130
  t55 := Try.underlying132
  a55 := Try.isAgg132
  z55 := Try.sizeOf132
  v55 := Try.zeroValue132
  t66 := Try.underlying135
  a66 := Try.isAgg135
  z66 := Try.sizeOf135
  v66 := Try.zeroValue135
  t70 := Try.underlying139
  a70 := Try.isAgg139
  z70 := Try.sizeOf139
  v70 := Try.zeroValue139
  t76 := Try.underlying141
  a76 := Try.isAgg141
  z76 := Try.sizeOf141
  v76 := Try.zeroValue141
  t77 := Try.underlying142
  a77 := Try.isAgg142
  z77 := Try.sizeOf142
  v77 := Try.zeroValue142 }

/-- The order by names. -/
def byName (x y : St) : Int := nameCmp x.bl x.no y.bl y.no
theorem lt_byName (x y : St) : ltOf byName x y = decide (x.lt y) := by
  unfold ltOf byName
  have := nameCmp_ge x y
  by_cases h : x.lt y
  · simp only [h, decide_true, decide_eq_true_eq]
    have h2 := mt this.1 (by simpa using h); omega
  · simp only [h, decide_false, decide_eq_false_iff_not]
    have := this.2 h; omega
theorem swo_byName : Sort.SWO (ltOf byName) where
  irrefl x := by rw [lt_byName]; unfold St.lt; simp
  trans x y z h1 h2 := by rw [lt_byName] at *; simp only [decide_eq_true_eq] at *; unfold St.lt at *; omega
  ntrans x y z h1 h2 := by rw [lt_byName] at *; simp only [decide_eq_false_iff_not] at *; unfold St.lt at *; omega
instance : Inhabited St := ⟨St.zero⟩

/-- A world with draws and blocks behind it. -/
def Grows (w w' : World) : Prop := ∃ q os, w' = Sort.grow (w.drewN q) os
theorem Grows.refl (w : World) : Grows w w := ⟨0, #[], by simp [Sort.grow, World.drewN]⟩
theorem Grows.alloc {a w : World} (h : Grows a w) (o : Obj) : Grows a (w.alloc o) := by
  obtain ⟨q, os, rfl⟩ := h
  exact ⟨q, os.push o, by simp [Sort.grow, World.alloc]⟩
theorem Grows.drew {a w : World} (h : Grows a w) : Grows a w.drew := by
  obtain ⟨q, os, rfl⟩ := h
  exact ⟨q + 1, os, rfl⟩
theorem Grows.plus {a w : World} {os : Array Obj} {n : Nat} (h : Grows a w) (hn : w.drawn ≤ n) : Grows a (plus w os n) := by
  obtain ⟨q, os', rfl⟩ := h
  refine ⟨n - a.drawn, os' ++ os, ?_⟩
  have h2 : a.drawn + q ≤ n := hn
  have h3 : a.drawn + (n - a.drawn) = n := by omega
  simp only [Go.Proofs.Ytokghdcfbbogdaa.plus, Sort.grow, World.drewN, Array.append_assoc, h3]
theorem Grows.trans {a b c : World} (h : Grows a b) (h' : Grows b c) : Grows a c := by
  obtain ⟨q, os, rfl⟩ := h
  obtain ⟨q', os', rfl⟩ := h'
  exact ⟨q + q', os ++ os', by simp [Sort.grow, World.drewN, Array.append_assoc, Nat.add_assoc]⟩
theorem Grows.plus_ {w w' : World} (h : Grows w w') : ∃ os n, w' = Go.Proofs.Ytokghdcfbbogdaa.plus w os n ∧ w.drawn ≤ n := by
  obtain ⟨q, os, rfl⟩ := h
  exact ⟨os, w.drawn + q, rfl, Nat.le_add_right _ _⟩

set_option maxHeartbeats 1600000 in
set_option maxRecDepth 100000 in
theorem order_grow (x y : St) (w : World) :
    Calls Try.prog 83 #[x.val, y.val] w fun e w' => e = .returned (.int .i64 (byName x y)) ∧ Grows w w' := by
  unfold byName nameCmp St.val
  go_enter Try.func83, Try.ntmps83
  go_wp2_with fail
  go_region_held3 (fun w' => w'.cell? ⟨w.heap.size, 0, none⟩ = some (.int .i64 x.bl) ∧ w'.cell? ⟨w.heap.size, 1, none⟩ = some (.int .i64 x.no) ∧ w'.cell? ⟨w.heap.size + 1, 0, none⟩ = some (.int .i64 y.bl) ∧ w'.cell? ⟨w.heap.size + 1, 1, none⟩ = some (.int .i64 y.no)) (go_keep)
    (first | (go_at_call 77; refine (compare_any _ _ _).mono ?_; rintro e w' ⟨rfl, rfl⟩) | (go_at_call 76; refine (or2_any _ (cmp3 x.bl y.bl) (cmp3 x.no y.no) _ ?_ ?_).mono ?_; go_simp; go_simp; rintro e w' ⟨rfl, rfl⟩))
  go_wp2
  go_ret
  exact ⟨rfl, 1, #[_, _, _], rfl⟩
set_option maxHeartbeats 400000 in
theorem stateName_grow (x : St) (w : World) :
    Calls Try.prog 54 #[x.val] w fun e w' => e = .returned (.agg #[.int .i64 x.bl, .int .i64 x.no]) ∧ Grows w w' := by
  unfold St.val
  go_enter Try.func54, Try.ntmps54
  go_wp2
  go_returns
  exact ⟨rfl, 0, #[_, _], rfl⟩
set_option maxHeartbeats 1600000 in
set_option maxRecDepth 100000 in
theorem nameCompare_grow (a b c d : Int) (w : World) :
    Calls Try.prog 80 #[.agg #[.int .i64 a, .int .i64 b], .agg #[.int .i64 c, .int .i64 d]] w fun e w' => e = .returned (.int .i64 (nameCmp a b c d)) ∧ Grows w w' := by
  unfold nameCmp
  go_enter Try.func80, Try.ntmps80
  go_wp2_with fail
  go_region_held3 (fun w' => w'.cell? ⟨w.heap.size, 0, none⟩ = some (.int .i64 a) ∧ w'.cell? ⟨w.heap.size, 1, none⟩ = some (.int .i64 b) ∧ w'.cell? ⟨w.heap.size + 1, 0, none⟩ = some (.int .i64 c) ∧ w'.cell? ⟨w.heap.size + 1, 1, none⟩ = some (.int .i64 d)) (go_keep)
    (first | (go_at_call 77; refine (compare_any _ _ _).mono ?_; rintro e w' ⟨rfl, rfl⟩) | (go_at_call 76; refine (or2_any _ (cmp3 a c) (cmp3 b d) _ ?_ ?_).mono ?_; go_simp; go_simp; rintro e w' ⟨rfl, rfl⟩))
  go_wp2
  go_ret
  exact ⟨rfl, 1, #[_, _, _], rfl⟩

set_option maxHeartbeats 4000000 in
set_option maxRecDepth 100000 in
theorem keepLess_grow (x y : St) (w : World) :
    Calls Try.prog 86 #[x.val, y.val] w fun e w' => e = .returned (.int .i64 (byName x y)) ∧ Grows w w' := by
  unfold byName
  have hx := hide (fun w => stateName_grow x w)
  have hy := hide (fun w => stateName_grow y w)
  have hc := hide (fun w => nameCompare_grow x.bl x.no y.bl y.no w)
  unfold St.val at *
  go_enter Try.func86, Try.ntmps86
  go_wp2_with fail
  obtain ⟨x0, x1, x2, x3, x4, x5, x6, x7, x8, xf, xlt⟩ := Blk.nine ((Blk.new w 24 #[.int .i64 x.bl, .int .i64 x.no, .int .i64 x.st, .int .i64 x.ea, .int .i64 x.du, .int .i64 x.la, .int .i64 x.ti, .int .i64 x.lp, .int .i64 x.bu]).alloc (.cells #[.int .i64 y.bl, .int .i64 y.no, .int .i64 y.st, .int .i64 y.ea, .int .i64 y.du, .int .i64 y.la, .int .i64 y.ti, .int .i64 y.lp, .int .i64 y.bu] 24))
  obtain ⟨y0, y1, y2, y3, y4, y5, y6, y7, y8, yf, ylt⟩ := Blk.nine (Blk.new (w.alloc (.cells #[.int .i64 x.bl, .int .i64 x.no, .int .i64 x.st, .int .i64 x.ea, .int .i64 x.du, .int .i64 x.la, .int .i64 x.ti, .int .i64 x.lp, .int .i64 x.bu] 24)) 24 #[.int .i64 y.bl, .int .i64 y.no, .int .i64 y.st, .int .i64 y.ea, .int .i64 y.du, .int .i64 y.la, .int .i64 y.ti, .int .i64 y.lp, .int .i64 y.bu])
  simp only [World.size_alloc] at y0 y1 y2 y3 y4 y5 y6 y7 y8 ylt xlt
  have hg : Grows w ((w.alloc (.cells #[.int .i64 x.bl, .int .i64 x.no, .int .i64 x.st, .int .i64 x.ea, .int .i64 x.du, .int .i64 x.la, .int .i64 x.ti, .int .i64 x.lp, .int .i64 x.bu] 24)).alloc (.cells #[.int .i64 y.bl, .int .i64 y.no, .int .i64 y.st, .int .i64 y.ea, .int .i64 y.du, .int .i64 y.la, .int .i64 y.ti, .int .i64 y.lp, .int .i64 y.bu] 24)) := ((Grows.refl w).alloc _).alloc _
  have xlt2 : w.heap.size < ((w.alloc (.cells #[.int .i64 x.bl, .int .i64 x.no, .int .i64 x.st, .int .i64 x.ea, .int .i64 x.du, .int .i64 x.la, .int .i64 x.ti, .int .i64 x.lp, .int .i64 x.bu] 24)).alloc (.cells #[.int .i64 y.bl, .int .i64 y.no, .int .i64 y.st, .int .i64 y.ea, .int .i64 y.du, .int .i64 y.la, .int .i64 y.ti, .int .i64 y.lp, .int .i64 y.bu] 24)).heap.size := by simp only [World.size_alloc]; omega
  have ylt2 : w.heap.size + 1 < ((w.alloc (.cells #[.int .i64 x.bl, .int .i64 x.no, .int .i64 x.st, .int .i64 x.ea, .int .i64 x.du, .int .i64 x.la, .int .i64 x.ti, .int .i64 x.lp, .int .i64 x.bu] 24)).alloc (.cells #[.int .i64 y.bl, .int .i64 y.no, .int .i64 y.st, .int .i64 y.ea, .int .i64 y.du, .int .i64 y.la, .int .i64 y.ti, .int .i64 y.lp, .int .i64 y.bu] 24)).heap.size := by simp only [World.size_alloc]; omega
  clear xlt ylt
  generalize hgy : w.heap.size + 1 = gy at y0 y1 y2 y3 y4 y5 y6 y7 y8 ylt2 ⊢
  generalize hgx : w.heap.size = gx at x0 x1 x2 x3 x4 x5 x6 x7 x8 xlt2 ⊢
  generalize (w.alloc (.cells #[.int .i64 x.bl, .int .i64 x.no, .int .i64 x.st, .int .i64 x.ea, .int .i64 x.du, .int .i64 x.la, .int .i64 x.ti, .int .i64 x.lp, .int .i64 x.bu] 24)).alloc (.cells #[.int .i64 y.bl, .int .i64 y.no, .int .i64 y.st, .int .i64 y.ea, .int .i64 y.du, .int .i64 y.la, .int .i64 y.ti, .int .i64 y.lp, .int .i64 y.bu] 24) = W at x0 x1 x2 x3 x4 x5 x6 x7 x8 y0 y1 y2 y3 y4 y5 y6 y7 y8 xlt2 ylt2 hg ⊢
  have HG := hide hg
  clear hg xf yf hgx hgy
  go_region_held3 (fun w' => w'.cell? ⟨gx, 0, none⟩ = some (.int .i64 x.bl) ∧ w'.cell? ⟨gx, 1, none⟩ = some (.int .i64 x.no) ∧ w'.cell? ⟨gx, 2, none⟩ = some (.int .i64 x.st) ∧ w'.cell? ⟨gx, 3, none⟩ = some (.int .i64 x.ea) ∧ w'.cell? ⟨gx, 4, none⟩ = some (.int .i64 x.du) ∧ w'.cell? ⟨gx, 5, none⟩ = some (.int .i64 x.la) ∧ w'.cell? ⟨gx, 6, none⟩ = some (.int .i64 x.ti) ∧ w'.cell? ⟨gx, 7, none⟩ = some (.int .i64 x.lp) ∧ w'.cell? ⟨gx, 8, none⟩ = some (.int .i64 x.bu) ∧ w'.cell? ⟨gy, 0, none⟩ = some (.int .i64 y.bl) ∧ w'.cell? ⟨gy, 1, none⟩ = some (.int .i64 y.no) ∧ w'.cell? ⟨gy, 2, none⟩ = some (.int .i64 y.st) ∧ w'.cell? ⟨gy, 3, none⟩ = some (.int .i64 y.ea) ∧ w'.cell? ⟨gy, 4, none⟩ = some (.int .i64 y.du) ∧ w'.cell? ⟨gy, 5, none⟩ = some (.int .i64 y.la) ∧ w'.cell? ⟨gy, 6, none⟩ = some (.int .i64 y.ti) ∧ w'.cell? ⟨gy, 7, none⟩ = some (.int .i64 y.lp) ∧ w'.cell? ⟨gy, 8, none⟩ = some (.int .i64 y.bu) ∧ gx < w'.heap.size ∧ gy < w'.heap.size) (simp [*, plus_plus, plus_cell, plus_size, lt_more1])
    (first | (go_at_call_of 54 (x.bl); refine (hx.out _).mono ?_; rintro e w' ⟨rfl, hb⟩; obtain ⟨os1, n1, rfl, hn1⟩ := hb.plus_; clear hb) | (go_at_call_of 54 (y.bl); refine (hy.out _).mono ?_; rintro e w' ⟨rfl, hb⟩; obtain ⟨os2, n2, rfl, hn2⟩ := hb.plus_; clear hb) | (go_at_call 80; refine (hc.out _).mono ?_; rintro e w' ⟨rfl, hb⟩; obtain ⟨os3, n3, rfl, hn3⟩ := hb.plus_; clear hb))
  go_wp2
  go_ret
  exact ⟨rfl, HG.out.trans (by repeat (first | exact Grows.refl _ | refine Grows.drew ?_ | refine Grows.alloc ?_ _ | refine Grows.plus ?_ (by first | assumption | exact Nat.le_trans (Nat.le_succ _) (by assumption) | (have h0 := hn1; have h1 := hn2; have h2 := hn3; simp only [World.drew, plus] at *; omega))))⟩

set_option maxHeartbeats 4000000 in
set_option maxRecDepth 100000 in
theorem joinLess_grow (x y : St) (w : World) :
    Calls Try.prog 79 #[x.val, y.val] w fun e w' => e = .returned (.int .i64 (byName x y)) ∧ Grows w w' := by
  unfold byName
  have hx := hide (fun w => stateName_grow x w)
  have hy := hide (fun w => stateName_grow y w)
  have hc := hide (fun w => nameCompare_grow x.bl x.no y.bl y.no w)
  unfold St.val at *
  go_enter Try.func79, Try.ntmps79
  go_wp2_with fail
  obtain ⟨x0, x1, x2, x3, x4, x5, x6, x7, x8, xf, xlt⟩ := Blk.nine ((Blk.new w 24 #[.int .i64 x.bl, .int .i64 x.no, .int .i64 x.st, .int .i64 x.ea, .int .i64 x.du, .int .i64 x.la, .int .i64 x.ti, .int .i64 x.lp, .int .i64 x.bu]).alloc (.cells #[.int .i64 y.bl, .int .i64 y.no, .int .i64 y.st, .int .i64 y.ea, .int .i64 y.du, .int .i64 y.la, .int .i64 y.ti, .int .i64 y.lp, .int .i64 y.bu] 24))
  obtain ⟨y0, y1, y2, y3, y4, y5, y6, y7, y8, yf, ylt⟩ := Blk.nine (Blk.new (w.alloc (.cells #[.int .i64 x.bl, .int .i64 x.no, .int .i64 x.st, .int .i64 x.ea, .int .i64 x.du, .int .i64 x.la, .int .i64 x.ti, .int .i64 x.lp, .int .i64 x.bu] 24)) 24 #[.int .i64 y.bl, .int .i64 y.no, .int .i64 y.st, .int .i64 y.ea, .int .i64 y.du, .int .i64 y.la, .int .i64 y.ti, .int .i64 y.lp, .int .i64 y.bu])
  simp only [World.size_alloc] at y0 y1 y2 y3 y4 y5 y6 y7 y8 ylt xlt
  have hg : Grows w ((w.alloc (.cells #[.int .i64 x.bl, .int .i64 x.no, .int .i64 x.st, .int .i64 x.ea, .int .i64 x.du, .int .i64 x.la, .int .i64 x.ti, .int .i64 x.lp, .int .i64 x.bu] 24)).alloc (.cells #[.int .i64 y.bl, .int .i64 y.no, .int .i64 y.st, .int .i64 y.ea, .int .i64 y.du, .int .i64 y.la, .int .i64 y.ti, .int .i64 y.lp, .int .i64 y.bu] 24)) := ((Grows.refl w).alloc _).alloc _
  have xlt2 : w.heap.size < ((w.alloc (.cells #[.int .i64 x.bl, .int .i64 x.no, .int .i64 x.st, .int .i64 x.ea, .int .i64 x.du, .int .i64 x.la, .int .i64 x.ti, .int .i64 x.lp, .int .i64 x.bu] 24)).alloc (.cells #[.int .i64 y.bl, .int .i64 y.no, .int .i64 y.st, .int .i64 y.ea, .int .i64 y.du, .int .i64 y.la, .int .i64 y.ti, .int .i64 y.lp, .int .i64 y.bu] 24)).heap.size := by simp only [World.size_alloc]; omega
  have ylt2 : w.heap.size + 1 < ((w.alloc (.cells #[.int .i64 x.bl, .int .i64 x.no, .int .i64 x.st, .int .i64 x.ea, .int .i64 x.du, .int .i64 x.la, .int .i64 x.ti, .int .i64 x.lp, .int .i64 x.bu] 24)).alloc (.cells #[.int .i64 y.bl, .int .i64 y.no, .int .i64 y.st, .int .i64 y.ea, .int .i64 y.du, .int .i64 y.la, .int .i64 y.ti, .int .i64 y.lp, .int .i64 y.bu] 24)).heap.size := by simp only [World.size_alloc]; omega
  clear xlt ylt
  generalize hgy : w.heap.size + 1 = gy at y0 y1 y2 y3 y4 y5 y6 y7 y8 ylt2 ⊢
  generalize hgx : w.heap.size = gx at x0 x1 x2 x3 x4 x5 x6 x7 x8 xlt2 ⊢
  generalize (w.alloc (.cells #[.int .i64 x.bl, .int .i64 x.no, .int .i64 x.st, .int .i64 x.ea, .int .i64 x.du, .int .i64 x.la, .int .i64 x.ti, .int .i64 x.lp, .int .i64 x.bu] 24)).alloc (.cells #[.int .i64 y.bl, .int .i64 y.no, .int .i64 y.st, .int .i64 y.ea, .int .i64 y.du, .int .i64 y.la, .int .i64 y.ti, .int .i64 y.lp, .int .i64 y.bu] 24) = W at x0 x1 x2 x3 x4 x5 x6 x7 x8 y0 y1 y2 y3 y4 y5 y6 y7 y8 xlt2 ylt2 hg ⊢
  have HG := hide hg
  clear hg xf yf hgx hgy
  go_region_held3 (fun w' => w'.cell? ⟨gx, 0, none⟩ = some (.int .i64 x.bl) ∧ w'.cell? ⟨gx, 1, none⟩ = some (.int .i64 x.no) ∧ w'.cell? ⟨gx, 2, none⟩ = some (.int .i64 x.st) ∧ w'.cell? ⟨gx, 3, none⟩ = some (.int .i64 x.ea) ∧ w'.cell? ⟨gx, 4, none⟩ = some (.int .i64 x.du) ∧ w'.cell? ⟨gx, 5, none⟩ = some (.int .i64 x.la) ∧ w'.cell? ⟨gx, 6, none⟩ = some (.int .i64 x.ti) ∧ w'.cell? ⟨gx, 7, none⟩ = some (.int .i64 x.lp) ∧ w'.cell? ⟨gx, 8, none⟩ = some (.int .i64 x.bu) ∧ w'.cell? ⟨gy, 0, none⟩ = some (.int .i64 y.bl) ∧ w'.cell? ⟨gy, 1, none⟩ = some (.int .i64 y.no) ∧ w'.cell? ⟨gy, 2, none⟩ = some (.int .i64 y.st) ∧ w'.cell? ⟨gy, 3, none⟩ = some (.int .i64 y.ea) ∧ w'.cell? ⟨gy, 4, none⟩ = some (.int .i64 y.du) ∧ w'.cell? ⟨gy, 5, none⟩ = some (.int .i64 y.la) ∧ w'.cell? ⟨gy, 6, none⟩ = some (.int .i64 y.ti) ∧ w'.cell? ⟨gy, 7, none⟩ = some (.int .i64 y.lp) ∧ w'.cell? ⟨gy, 8, none⟩ = some (.int .i64 y.bu) ∧ gx < w'.heap.size ∧ gy < w'.heap.size) (simp [*, plus_plus, plus_cell, plus_size, lt_more1])
    (first | (go_at_call_of 54 (x.bl); refine (hx.out _).mono ?_; rintro e w' ⟨rfl, hb⟩; obtain ⟨os1, n1, rfl, hn1⟩ := hb.plus_; clear hb) | (go_at_call_of 54 (y.bl); refine (hy.out _).mono ?_; rintro e w' ⟨rfl, hb⟩; obtain ⟨os2, n2, rfl, hn2⟩ := hb.plus_; clear hb) | (go_at_call 80; refine (hc.out _).mono ?_; rintro e w' ⟨rfl, hb⟩; obtain ⟨os3, n3, rfl, hn3⟩ := hb.plus_; clear hb))
  go_wp2
  go_ret
  exact ⟨rfl, HG.out.trans (by repeat (first | exact Grows.refl _ | refine Grows.drew ?_ | refine Grows.alloc ?_ _ | refine Grows.plus ?_ (by first | assumption | exact Nat.le_trans (Nat.le_succ _) (by assumption) | (have h0 := hn1; have h1 := hn2; have h2 := hn3; simp only [World.drew, plus] at *; omega))))⟩

end Go.Proofs.Ytokghdcfbbogdaa
