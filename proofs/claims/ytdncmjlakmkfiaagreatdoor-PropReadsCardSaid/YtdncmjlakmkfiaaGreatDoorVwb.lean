/-
  WALKS: a reader of values: what is there; a date, a span.
-/
import Derived.Test.YtdncmjlakmkfiaaGreatDoorVrm
import Derived.Test.YtdncmjlakmkfiaaGreatDoorPfl
import Derived.Test.YtdncmjlakmkfiaaGreatDoorRrb
import Derived.Laws.ResultCell
import Derived.IntWalk
import Derived.Deep.RegionHeld3
import Derived.Test.YtdncmjlakmkfiaaGreatDoorVra
set_option linter.all false
namespace Go.Proofs.YtdncmjlakmkfiaaGreatDoor
open Go.RowKit

theorem res_cellV {P : Program} {fn : Func} {p u : Tmp} {ty : TypeId} (h : fn.results = #[.cell p ty, .tmp u]) (tmps : Array Value) (w : World) (g : Nat) (t : TypeId) (cs : Array Value) (fr : Nat × Nat) (d : TypeDesc)
    (hp : tmps.getD p undef = .pointer (some ⟨g, 0, none⟩)) (hg : w.heap[g]? = some (.cells cs t fr)) (hu : P.underlying ty = some d) (hd : (match d with | .struct _ | .array _ _ => true | _ => false) = true) (hi : (P.info? ty).map (·.size) = some cs.size) :
    (results fn tmps).run P w = .ok (.tuple #[.agg cs, tmps.getD u undef]) w := by
  rw [results_cell_tmp h, hp]
  simp [asAddr, Result.andThen, run_loadVar_row w g t ty cs fr d hg hu hd hi]

set_option maxHeartbeats 3200000 in
set_option maxRecDepth 100000 in
theorem hasV_any (q : ByteArray) (p k : Nat) (s : ByteArray) (bad far : Bool) (w : World) (h : VR 118 w p s k bad far) :
    Calls Tryz.prog 99 #[.pointer (some ⟨p, 0, none⟩), .string q] w fun e w' => e = .returned (.bool (Lib.hasPrefix (rst s k) q.data.toList)) ∧ ∃ n, w' = w.drewN n := by
  have HP := hide (fun W => Tryz.hasPrefix_any (s.extract k s.size) q W)
  rw [rst_ext] at HP
  obtain ⟨c0, c1, c2, c3, z1, z2, z3, hp⟩ := h.cells
  have k0 : (0 : Int) ≤ (k : Int) := by omega
  have k1 : (k : Int) ≤ (s.size : Int) := by have := h.le; omega
  have k2 := h.le
  clear h
  go_enter Tryz.func99, Tryz.ntmps99
  go_wp2_with fail
  go_quiet ((go_at_call 50; exact Calls.quiet_of_same (HP.out _)))
  go_wp2
  go_ret
  exact ⟨rfl, _, rfl⟩

set_option maxHeartbeats 3200000 in
set_option maxRecDepth 100000 in
theorem takeV_no (q : ByteArray) (p k : Nat) (s : ByteArray) (bad far : Bool) (w : World) (hq : Lib.hasPrefix (rst s k) q.data.toList = false) (h : VR 118 w p s k bad far) :
    Calls Tryz.prog 97 #[.pointer (some ⟨p, 0, none⟩), .string q] w fun e w' => e = .returned (.bool false) ∧ VR 118 w' p s k bad far ∧ Trn p w w' := by
  have HH := hide (hasV_any q p k s bad far w h)
  rw [hq] at HH
  have HV := hide h
  clear hq h
  go_enter Tryz.func97, Tryz.ntmps97
  go_wp2_with (go_at_call 99; with_reducible refine (HH.out).mono ?_; rintro e w' ⟨rfl, n1, rfl⟩)
  go_ret
  exact ⟨rfl, HV.out.drewN _, Trn.of_below (by repeat (first | exact Below.refl _ _ | with_reducible refine bl_plus ?_ | with_reducible refine bl_alloc ?_ _ | with_reducible refine bl_drew ?_ | with_reducible refine bl_drewN ?_ _))⟩

set_option maxHeartbeats 3200000 in
set_option maxRecDepth 100000 in
theorem takeV_yes (q : ByteArray) (p k : Nat) (s : ByteArray) (bad far : Bool) (w : World) (m : Nat) (hm : q.size = m) (hq : Lib.hasPrefix (rst s k) q.data.toList = true) (h : VR 118 w p s k bad far) :
    Calls Tryz.prog 97 #[.pointer (some ⟨p, 0, none⟩), .string q] w fun e w' => e = .returned (.bool true) ∧ VR 118 w' p s (k + m) bad far ∧ Trn p w w' := by
  subst hm
  have HH := hide (hasV_any q p k s bad far w h)
  have hk : k + q.size ≤ s.size := by
    rcases rst_hp hq with h1 | h1
    · rwa [size_list] at h1
    · have := h.le
      have h2 := size_list q
      rw [h1] at h2
      simp only [List.length_nil] at h2
      omega
  rw [hq] at HH
  have hz := h.sz
  have HV := hide h
  obtain ⟨c0, c1, c2, c3, z1, z2, z3, hp⟩ := h.cells
  have x1 : IntKind.i64.wrap ((k : Int) + (q.size : Int)) = ((k + q.size : Nat) : Int) := by rw [wrap_small] <;> omega
  have HK := hide hk
  clear hq h hk
  go_enter Tryz.func97, Tryz.ntmps97
  go_wp2_with (go_at_call 99; with_reducible refine (HH.out).mono ?_; rintro e w' ⟨rfl, n1, rfl⟩)
  go_ret
  exact ⟨rfl, (HV.out.drewN _).at_ _ HK.out, (Trn.of_below (by repeat (first | exact Below.refl _ _ | with_reducible refine bl_plus ?_ | with_reducible refine bl_alloc ?_ _ | with_reducible refine bl_drew ?_ | with_reducible refine bl_drewN ?_ _))).set_ _⟩

set_option maxHeartbeats 3200000 in
set_option maxRecDepth 100000 in
theorem dateV_none (p k : Nat) (s : ByteArray) (bad far : Bool) (w : World) (hn : pDate (rst s k) = none) (h : VR 118 w p s k bad far) :
    Calls Tryz.prog 149 #[.pointer (some ⟨p, 0, none⟩)] w fun e w' => e = .returned (.tuple #[.int .i64 0, .bool false]) ∧ VR 118 w' p s k bad far ∧ Trn p w w' := by
  have hz := h.sz
  have hk := h.le
  have HV := hide h
  obtain ⟨c0, c1, c2, c3, z1, z2, z3, hp⟩ := h.cells
  have k0 : (0 : Int) ≤ (k : Int) := by omega
  have x1 : IntKind.i64.wrap ((s.size : Int) - (k : Int)) = (s.size : Int) - (k : Int) := IntWalk.i64_in _ (by omega)
  by_cases hl : s.size - k < 10
  · have x2 : decide ((s.size : Int) - (k : Int) < 10) = true := decide_eq_true (by omega)
    clear h hn hl
    go_enter Tryz.func149, Tryz.ntmps149
    go_wp2_with fail
    go_quiet (fail)
    go_wp2
    go_returns
    exact ⟨rfl, HV.out.drewN _, Trn.of_below (by repeat (first | exact Below.refl _ _ | with_reducible refine bl_plus ?_ | with_reducible refine bl_alloc ?_ _ | with_reducible refine bl_drew ?_ | with_reducible refine bl_drewN ?_ _))⟩
  · have x2 : decide ((s.size : Int) - (k : Int) < 10) = false := decide_eq_false (by omega)
    have x3 : IntKind.i64.wrap ((k : Int) + 10) = (k : Int) + 10 := IntWalk.i64_in _ (by omega)
    have x6 : (k : Int) ≤ (k : Int) + 10 := by omega
    have x7 : ((k : Int) + 10).toNat = k + 10 := by omega
    have x8 : (0 : Int) ≤ (k : Int) + 10 := by omega
    have x4 : k + 10 ≤ s.size := by omega
    have x5 : (k : Int) + 10 ≤ (s.size : Int) := by omega
    have HF := hide (fun W => isDateForm_any (s.extract k (k + 10)) W (by rw [ByteArray.size_extract]; omega))
    have hf : isDateF ((rst s k).take 10) = false := by
      unfold pDate at hn
      split at hn
      · cases hn
      · rename_i h1; simpa using h1
    rw [rst_part s k 10 x4, hf] at HF
    clear h hn hl hf
    go_enter Tryz.func149, Tryz.ntmps149
    go_wp2_with fail
    go_region_held3 (fun w' => w'.cell? ⟨p, 0, none⟩ = some (.string s) ∧ w'.cell? ⟨p, 1, none⟩ = some (.int .i64 k) ∧ p < w'.heap.size) (simp [*, plus_cell, plus_size, lt_more1, lt_more2, World.size_alloc])
      ((go_at_call 189; refine (HF.out _).mono ?_; rintro e w' ⟨rfl, hb⟩; obtain ⟨os7, n7, rfl⟩ := below_plus hb; clear hb))
    rename_i hHeld
    clear hHeld
    go_wp2
    go_returns
    exact ⟨rfl, HV.out.below_ (by repeat (first | exact Below.refl _ _ | with_reducible refine bl_plus ?_ | with_reducible refine bl_alloc ?_ _ | with_reducible refine bl_drew ?_ | with_reducible refine bl_drewN ?_ _)), Trn.of_below (by repeat (first | exact Below.refl _ _ | with_reducible refine bl_plus ?_ | with_reducible refine bl_alloc ?_ _ | with_reducible refine bl_drew ?_ | with_reducible refine bl_drewN ?_ _))⟩

theorem VR.two {T : TypeId} {w : World} {p k : Nat} {s : ByteArray} {bad far : Bool} (h : VR T w p s k bad far) (x : Bool) (v : Int) (hv : v = ((k + 10 : Nat) : Int)) (hk : k + 10 ≤ s.size) : VR T ((w.setCell ⟨p, 3, none⟩ (.bool x)).setCell ⟨p, 1, none⟩ (.int .i64 v)) p s (k + 10) bad x := by
  subst hv
  exact (h.far_ x).at_ _ hk

set_option maxHeartbeats 3200000 in
set_option maxRecDepth 100000 in
theorem dateV_some (p k : Nat) (s : ByteArray) (bad far : Bool) (w : World) (hf : isDateF ((rst s k).take 10) = true) (h : VR 118 w p s k bad far) :
    Calls Tryz.prog 149 #[.pointer (some ⟨p, 0, none⟩)] w fun e w' => e = .returned (.tuple #[.int .i64 (dateR ((rst s k).take 10)).1, .bool true]) ∧ VR 118 w' p s (k + 10) bad (far || farB ((rst s k).take 10)) ∧ Trn p w w' := by
  have hz := h.sz
  have hk := h.le
  have HV := hide h
  obtain ⟨c0, c1, c2, c3, z1, z2, z3, hp⟩ := h.cells
  have k0 : (0 : Int) ≤ (k : Int) := by omega
  have hl : k + 10 ≤ s.size := by
    have := (date_mem hf).1
    rw [List.length_take, rst_len] at this
    omega
  have x1 : IntKind.i64.wrap ((s.size : Int) - (k : Int)) = (s.size : Int) - (k : Int) := IntWalk.i64_in _ (by omega)
  have x2 : decide ((s.size : Int) - (k : Int) < 10) = false := decide_eq_false (by omega)
  have x3 : IntKind.i64.wrap ((k : Int) + 10) = (k : Int) + 10 := IntWalk.i64_in _ (by omega)
  have x6 : (k : Int) ≤ (k : Int) + 10 := by omega
  have x7 : ((k : Int) + 10).toNat = k + 10 := by omega
  have x8 : (0 : Int) ≤ (k : Int) + 10 := by omega
  have x5 : (k : Int) + 10 ≤ (s.size : Int) := by omega
  have HF := hide (fun W => isDateForm_any (s.extract k (k + 10)) W (by rw [ByteArray.size_extract]; omega))
  have HR := hide (fun W => readDate_any (s.extract k (k + 10)) W (by rw [ByteArray.size_extract]; omega))
  rw [rst_part s k 10 hl] at HF HR
  rw [hf] at HF
  unfold farB
  have hE : ((dateR ((rst s k).take 10)).2 != 0) = decide ((dateR ((rst s k).take 10)).2 ≠ 0) := by
    cases hd : decide ((dateR ((rst s k).take 10)).2 ≠ 0) with
    | true => rw [bne_iff_ne]; exact of_decide_eq_true hd
    | false => rw [bne_eq_false_iff_eq]; simpa using hd
  generalize decide ((dateR ((rst s k).take 10)).2 ≠ 0) = FB at *
  generalize dateR ((rst s k).take 10) = D at *
  obtain ⟨D1, D2⟩ := D
  simp only at hE HR
  have HE := hide hE
  have HL := hide hl
  clear h hf hE
  cases far
  all_goals
    go_enter Tryz.func149, Tryz.ntmps149
    go_wp2_with fail
    go_region_held3 (fun w' => w'.cell? ⟨p, 0, none⟩ = some (.string s) ∧ w'.cell? ⟨p, 1, none⟩ = some (.int .i64 k) ∧ p < w'.heap.size) (simp [*, plus_cell, plus_size, lt_more1, lt_more2, World.size_alloc])
      ((go_at_call 189; refine (HF.out _).mono ?_; rintro e w' ⟨rfl, hb⟩; obtain ⟨os7, n7, rfl⟩ := below_plus hb; clear hb))
    rename_i hHeld
    clear hHeld
    go_wp2_with fail
    go_region_held3 (fun w' => w'.cell? ⟨p, 0, none⟩ = some (.string s) ∧ w'.cell? ⟨p, 1, none⟩ = some (.int .i64 k) ∧ p < w'.heap.size) (simp [*, plus_cell, plus_size, lt_more1, lt_more2, World.size_alloc])
      ((go_at_call 190; refine (HR.out _).mono ?_; rintro e w' ⟨rfl, hb⟩; obtain ⟨os8, n8, rfl⟩ := below_plus hb; clear hb))
    rename_i hHeld
    clear hHeld
    have hE2 := HE.out
    go_wp2
    go_returns
    exact ⟨rfl, (((HV.out.two _ _ (by omega) HL.out).plus _ _).plus _ _), ((((Trn.refl p w).set_ _).set_ _).plus _ _).plus _ _⟩

end Go.Proofs.YtdncmjlakmkfiaaGreatDoor
/-
  WALKS: a reader of values: days, a number, a link.
-/
namespace Go.Proofs.YtdncmjlakmkfiaaGreatDoor
open Go.RowKit

theorem rst_cons {s : ByteArray} {k : Nat} (h : k < s.size) : rst s k = s[k] :: rst s (k + 1) := by
  unfold rst
  rw [List.drop_eq_getElem_cons (by rw [size_list]; exact h)]
  rfl

theorem pDays_at {s : ByteArray} {k : Nat} (hf : isDateF ((rst s k).take 10) = true) : pDays (rst s k) = some (if Lib.hasPrefix (rst s (k + 10)) [46, 46] = true then pTo (dateR ((rst s k).take 10)).1 (farB ((rst s k).take 10)) (rst s (k + 10 + 2)) else some (vDate (dateR ((rst s k).take 10)).1, rst s (k + 10), farB ((rst s k).take 10))) := by
  unfold pDays pDate
  rw [if_pos hf]
  simp only [rst_drop, Nat.add_assoc]

theorem pDate_form {s : ByteArray} {k : Nat} : (pDate (rst s k) = none) ∨ (isDateF ((rst s k).take 10) = true ∧ pDate (rst s k) = some ((dateR ((rst s k).take 10)).1, rst s (k + 10), farB ((rst s k).take 10))) := by
  unfold pDate
  by_cases h : isDateF ((rst s k).take 10) = true
  · rw [if_pos h, rst_drop]; exact .inr ⟨h, rfl⟩
  · rw [if_neg h]; exact .inl rfl

set_option maxHeartbeats 3200000 in
set_option maxRecDepth 100000 in
theorem daysV_none (p k : Nat) (s : ByteArray) (far : Bool) (w : World) (hn : pDate (rst s k) = none) (h : VR 118 w p s k false far) :
    Calls Tryz.prog 102 #[.pointer (some ⟨p, 0, none⟩)] w fun e w' => e = .returned (.tuple #[.agg #[.int .i64 0, .int .i64 0, .int .i64 0, .string ⟨#[]⟩, .slice none 0 0], .bool false]) ∧ VR 118 w' p s k false far ∧ Trn p w w' := by
  have HS := hide (St.start h)
  obtain ⟨⟨c0, c1, c2, c3, z1, z2, z3, hp⟩, ⟨d0, d1, d2, d3, d4, y0, y1, y2, y3, y4, hg⟩, hne, hne2⟩ := HS.out.cells
  have HN := hide hn
  clear h hn
  go_enter Tryz.func102, Tryz.ntmps102
  go_wp2_with (go_at_call 149; with_reducible refine (dateV_none _ _ _ _ _ _ HN.out HS.out.vr).mono ?_; rintro e W1 ⟨rfl, hv, ht⟩; have HS1 := hide (HS.out.step ht hv); clear c0 c1 c2 c3 z1 z2 z3 hp d0 d1 d2 d3 d4 y0 y1 y2 y3 y4 hg hne hne2; clear HS ht hv; have HS := HS1; clear HS1; obtain ⟨⟨c0, c1, c2, c3, z1, z2, z3, hp⟩, ⟨d0, d1, d2, d3, d4, y0, y1, y2, y3, y4, hg⟩, hne, hne2⟩ := HS.out.cells)
  refine bodyPost_ret (res_cellV (P := Tryz.prog) (fn := Tryz.f102) (p := 2) (u := 3) rfl _ _ _ 24 #[.int .i64 0, .int .i64 0, .int .i64 0, .string ⟨#[]⟩, .slice none 0 0] (0, 0) _ rfl (HS.out.end _ _ _ _ _).1 Tryz.underlying24 rfl (by kernel_rfl)) rfl ?_
  exact ⟨rfl, (HS.out.end _ _ _ _ _).2.2.1, (HS.out.end _ _ _ _ _).2.2.2⟩

/-- What days hands out. -/
def DaysOut (p k : Nat) (s : ByteArray) (far : Bool) (O : Got) (w : World) (e : Ending) (w' : World) : Prop := ∃ x : V, x.l = [] ∧ e = .returned (.tuple #[x.flat, .bool true]) ∧ Trn p w w' ∧ ∃ (k' : Nat) (b' f' : Bool), VR 118 w' p s k' b' f' ∧ k ≤ k' ∧ GotIs O s far x k' b' f'

set_option maxHeartbeats 3200000 in
set_option maxRecDepth 100000 in
theorem daysV_some (p k : Nat) (s : ByteArray) (far : Bool) (w : World) (hf : isDateF ((rst s k).take 10) = true) (O : Got) (hO : pDays (rst s k) = some O) (h : VR 118 w p s k false far) :
    Calls Tryz.prog 102 #[.pointer (some ⟨p, 0, none⟩)] w (DaysOut p k s far O w) := by
  rw [pDays_at hf] at hO
  injection hO with hO
  have HS := hide (St.start h)
  obtain ⟨⟨c0, c1, c2, c3, z1, z2, z3, hp⟩, ⟨d0, d1, d2, d3, d4, y0, y1, y2, y3, y4, hg⟩, hne, hne2⟩ := HS.out.cells
  have HD := hide hf
  clear h hf
  cases hdd : Lib.hasPrefix (rst s (k + 10)) [46, 46] with
  | false =>
    rw [hdd] at hO
    simp only [Bool.false_eq_true, if_false] at hO
    have HT := hide (show Lib.hasPrefix (rst s (k + 10)) (⟨#[46, 46]⟩ : ByteArray).data.toList = false from hdd)
    have HO := hide hO
    clear hO hdd
    go_enter Tryz.func102, Tryz.ntmps102
    go_wp2_with (first | (go_at_call 149; with_reducible refine (dateV_some _ _ _ _ _ _ HD.out HS.out.vr).mono ?_; rintro e W1 ⟨rfl, hv, ht⟩; have HS1 := hide (HS.out.step ht hv); clear c0 c1 c2 c3 z1 z2 z3 hp d0 d1 d2 d3 d4 y0 y1 y2 y3 y4 hg hne hne2; clear HS ht hv; have HS := HS1; clear HS1; obtain ⟨⟨c0, c1, c2, c3, z1, z2, z3, hp⟩, ⟨d0, d1, d2, d3, d4, y0, y1, y2, y3, y4, hg⟩, hne, hne2⟩ := HS.out.cells) | (go_at_call 97; with_reducible refine (takeV_no _ _ _ _ _ _ _ HT.out HS.out.vr).mono ?_; rintro e W1 ⟨rfl, hv, ht⟩; have HS1 := hide (HS.out.step ht hv); clear c0 c1 c2 c3 z1 z2 z3 hp d0 d1 d2 d3 d4 y0 y1 y2 y3 y4 hg hne hne2; clear HS ht hv; have HS := HS1; clear HS1; obtain ⟨⟨c0, c1, c2, c3, z1, z2, z3, hp⟩, ⟨d0, d1, d2, d3, d4, y0, y1, y2, y3, y4, hg⟩, hne, hne2⟩ := HS.out.cells))
    refine bodyPost_ret (res_cellV (P := Tryz.prog) (fn := Tryz.f102) (p := 2) (u := 3) rfl _ _ _ 24 #[.int .i64 4, .int .i64 (dateR ((rst s k).take 10)).1, .int .i64 0, .string ⟨#[]⟩, .slice none 0 0] (0, 0) _ rfl (HS.out.end _ _ _ _ _).1 Tryz.underlying24 rfl (by kernel_rfl)) rfl ?_
    refine ⟨vDate (dateR ((rst s k).take 10)).1, rfl, rfl, (HS.out.end _ _ _ _ _).2.2.2, _, _, _, (HS.out.end _ _ _ _ _).2.2.1, by omega, .inr ⟨_, _, HO.out.symm, rfl, rfl, rfl⟩⟩
  | true =>
    rw [hdd] at hO
    simp only [if_true] at hO
    have HT := hide (show Lib.hasPrefix (rst s (k + 10)) (⟨#[46, 46]⟩ : ByteArray).data.toList = true from hdd)
    rcases pDate_form (s := s) (k := k + 10 + 2) with hn | ⟨hf2, hs2⟩
    · unfold pTo at hO
      rw [hn] at hO
      have HN := hide (show pDate (rst s (k + 10 + 2)) = none from hn)
      have HO := hide hO
      clear hO hdd hn
      go_enter Tryz.func102, Tryz.ntmps102
      go_wp2_with (first | (go_at_call 149; with_reducible refine (dateV_some _ _ _ _ _ _ HD.out HS.out.vr).mono ?_; rintro e W1 ⟨rfl, hv, ht⟩; have HS1 := hide (HS.out.step ht hv); clear c0 c1 c2 c3 z1 z2 z3 hp d0 d1 d2 d3 d4 y0 y1 y2 y3 y4 hg hne hne2; clear HS ht hv; have HS := HS1; clear HS1; obtain ⟨⟨c0, c1, c2, c3, z1, z2, z3, hp⟩, ⟨d0, d1, d2, d3, d4, y0, y1, y2, y3, y4, hg⟩, hne, hne2⟩ := HS.out.cells) | (go_at_call 97; with_reducible refine (takeV_yes _ _ _ _ _ _ _ 2 rfl HT.out HS.out.vr).mono ?_; rintro e W1 ⟨rfl, hv, ht⟩; have HS1 := hide (HS.out.step ht hv); clear c0 c1 c2 c3 z1 z2 z3 hp d0 d1 d2 d3 d4 y0 y1 y2 y3 y4 hg hne hne2; clear HS ht hv; have HS := HS1; clear HS1; obtain ⟨⟨c0, c1, c2, c3, z1, z2, z3, hp⟩, ⟨d0, d1, d2, d3, d4, y0, y1, y2, y3, y4, hg⟩, hne, hne2⟩ := HS.out.cells) | (go_at_call 149; with_reducible refine (dateV_none _ _ _ _ _ _ HN.out HS.out.vr).mono ?_; rintro e W1 ⟨rfl, hv, ht⟩; have HS1 := hide (HS.out.step ht hv); clear c0 c1 c2 c3 z1 z2 z3 hp d0 d1 d2 d3 d4 y0 y1 y2 y3 y4 hg hne hne2; clear HS ht hv; have HS := HS1; clear HS1; obtain ⟨⟨c0, c1, c2, c3, z1, z2, z3, hp⟩, ⟨d0, d1, d2, d3, d4, y0, y1, y2, y3, y4, hg⟩, hne, hne2⟩ := HS.out.cells))
      have HS1 := hide (HS.out.bad_ true)
      clear HS
      have HS := HS1
      refine bodyPost_ret (res_cellV (P := Tryz.prog) (fn := Tryz.f102) (p := 2) (u := 3) rfl _ _ _ 24 #[.int .i64 5, .int .i64 (dateR ((rst s k).take 10)).1, .int .i64 0, .string ⟨#[]⟩, .slice none 0 0] (0, 0) _ rfl (HS.out.end _ _ _ _ _).1 Tryz.underlying24 rfl (by kernel_rfl)) rfl ?_
      refine ⟨vSpan (dateR ((rst s k).take 10)).1 0, rfl, rfl, (HS.out.end _ _ _ _ _).2.2.2, _, _, _, (HS.out.end _ _ _ _ _).2.2.1, by omega, .inl ⟨HO.out.symm, rfl⟩⟩
    · unfold pTo at hO
      rw [hs2] at hO
      have HD2 := hide (show isDateF ((rst s (k + 10 + 2)).take 10) = true from hf2)
      have HO := hide hO
      clear hO hdd hf2 hs2
      go_enter Tryz.func102, Tryz.ntmps102
      go_wp2_with (first | (go_at_call 149; with_reducible refine (dateV_some _ _ _ _ _ _ HD.out HS.out.vr).mono ?_; rintro e W1 ⟨rfl, hv, ht⟩; have HS1 := hide (HS.out.step ht hv); clear c0 c1 c2 c3 z1 z2 z3 hp d0 d1 d2 d3 d4 y0 y1 y2 y3 y4 hg hne hne2; clear HS ht hv; have HS := HS1; clear HS1; obtain ⟨⟨c0, c1, c2, c3, z1, z2, z3, hp⟩, ⟨d0, d1, d2, d3, d4, y0, y1, y2, y3, y4, hg⟩, hne, hne2⟩ := HS.out.cells) | (go_at_call 97; with_reducible refine (takeV_yes _ _ _ _ _ _ _ 2 rfl HT.out HS.out.vr).mono ?_; rintro e W1 ⟨rfl, hv, ht⟩; have HS1 := hide (HS.out.step ht hv); clear c0 c1 c2 c3 z1 z2 z3 hp d0 d1 d2 d3 d4 y0 y1 y2 y3 y4 hg hne hne2; clear HS ht hv; have HS := HS1; clear HS1; obtain ⟨⟨c0, c1, c2, c3, z1, z2, z3, hp⟩, ⟨d0, d1, d2, d3, d4, y0, y1, y2, y3, y4, hg⟩, hne, hne2⟩ := HS.out.cells) | (go_at_call 149; with_reducible refine (dateV_some _ _ _ _ _ _ HD2.out HS.out.vr).mono ?_; rintro e W1 ⟨rfl, hv, ht⟩; have HS1 := hide (HS.out.step ht hv); clear c0 c1 c2 c3 z1 z2 z3 hp d0 d1 d2 d3 d4 y0 y1 y2 y3 y4 hg hne hne2; clear HS ht hv; have HS := HS1; clear HS1; obtain ⟨⟨c0, c1, c2, c3, z1, z2, z3, hp⟩, ⟨d0, d1, d2, d3, d4, y0, y1, y2, y3, y4, hg⟩, hne, hne2⟩ := HS.out.cells))
      have HS1 := hide (HS.out.bad_ false)
      clear HS
      have HS := HS1
      refine bodyPost_ret (res_cellV (P := Tryz.prog) (fn := Tryz.f102) (p := 2) (u := 3) rfl _ _ _ 24 #[.int .i64 5, .int .i64 (dateR ((rst s k).take 10)).1, .int .i64 (dateR ((rst s (k + 10 + 2)).take 10)).1, .string ⟨#[]⟩, .slice none 0 0] (0, 0) _ rfl (HS.out.end _ _ _ _ _).1 Tryz.underlying24 rfl (by kernel_rfl)) rfl ?_
      refine ⟨vSpan (dateR ((rst s k).take 10)).1 (dateR ((rst s (k + 10 + 2)).take 10)).1, rfl, rfl, (HS.out.end _ _ _ _ _).2.2.2, _, _, _, (HS.out.end _ _ _ _ _).2.2.1, by omega, .inr ⟨_, _, HO.out.symm, rfl, Bool.or_assoc _ _ _, rfl⟩⟩

theorem extract_strOf (s : ByteArray) (k n : Nat) (h : 2 ≤ n) : s.extract (k + 2) (k + n) = strOf (((rst s k).drop 2).take (n - 2)) := by
  rw [Lib.extract_eq, rst_drop]
  unfold strOf rst
  rw [show k + n - (k + 2) = n - 2 by omega]

theorem index_bd {l : List UInt8} {x y : UInt8} {n : Nat} (h : Lib.index l [x, y] = n) : n + 2 ≤ l.length := by
  have := congrArg List.length (index_back x y l n h)
  rw [List.length_append, List.length_cons, List.length_cons, List.length_drop, List.length_take] at this
  omega

set_option maxHeartbeats 3200000 in
set_option maxRecDepth 100000 in
theorem linkV_any (p k : Nat) (s : ByteArray) (far : Bool) (w : World) (hM : ∀ w', Trn p w w' → MaxTold w') (h : VR 118 w p s k false far) :
    Calls Tryz.prog 100 #[.pointer (some ⟨p, 0, none⟩)] w (LeafOut 118 p s k far (pLk (rst s k)) w) := by
  have hz := h.sz
  have hk := h.le
  have HS := hide (St.start h)
  obtain ⟨⟨c0, c1, c2, c3, z1, z2, z3, hp⟩, ⟨d0, d1, d2, d3, d4, y0, y1, y2, y3, y4, hg⟩, hne, hne2⟩ := HS.out.cells
  have k0 : (0 : Int) ≤ (k : Int) := by omega
  have k1 : (k : Int) ≤ (s.size : Int) := by omega
  have HI := hide (fun W hm => Tryz.index_any (s.extract k s.size) ⟨#[93, 93]⟩ W hm (by rw [ByteArray.size_extract]; omega))
  rw [rst_ext] at HI
  have HM := hide hM
  have HP := hide h.blk.lt
  clear h hM
  by_cases hi : Lib.index (rst s k) [93, 93] < 2
  · have hO : pLk (rst s k) = none := if_pos hi
    rw [hO]
    have hi2 : decide (Lib.index (rst s k) [93, 93] < 2) = true := decide_eq_true hi
    have HI2 : Hid (∀ W, MaxTold W → Calls Tryz.prog 60 #[.string (s.extract k s.size), .string ⟨#[93, 93]⟩] W fun e w' => e = .returned (.int .i64 (Lib.index (rst s k) [93, 93])) ∧ w' = W) := HI
    clear HI hO
    generalize Lib.index (rst s k) [93, 93] = n at *
    go_enter Tryz.func100, Tryz.ntmps100
    go_wp2_with fail
    go_quiet ((go_at_call 60; exact Calls.quiet_of_same (HI2.out _ (HM.out _ (Trn.of_below (by repeat (first | exact Below.refl _ _ | with_reducible refine bl_plus ?_ | with_reducible refine bl_alloc ?_ _ | with_reducible refine bl_drew ?_ | with_reducible refine bl_drewN ?_ _)))))))
    go_wp2
    refine bodyPost_ret (results_cell_row (P := Tryz.prog) (by rfl) _ _ _ 24 #[.int .i64 0, .int .i64 0, .int .i64 0, .string ⟨#[]⟩, .slice none 0 0] (0, 0) _ rfl (((HS.out.drewN _).bad_ true).end _ _ _ _ _).1 Tryz.underlying24 rfl (by kernel_rfl)) rfl ?_
    exact ⟨vN, rfl, rfl, (((HS.out.drewN _).bad_ true).end _ _ _ _ _).2.2.2, _, _, _, (((HS.out.drewN _).bad_ true).end _ _ _ _ _).2.2.1, Nat.le_refl _, .inl ⟨rfl, rfl⟩⟩
  · obtain ⟨n, hn⟩ : ∃ n : Nat, Lib.index (rst s k) [93, 93] = n := ⟨(Lib.index (rst s k) [93, 93]).toNat, by omega⟩
    have hO : pLk (rst s k) = some (vLink (((rst s k).drop 2).take (n - 2)), (rst s k).drop (n + 2), false) := by
      unfold pLk
      rw [if_neg hi, hn]
      rfl
    have hb := index_bd hn
    rw [rst_len] at hb
    rw [hO]
    rw [hn] at hi
    have HI2 : Hid (∀ W, MaxTold W → Calls Tryz.prog 60 #[.string (s.extract k s.size), .string ⟨#[93, 93]⟩] W fun e w' => e = .returned (.int .i64 (Lib.index (rst s k) [93, 93])) ∧ w' = W) := HI
    rw [hn] at HI2
    have hX := hide (extract_strOf s k n (by omega))
    have HR := hide (rst_drop s k (n + 2))
    clear HI hO hn
    have hi2 : decide ((n : Int) < 2) = false := decide_eq_false hi
    have hi3 : decide (n < 2) = false := decide_eq_false (by omega)
    have a1 : IntKind.i64.wrap ((k : Int) + 2) = (k : Int) + 2 := IntWalk.i64_in _ (by omega)
    have a2 : IntKind.i64.wrap ((k : Int) + (n : Int)) = (k : Int) + (n : Int) := IntWalk.i64_in _ (by omega)
    have a3 : (0 : Int) ≤ (k : Int) + 2 := by omega
    have a4 : (k : Int) + 2 ≤ (k : Int) + (n : Int) := by omega
    have a5 : (k : Int) + (n : Int) ≤ (s.size : Int) := by omega
    have a6 : ((k : Int) + 2).toNat = k + 2 := by omega
    have a7 : ((k : Int) + (n : Int)).toNat = k + n := by omega
    have a8 : IntKind.i64.wrap ((n : Int) + 2) = (n : Int) + 2 := IntWalk.i64_in _ (by omega)
    have a9 : IntKind.i64.wrap ((k : Int) + ((n : Int) + 2)) = ((k + (n + 2) : Nat) : Int) := by rw [wrap_small] <;> omega
    have HL := hide (show k + (n + 2) ≤ s.size by omega)
    clear hi hb
    go_enter Tryz.func100, Tryz.ntmps100
    go_wp2_with fail
    go_quiet ((go_at_call 60; exact Calls.quiet_of_same (HI2.out _ (HM.out _ (Trn.of_below (by repeat (first | exact Below.refl _ _ | with_reducible refine bl_plus ?_ | with_reducible refine bl_alloc ?_ _ | with_reducible refine bl_drew ?_ | with_reducible refine bl_drewN ?_ _)))))))
    go_wp2
    go_quiet (fail)
    go_wp2
    refine bodyPost_ret (results_cell_row (P := Tryz.prog) (by rfl) _ _ _ 24 #[.int .i64 6, .int .i64 0, .int .i64 0, .string (s.extract (k + 2) (k + n)), .slice none 0 0] (0, 0) _ rfl (((HS.out.drewN _).at_ _ HL.out).end _ _ _ _ _).1 Tryz.underlying24 rfl (by kernel_rfl)) rfl ?_
    exact ⟨.mk 6 0 0 (s.extract (k + 2) (k + n)) [], rfl, rfl, (((HS.out.drewN _).at_ _ HL.out).end _ _ _ _ _).2.2.2, _, _, _, (((HS.out.drewN _).at_ _ HL.out).end _ _ _ _ _).2.2.1, by omega, .inr ⟨_, false, by rw [hX.out]; rfl, rfl, (Bool.or_false _).symm, HR.out.symm⟩⟩


end Go.Proofs.YtdncmjlakmkfiaaGreatDoor
