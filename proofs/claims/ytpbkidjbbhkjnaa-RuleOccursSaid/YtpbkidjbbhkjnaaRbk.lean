/-
  WALKS: the program's Occurs, Next, Before, Number and Between.
-/
import Derived.Test.YtpbkidjbbhkjnaaRbj
import Derived.Test.YtpbkidjbbhkjnaaRbb
namespace Go.Proofs.Ytpbkidjbbhkjnaa
open Go.RowKit Cal

/-- The error of a rule and a day. -/
def atErr (r : Rul) (d : Int) : Int := if r.err = 0 then dayErr d else r.err
theorem atErr_ok {r : Rul} {d : Int} (h : atErr r d = 0) : r.Ok ∧ 0 ≤ d ∧ d ≤ 100000 := by
  unfold atErr at h
  split at h
  · rename_i he
    unfold dayErr at h
    split at h
    · cases h
    · exact ⟨Rul.ok he, by omega, by omega⟩
  · rename_i he
    exact absurd h he
/-- Does a rule occur on a day? -/
def hasDay (r : Rul) (d : Int) : Bool := r.occ.contains d
def occR (r : Rul) (d : Int) : Bool × Int := if atErr r d = 0 then (hasDay r d, 0) else (false, atErr r d)
def numR (r : Rul) (d : Int) : Int × Int := if atErr r d = 0 then ((cntLe d r.occ : Nat), 0) else (0, atErr r d)
def befF (x : Int) : Int × Int := if x < 0 then (0, 7) else (x, 0)
def befR (r : Rul) (d : Int) : Int × Int := if atErr r d = 0 then befF (lastLt d r.occ) else (0, atErr r d)
def nxF (o : Option Int) : Int × Int := match o with
  | none => (0, 7)
  | some x => (x, 0)
/-- The days from one to another, and the error. -/
def btwR (r : Rul) (f t : Int) : List Int × Int := if r.err = 0 then (if spanErr f t = 0 then (inFT f t r.occ, 0) else ([], spanErr f t)) else ([], r.err)
def nxR (r : Rul) (d : Int) : Int × Int := if atErr r d = 0 then nxF (r.nxt d) else (0, atErr r d)

theorem visit_contains {l : List Int} {day : Int} (h : l.Pairwise (· < ·)) : (visit (fun d => decide (d < day)) l).contains day = l.contains day := by
  have h1 := visit_filter (day := day) (p := fun x => decide (x = day)) (fun d hd => by simp only [decide_eq_true_eq] at hd; omega) h
  have key : ∀ m : List Int, m.contains day = !(m.filter (fun x => decide (x = day))).isEmpty := by
    intro m
    rw [Bool.eq_iff_iff]
    simp [List.filter_eq_nil_iff]
  rw [key, key, h1]
theorem visit_hasDay (r : Rul) (d : Int) : (visit (fun x => decide (x < d)) r.occ).contains d = hasDay r d := visit_contains r.occ_rising
theorem visit_cntLe {l : List Int} {day : Int} (h : l.Pairwise (· < ·)) : cntLe day (visit (fun d => decide (d < day)) l) = cntLe day l := by
  unfold cntLe
  rw [visit_filter (day := day) (fun d hd => by simpa using hd) h]
theorem visit_lastLt {l : List Int} {day : Int} (h : l.Pairwise (· < ·)) : lastLt day (visit (fun d => decide (d < day)) l) = lastLt day l := by
  unfold lastLt
  rw [visit_filter (day := day) (fun d hd => by simp only [decide_eq_true_eq] at hd; omega) h]
theorem visit_inFT {l : List Int} {f t : Int} (h : l.Pairwise (· < ·)) : inFT f t (visit (fun d => decide (d < t)) l) = inFT f t l := by
  unfold inFT
  exact visit_filter (day := t) (fun d hd => by simp only [decide_eq_true_eq] at hd; omega) h

set_option maxHeartbeats 400000 in
theorem clipInts_any (A : Option Addr) (n c : Nat) (w : World) (hn : n ≤ c) (hc : c ≤ maxLen) :
    Calls Try.prog 55 #[.slice A n c] w fun e w' => e = .returned (.slice A n n) ∧ w = w' := by
  have hc' := hc
  unfold maxLen at hc'
  clear hc
  have i1 : (n : Int) ≤ (c : Int) := by omega
  go_enter Try.func55, Try.ntmps55
  go_wp2
  go_ret
  exact ⟨rfl, rfl⟩

set_option maxHeartbeats 1600000 in
set_option maxRecDepth 100000 in
theorem checkAt_any (r : Rul) (v : Value) (d : Int) (w : World) (hr : RulAt w r v) :
    Calls Try.prog 36 #[v, .int .i64 d] w fun e w' => e = .returned (.int .i64 (atErr r d)) ∧ Below w.heap.size w w' := by
  have HR := hide hr
  obtain ⟨A, B, C, a, b, c, rfl, h1, h2, h3, h4, h5, h6⟩ := hr.ex
  unfold maxLen at h4 h5 h6
  have HC := hide (fun w' hb => checkRule_any r _ w' (HR.out.below hb))
  have HD := hide (fun w => checkDay_any d w)
  unfold atErr
  clear h1 h2 h3 hr
  by_cases hE : r.err = 0
  · rw [if_pos hE]
    rw [hE] at HC
    clear hE
    generalize dayErr d = X at *
    go_enter Try.func36, Try.ntmps36
    go_wp2_with (first | (go_at_call 28; (with_reducible refine (HC.out _ (by repeat (first | exact Below.refl _ _ | refine bl_plus ?_ | refine bl_alloc ?_ _ | refine bl_drew ?_ | refine bl_drewN ?_ _))).mono ?_); rintro e w' ⟨rfl, hbl⟩; obtain ⟨os1, n1, rfl⟩ := below_plus hbl; clear hbl) | (go_at_call 51; (with_reducible refine (HD.out _).mono ?_); rintro e w' ⟨rfl, rfl⟩))
    go_ret
    exact ⟨rfl, (by repeat (first | exact Below.refl _ _ | refine bl_plus ?_ | refine bl_alloc ?_ _ | refine bl_drew ?_ | refine bl_drewN ?_ _))⟩
  · rw [if_neg hE]
    generalize r.err = X at *
    have hX : (X == 0) = false := by simp [hE]
    have hX2 : (X != 0) = true := by rw [bne, hX]; rfl
    clear hE
    go_enter Try.func36, Try.ntmps36
    go_wp2_with (first | (go_at_call 28; (with_reducible refine (HC.out _ (by repeat (first | exact Below.refl _ _ | refine bl_plus ?_ | refine bl_alloc ?_ _ | refine bl_drew ?_ | refine bl_drewN ?_ _))).mono ?_); rintro e w' ⟨rfl, hbl⟩; obtain ⟨os1, n1, rfl⟩ := below_plus hbl; clear hbl))
    go_ret
    exact ⟨rfl, (by repeat (first | exact Below.refl _ _ | refine bl_plus ?_ | refine bl_alloc ?_ _ | refine bl_drew ?_ | refine bl_drewN ?_ _))⟩

set_option maxHeartbeats 3200000 in
set_option maxRecDepth 100000 in
theorem occurs_any (r : Rul) (v : Value) (d : Int) (w : World) (hr : RulAt w r v) :
    Calls Try.prog 14 #[v, .int .i64 d] w fun e w' => e = .returned (.tuple #[.bool (occR r d).1, .int .i64 (occR r d).2]) ∧ Below w.heap.size w w' := by
  have HR := hide hr
  obtain ⟨A, B, C, a, b, c, rfl, h1, h2, h3, h4, h5, h6⟩ := hr.ex
  unfold maxLen at h4 h5 h6
  have HCA := hide (fun w' hb => checkAt_any r _ d w' (HR.out.below hb))
  unfold occR
  by_cases hE : atErr r d = 0
  · obtain ⟨hok, d0, d1⟩ := atErr_ok hE
    rw [if_pos hE]
    rw [hE] at HCA
    have HOK := hide hok
    clear hE hok h1 h2 h3 hr
    go_enter Try.func14, Try.ntmps14
    go_upto_region 5 with (first | (go_at_call 36; (with_reducible refine (HCA.out _ (by repeat (first | exact Below.refl _ _ | refine bl_plus ?_ | refine bl_alloc ?_ _ | refine bl_drew ?_ | refine bl_drewN ?_ _))).mono ?_); rintro e w' ⟨rfl, hbl⟩; obtain ⟨os1, n1, rfl⟩ := below_plus hbl; clear hbl))
    have hVB : Below w.heap.size w ((plus ((w.alloc (.cells #[.int .i64 r.u, .int .i64 r.e, .int .i64 r.f, .int .i64 r.t, .int .i64 r.c, .slice A r.wd.length a, .slice B r.da.length b, .int .i64 r.n, .slice C r.sk.length c] 35)).alloc (.cells #[.int .i64 d] 3)) os1 n1).alloc (.cells #[.bool false] 4)) := (by repeat (first | exact Below.refl _ _ | refine bl_plus ?_ | refine bl_alloc ?_ _ | refine bl_drew ?_ | refine bl_drewN ?_ _))
    have HVD := hide (show Blk ((plus ((w.alloc (.cells #[.int .i64 r.u, .int .i64 r.e, .int .i64 r.f, .int .i64 r.t, .int .i64 r.c, .slice A r.wd.length a, .slice B r.da.length b, .int .i64 r.n, .slice C r.sk.length c] 35)).alloc (.cells #[.int .i64 d] 3)) os1 n1).alloc (.cells #[.bool false] 4)) (w.heap.size + 1) 3 #[.int .i64 d] from Blk.alloc (Blk.plus (by have := Blk.new (w.alloc (.cells #[.int .i64 r.u, .int .i64 r.e, .int .i64 r.f, .int .i64 r.t, .int .i64 r.c, .slice A r.wd.length a, .slice B r.da.length b, .int .i64 r.n, .slice C r.sk.length c] 35)) 3 #[.int .i64 d]; rwa [World.size_alloc] at this)) _)
    have HVG := hide (show Blk ((plus ((w.alloc (.cells #[.int .i64 r.u, .int .i64 r.e, .int .i64 r.f, .int .i64 r.t, .int .i64 r.c, .slice A r.wd.length a, .slice B r.da.length b, .int .i64 r.n, .slice C r.sk.length c] 35)).alloc (.cells #[.int .i64 d] 3)) os1 n1).alloc (.cells #[.bool false] 4)) (w.heap.size + 1 + 1 + os1.size) 4 #[.bool false] from by have := Blk.new (plus ((w.alloc (.cells #[.int .i64 r.u, .int .i64 r.e, .int .i64 r.f, .int .i64 r.t, .int .i64 r.c, .slice A r.wd.length a, .slice B r.da.length b, .int .i64 r.n, .slice C r.sk.length c] 35)).alloc (.cells #[.int .i64 d] 3)) os1 n1) 4 #[.bool false]; rwa [plus_size, World.size_alloc, World.size_alloc] at this)
    have HVR := hide (show Blk ((plus ((w.alloc (.cells #[.int .i64 r.u, .int .i64 r.e, .int .i64 r.f, .int .i64 r.t, .int .i64 r.c, .slice A r.wd.length a, .slice B r.da.length b, .int .i64 r.n, .slice C r.sk.length c] 35)).alloc (.cells #[.int .i64 d] 3)) os1 n1).alloc (.cells #[.bool false] 4)) w.heap.size 35 #[.int .i64 r.u, .int .i64 r.e, .int .i64 r.f, .int .i64 r.t, .int .i64 r.c, .slice A r.wd.length a, .slice B r.da.length b, .int .i64 r.n, .slice C r.sk.length c] from Blk.alloc (Blk.plus (Blk.alloc (Blk.new ..) _)) _)
    have HVB := hide hVB
    clear hVB
    generalize ((plus ((w.alloc (.cells #[.int .i64 r.u, .int .i64 r.e, .int .i64 r.f, .int .i64 r.t, .int .i64 r.c, .slice A r.wd.length a, .slice B r.da.length b, .int .i64 r.n, .slice C r.sk.length c] 35)).alloc (.cells #[.int .i64 d] 3)) os1 n1).alloc (.cells #[.bool false] 4)) = V at *
    have hne : w.heap.size + 1 + 1 + os1.size ≠ w.heap.size + 1 := by omega
    have hge : w.heap.size ≤ w.heap.size + 1 + 1 + os1.size := by omega
    generalize w.heap.size + 1 + 1 + os1.size = g at *
    obtain ⟨b0, b1, b2, b3, b4, b5, b6, b7, b8, b9, b10⟩ := HVR.out.nine
    have HOC := hide (occurrences_any r HOK.out _ w V HR.out HVB.out 38 #[.pointer (some ⟨g, 0, none⟩), .pointer (some ⟨w.heap.size + 1, 0, none⟩)] (fun x => decide (x < d)) (OccK g (w.heap.size + 1) d) (fun _ b => b = g) (sees_occurs g (w.heap.size + 1) d w.heap.size hge) ⟨HVG.out, HVD.out, hne⟩)
    clear hne HVR HVD HVG
    go_wp2_with (go_at_call 37; refine HOC.out.mono ?_; rintro e w' ⟨rfl, hi, ht⟩; have c1 := hi.1.cell 0; simp only [List.getElem?_toArray, List.getElem?_cons_zero] at c1; rw [visit_hasDay r d] at c1; have HT := hide (ht.below (B := w.heap.size) (fun b hb => by rw [hb]; exact hge) HVB.out HVB.out.size); clear hi ht b0 b1 b2 b3 b4 b5 b6 b7 b8 b9 b10)
    go_returns
    exact ⟨rfl, HT.out⟩
  · rw [if_neg hE]
    generalize atErr r d = X at *
    have hX : (X == 0) = false := by simp [hE]
    have hX2 : (X != 0) = true := by rw [bne, hX]; rfl
    clear hE h1 h2 h3 hr
    go_enter Try.func14, Try.ntmps14
    go_wp2_with (first | (go_at_call 36; (with_reducible refine (HCA.out _ (by repeat (first | exact Below.refl _ _ | refine bl_plus ?_ | refine bl_alloc ?_ _ | refine bl_drew ?_ | refine bl_drewN ?_ _))).mono ?_); rintro e w' ⟨rfl, hbl⟩; obtain ⟨os1, n1, rfl⟩ := below_plus hbl; clear hbl))
    go_returns
    exact ⟨rfl, (by repeat (first | exact Below.refl _ _ | refine bl_plus ?_ | refine bl_alloc ?_ _ | refine bl_drew ?_ | refine bl_drewN ?_ _))⟩

set_option maxHeartbeats 3200000 in
set_option maxRecDepth 100000 in
theorem number_any (r : Rul) (v : Value) (d : Int) (w : World) (hr : RulAt w r v) :
    Calls Try.prog 20 #[v, .int .i64 d] w fun e w' => e = .returned (.tuple #[.int .i64 (numR r d).1, .int .i64 (numR r d).2]) ∧ Below w.heap.size w w' := by
  have HR := hide hr
  obtain ⟨A, B, C, a, b, c, rfl, h1, h2, h3, h4, h5, h6⟩ := hr.ex
  unfold maxLen at h4 h5 h6
  have HCA := hide (fun w' hb => checkAt_any r _ d w' (HR.out.below hb))
  unfold numR
  by_cases hE : atErr r d = 0
  · obtain ⟨hok, d0, d1⟩ := atErr_ok hE
    rw [if_pos hE]
    rw [hE] at HCA
    have HOK := hide hok
    clear hE hok h1 h2 h3 hr
    go_enter Try.func20, Try.ntmps20
    go_upto_region 5 with (first | (go_at_call 36; (with_reducible refine (HCA.out _ (by repeat (first | exact Below.refl _ _ | refine bl_plus ?_ | refine bl_alloc ?_ _ | refine bl_drew ?_ | refine bl_drewN ?_ _))).mono ?_); rintro e w' ⟨rfl, hbl⟩; obtain ⟨os1, n1, rfl⟩ := below_plus hbl; clear hbl))
    have hVB : Below w.heap.size w ((plus ((w.alloc (.cells #[.int .i64 r.u, .int .i64 r.e, .int .i64 r.f, .int .i64 r.t, .int .i64 r.c, .slice A r.wd.length a, .slice B r.da.length b, .int .i64 r.n, .slice C r.sk.length c] 35)).alloc (.cells #[.int .i64 d] 3)) os1 n1).alloc (.cells #[.int .i64 0] 3)) := (by repeat (first | exact Below.refl _ _ | refine bl_plus ?_ | refine bl_alloc ?_ _ | refine bl_drew ?_ | refine bl_drewN ?_ _))
    have HVD := hide (show Blk ((plus ((w.alloc (.cells #[.int .i64 r.u, .int .i64 r.e, .int .i64 r.f, .int .i64 r.t, .int .i64 r.c, .slice A r.wd.length a, .slice B r.da.length b, .int .i64 r.n, .slice C r.sk.length c] 35)).alloc (.cells #[.int .i64 d] 3)) os1 n1).alloc (.cells #[.int .i64 0] 3)) (w.heap.size + 1) 3 #[.int .i64 d] from Blk.alloc (Blk.plus (by have := Blk.new (w.alloc (.cells #[.int .i64 r.u, .int .i64 r.e, .int .i64 r.f, .int .i64 r.t, .int .i64 r.c, .slice A r.wd.length a, .slice B r.da.length b, .int .i64 r.n, .slice C r.sk.length c] 35)) 3 #[.int .i64 d]; rwa [World.size_alloc] at this)) _)
    have HVG := hide (show Blk ((plus ((w.alloc (.cells #[.int .i64 r.u, .int .i64 r.e, .int .i64 r.f, .int .i64 r.t, .int .i64 r.c, .slice A r.wd.length a, .slice B r.da.length b, .int .i64 r.n, .slice C r.sk.length c] 35)).alloc (.cells #[.int .i64 d] 3)) os1 n1).alloc (.cells #[.int .i64 0] 3)) (w.heap.size + 1 + 1 + os1.size) 3 #[.int .i64 0] from by have := Blk.new (plus ((w.alloc (.cells #[.int .i64 r.u, .int .i64 r.e, .int .i64 r.f, .int .i64 r.t, .int .i64 r.c, .slice A r.wd.length a, .slice B r.da.length b, .int .i64 r.n, .slice C r.sk.length c] 35)).alloc (.cells #[.int .i64 d] 3)) os1 n1) 3 #[.int .i64 0]; rwa [plus_size, World.size_alloc, World.size_alloc] at this)
    have HVR := hide (show Blk ((plus ((w.alloc (.cells #[.int .i64 r.u, .int .i64 r.e, .int .i64 r.f, .int .i64 r.t, .int .i64 r.c, .slice A r.wd.length a, .slice B r.da.length b, .int .i64 r.n, .slice C r.sk.length c] 35)).alloc (.cells #[.int .i64 d] 3)) os1 n1).alloc (.cells #[.int .i64 0] 3)) w.heap.size 35 #[.int .i64 r.u, .int .i64 r.e, .int .i64 r.f, .int .i64 r.t, .int .i64 r.c, .slice A r.wd.length a, .slice B r.da.length b, .int .i64 r.n, .slice C r.sk.length c] from Blk.alloc (Blk.plus (Blk.alloc (Blk.new ..) _)) _)
    have HVB := hide hVB
    clear hVB
    generalize ((plus ((w.alloc (.cells #[.int .i64 r.u, .int .i64 r.e, .int .i64 r.f, .int .i64 r.t, .int .i64 r.c, .slice A r.wd.length a, .slice B r.da.length b, .int .i64 r.n, .slice C r.sk.length c] 35)).alloc (.cells #[.int .i64 d] 3)) os1 n1).alloc (.cells #[.int .i64 0] 3)) = V at *
    have hne : w.heap.size + 1 + 1 + os1.size ≠ w.heap.size + 1 := by omega
    have hge : w.heap.size ≤ w.heap.size + 1 + 1 + os1.size := by omega
    generalize w.heap.size + 1 + 1 + os1.size = g at *
    obtain ⟨b0, b1, b2, b3, b4, b5, b6, b7, b8, b9, b10⟩ := HVR.out.nine
    have HOC := hide (occurrences_any r HOK.out _ w V HR.out HVB.out 44 #[.pointer (some ⟨w.heap.size + 1, 0, none⟩), .pointer (some ⟨g, 0, none⟩)] (fun x => decide (x < d)) (NumK g (w.heap.size + 1) d) (fun _ b => b = g) (sees_number g (w.heap.size + 1) d w.heap.size hge) ⟨HVG.out, HVD.out, hne⟩)
    clear hne HVR HVD HVG
    go_wp2_with (go_at_call 37; refine HOC.out.mono ?_; rintro e w' ⟨rfl, hi, ht⟩; have c1 := hi.1.cell 0; simp only [List.getElem?_toArray, List.getElem?_cons_zero] at c1; rw [visit_cntLe r.occ_rising] at c1; have HT := hide (ht.below (B := w.heap.size) (fun b hb => by rw [hb]; exact hge) HVB.out HVB.out.size); clear hi ht b0 b1 b2 b3 b4 b5 b6 b7 b8 b9 b10)
    go_returns
    exact ⟨rfl, HT.out⟩
  · rw [if_neg hE]
    generalize atErr r d = X at *
    have hX : (X == 0) = false := by simp [hE]
    have hX2 : (X != 0) = true := by rw [bne, hX]; rfl
    clear hE h1 h2 h3 hr
    go_enter Try.func20, Try.ntmps20
    go_wp2_with (first | (go_at_call 36; (with_reducible refine (HCA.out _ (by repeat (first | exact Below.refl _ _ | refine bl_plus ?_ | refine bl_alloc ?_ _ | refine bl_drew ?_ | refine bl_drewN ?_ _))).mono ?_); rintro e w' ⟨rfl, hbl⟩; obtain ⟨os1, n1, rfl⟩ := below_plus hbl; clear hbl))
    go_returns
    exact ⟨rfl, (by repeat (first | exact Below.refl _ _ | refine bl_plus ?_ | refine bl_alloc ?_ _ | refine bl_drew ?_ | refine bl_drewN ?_ _))⟩

set_option maxHeartbeats 3200000 in
set_option maxRecDepth 100000 in
theorem beforeP_any (r : Rul) (v : Value) (d : Int) (w : World) (hr : RulAt w r v) :
    Calls Try.prog 18 #[v, .int .i64 d] w fun e w' => e = .returned (.tuple #[.int .i64 (befR r d).1, .int .i64 (befR r d).2]) ∧ Below w.heap.size w w' := by
  have HR := hide hr
  obtain ⟨A, B, C, a, b, c, rfl, h1, h2, h3, h4, h5, h6⟩ := hr.ex
  unfold maxLen at h4 h5 h6
  have HCA := hide (fun w' hb => checkAt_any r _ d w' (HR.out.below hb))
  unfold befR
  by_cases hE : atErr r d = 0
  · obtain ⟨hok, d0, d1⟩ := atErr_ok hE
    rw [if_pos hE]
    rw [hE] at HCA
    have HOK := hide hok
    clear hE hok h1 h2 h3 hr
    have HFIN := hide (visit_lastLt (day := d) r.occ_rising)
    unfold befF
    generalize lastLt d r.occ = X at *
    by_cases hx : X < 0
    · rw [if_pos hx]
      go_enter Try.func18, Try.ntmps18
      go_upto_region 5 with (first | (go_at_call 36; (with_reducible refine (HCA.out _ (by repeat (first | exact Below.refl _ _ | refine bl_plus ?_ | refine bl_alloc ?_ _ | refine bl_drew ?_ | refine bl_drewN ?_ _))).mono ?_); rintro e w' ⟨rfl, hbl⟩; obtain ⟨os1, n1, rfl⟩ := below_plus hbl; clear hbl))
      have hVB : Below w.heap.size w ((plus ((w.alloc (.cells #[.int .i64 r.u, .int .i64 r.e, .int .i64 r.f, .int .i64 r.t, .int .i64 r.c, .slice A r.wd.length a, .slice B r.da.length b, .int .i64 r.n, .slice C r.sk.length c] 35)).alloc (.cells #[.int .i64 d] 3)) os1 n1).alloc (.cells #[.int .i64 (-1)] 3)) := (by repeat (first | exact Below.refl _ _ | refine bl_plus ?_ | refine bl_alloc ?_ _ | refine bl_drew ?_ | refine bl_drewN ?_ _))
      have HVD := hide (show Blk ((plus ((w.alloc (.cells #[.int .i64 r.u, .int .i64 r.e, .int .i64 r.f, .int .i64 r.t, .int .i64 r.c, .slice A r.wd.length a, .slice B r.da.length b, .int .i64 r.n, .slice C r.sk.length c] 35)).alloc (.cells #[.int .i64 d] 3)) os1 n1).alloc (.cells #[.int .i64 (-1)] 3)) (w.heap.size + 1) 3 #[.int .i64 d] from Blk.alloc (Blk.plus (by have := Blk.new (w.alloc (.cells #[.int .i64 r.u, .int .i64 r.e, .int .i64 r.f, .int .i64 r.t, .int .i64 r.c, .slice A r.wd.length a, .slice B r.da.length b, .int .i64 r.n, .slice C r.sk.length c] 35)) 3 #[.int .i64 d]; rwa [World.size_alloc] at this)) _)
      have HVG := hide (show Blk ((plus ((w.alloc (.cells #[.int .i64 r.u, .int .i64 r.e, .int .i64 r.f, .int .i64 r.t, .int .i64 r.c, .slice A r.wd.length a, .slice B r.da.length b, .int .i64 r.n, .slice C r.sk.length c] 35)).alloc (.cells #[.int .i64 d] 3)) os1 n1).alloc (.cells #[.int .i64 (-1)] 3)) (w.heap.size + 1 + 1 + os1.size) 3 #[.int .i64 (-1)] from by have := Blk.new (plus ((w.alloc (.cells #[.int .i64 r.u, .int .i64 r.e, .int .i64 r.f, .int .i64 r.t, .int .i64 r.c, .slice A r.wd.length a, .slice B r.da.length b, .int .i64 r.n, .slice C r.sk.length c] 35)).alloc (.cells #[.int .i64 d] 3)) os1 n1) 3 #[.int .i64 (-1)]; rwa [plus_size, World.size_alloc, World.size_alloc] at this)
      have HVR := hide (show Blk ((plus ((w.alloc (.cells #[.int .i64 r.u, .int .i64 r.e, .int .i64 r.f, .int .i64 r.t, .int .i64 r.c, .slice A r.wd.length a, .slice B r.da.length b, .int .i64 r.n, .slice C r.sk.length c] 35)).alloc (.cells #[.int .i64 d] 3)) os1 n1).alloc (.cells #[.int .i64 (-1)] 3)) w.heap.size 35 #[.int .i64 r.u, .int .i64 r.e, .int .i64 r.f, .int .i64 r.t, .int .i64 r.c, .slice A r.wd.length a, .slice B r.da.length b, .int .i64 r.n, .slice C r.sk.length c] from Blk.alloc (Blk.plus (Blk.alloc (Blk.new ..) _)) _)
      have HVB := hide hVB
      clear hVB
      generalize ((plus ((w.alloc (.cells #[.int .i64 r.u, .int .i64 r.e, .int .i64 r.f, .int .i64 r.t, .int .i64 r.c, .slice A r.wd.length a, .slice B r.da.length b, .int .i64 r.n, .slice C r.sk.length c] 35)).alloc (.cells #[.int .i64 d] 3)) os1 n1).alloc (.cells #[.int .i64 (-1)] 3)) = V at *
      have hne : w.heap.size + 1 + 1 + os1.size ≠ w.heap.size + 1 := by omega
      have hge : w.heap.size ≤ w.heap.size + 1 + 1 + os1.size := by omega
      generalize w.heap.size + 1 + 1 + os1.size = g at *
      obtain ⟨b0, b1, b2, b3, b4, b5, b6, b7, b8, b9, b10⟩ := HVR.out.nine
      have HOC := hide (occurrences_any r HOK.out _ w V HR.out HVB.out 43 #[.pointer (some ⟨w.heap.size + 1, 0, none⟩), .pointer (some ⟨g, 0, none⟩)] (fun x => decide (x < d)) (BefK g (w.heap.size + 1) d) (fun _ b => b = g) (sees_before g (w.heap.size + 1) d w.heap.size hge) ⟨HVG.out, HVD.out, hne⟩)
      clear hne HVR HVD HVG
      go_wp2_with (go_at_call 37; refine HOC.out.mono ?_; rintro e w' ⟨rfl, hi, ht⟩; have c1 := hi.1.cell 0; simp only [List.getElem?_toArray, List.getElem?_cons_zero] at c1; rw [HFIN.out] at c1; have HT := hide (ht.below (B := w.heap.size) (fun b hb => by rw [hb]; exact hge) HVB.out HVB.out.size); clear hi ht b0 b1 b2 b3 b4 b5 b6 b7 b8 b9 b10)
      go_returns
      exact ⟨rfl, HT.out⟩

    · rw [if_neg hx]
      go_enter Try.func18, Try.ntmps18
      go_upto_region 5 with (first | (go_at_call 36; (with_reducible refine (HCA.out _ (by repeat (first | exact Below.refl _ _ | refine bl_plus ?_ | refine bl_alloc ?_ _ | refine bl_drew ?_ | refine bl_drewN ?_ _))).mono ?_); rintro e w' ⟨rfl, hbl⟩; obtain ⟨os1, n1, rfl⟩ := below_plus hbl; clear hbl))
      have hVB : Below w.heap.size w ((plus ((w.alloc (.cells #[.int .i64 r.u, .int .i64 r.e, .int .i64 r.f, .int .i64 r.t, .int .i64 r.c, .slice A r.wd.length a, .slice B r.da.length b, .int .i64 r.n, .slice C r.sk.length c] 35)).alloc (.cells #[.int .i64 d] 3)) os1 n1).alloc (.cells #[.int .i64 (-1)] 3)) := (by repeat (first | exact Below.refl _ _ | refine bl_plus ?_ | refine bl_alloc ?_ _ | refine bl_drew ?_ | refine bl_drewN ?_ _))
      have HVD := hide (show Blk ((plus ((w.alloc (.cells #[.int .i64 r.u, .int .i64 r.e, .int .i64 r.f, .int .i64 r.t, .int .i64 r.c, .slice A r.wd.length a, .slice B r.da.length b, .int .i64 r.n, .slice C r.sk.length c] 35)).alloc (.cells #[.int .i64 d] 3)) os1 n1).alloc (.cells #[.int .i64 (-1)] 3)) (w.heap.size + 1) 3 #[.int .i64 d] from Blk.alloc (Blk.plus (by have := Blk.new (w.alloc (.cells #[.int .i64 r.u, .int .i64 r.e, .int .i64 r.f, .int .i64 r.t, .int .i64 r.c, .slice A r.wd.length a, .slice B r.da.length b, .int .i64 r.n, .slice C r.sk.length c] 35)) 3 #[.int .i64 d]; rwa [World.size_alloc] at this)) _)
      have HVG := hide (show Blk ((plus ((w.alloc (.cells #[.int .i64 r.u, .int .i64 r.e, .int .i64 r.f, .int .i64 r.t, .int .i64 r.c, .slice A r.wd.length a, .slice B r.da.length b, .int .i64 r.n, .slice C r.sk.length c] 35)).alloc (.cells #[.int .i64 d] 3)) os1 n1).alloc (.cells #[.int .i64 (-1)] 3)) (w.heap.size + 1 + 1 + os1.size) 3 #[.int .i64 (-1)] from by have := Blk.new (plus ((w.alloc (.cells #[.int .i64 r.u, .int .i64 r.e, .int .i64 r.f, .int .i64 r.t, .int .i64 r.c, .slice A r.wd.length a, .slice B r.da.length b, .int .i64 r.n, .slice C r.sk.length c] 35)).alloc (.cells #[.int .i64 d] 3)) os1 n1) 3 #[.int .i64 (-1)]; rwa [plus_size, World.size_alloc, World.size_alloc] at this)
      have HVR := hide (show Blk ((plus ((w.alloc (.cells #[.int .i64 r.u, .int .i64 r.e, .int .i64 r.f, .int .i64 r.t, .int .i64 r.c, .slice A r.wd.length a, .slice B r.da.length b, .int .i64 r.n, .slice C r.sk.length c] 35)).alloc (.cells #[.int .i64 d] 3)) os1 n1).alloc (.cells #[.int .i64 (-1)] 3)) w.heap.size 35 #[.int .i64 r.u, .int .i64 r.e, .int .i64 r.f, .int .i64 r.t, .int .i64 r.c, .slice A r.wd.length a, .slice B r.da.length b, .int .i64 r.n, .slice C r.sk.length c] from Blk.alloc (Blk.plus (Blk.alloc (Blk.new ..) _)) _)
      have HVB := hide hVB
      clear hVB
      generalize ((plus ((w.alloc (.cells #[.int .i64 r.u, .int .i64 r.e, .int .i64 r.f, .int .i64 r.t, .int .i64 r.c, .slice A r.wd.length a, .slice B r.da.length b, .int .i64 r.n, .slice C r.sk.length c] 35)).alloc (.cells #[.int .i64 d] 3)) os1 n1).alloc (.cells #[.int .i64 (-1)] 3)) = V at *
      have hne : w.heap.size + 1 + 1 + os1.size ≠ w.heap.size + 1 := by omega
      have hge : w.heap.size ≤ w.heap.size + 1 + 1 + os1.size := by omega
      generalize w.heap.size + 1 + 1 + os1.size = g at *
      obtain ⟨b0, b1, b2, b3, b4, b5, b6, b7, b8, b9, b10⟩ := HVR.out.nine
      have HOC := hide (occurrences_any r HOK.out _ w V HR.out HVB.out 43 #[.pointer (some ⟨w.heap.size + 1, 0, none⟩), .pointer (some ⟨g, 0, none⟩)] (fun x => decide (x < d)) (BefK g (w.heap.size + 1) d) (fun _ b => b = g) (sees_before g (w.heap.size + 1) d w.heap.size hge) ⟨HVG.out, HVD.out, hne⟩)
      clear hne HVR HVD HVG
      go_wp2_with (go_at_call 37; refine HOC.out.mono ?_; rintro e w' ⟨rfl, hi, ht⟩; have c1 := hi.1.cell 0; simp only [List.getElem?_toArray, List.getElem?_cons_zero] at c1; rw [HFIN.out] at c1; have HT := hide (ht.below (B := w.heap.size) (fun b hb => by rw [hb]; exact hge) HVB.out HVB.out.size); clear hi ht b0 b1 b2 b3 b4 b5 b6 b7 b8 b9 b10)
      go_returns
      exact ⟨rfl, HT.out⟩

  · rw [if_neg hE]
    generalize atErr r d = X at *
    have hX : (X == 0) = false := by simp [hE]
    have hX2 : (X != 0) = true := by rw [bne, hX]; rfl
    clear hE h1 h2 h3 hr
    go_enter Try.func18, Try.ntmps18
    go_wp2_with (first | (go_at_call 36; (with_reducible refine (HCA.out _ (by repeat (first | exact Below.refl _ _ | refine bl_plus ?_ | refine bl_alloc ?_ _ | refine bl_drew ?_ | refine bl_drewN ?_ _))).mono ?_); rintro e w' ⟨rfl, hbl⟩; obtain ⟨os1, n1, rfl⟩ := below_plus hbl; clear hbl))
    go_returns
    exact ⟨rfl, (by repeat (first | exact Below.refl _ _ | refine bl_plus ?_ | refine bl_alloc ?_ _ | refine bl_drew ?_ | refine bl_drewN ?_ _))⟩

set_option maxHeartbeats 3200000 in
set_option maxRecDepth 100000 in
theorem next_any (r : Rul) (h : r.Ok) (v : Value) (d : Int) (w : World) (hr : RulAt w r v) :
    Calls Try.prog 41 #[v, .int .i64 d] w fun e w' => e = .returned (.tuple #[.int .i64 ((r.nxt d).getD 0), .bool (r.nxt d).isSome]) ∧ Below w.heap.size w w' := by
  have HR := hide hr
  have HOK := hide h
  obtain ⟨A, B, C, a, b, c, rfl, h1, h2, h3, h4, h5, h6⟩ := hr.ex
  unfold maxLen at h4 h5 h6
  clear h1 h2 h3 hr h
  have HFIN := hide (show (visit (fun x => decide (x ≤ d)) r.occ).find? (fun x => decide (d < x)) = r.nxt d from visit_find)
  go_enter Try.func41, Try.ntmps41
  go_upto_region 2 with (fail)
  have HVB := hide (show Below w.heap.size w ((((w.alloc (.cells #[.int .i64 r.u, .int .i64 r.e, .int .i64 r.f, .int .i64 r.t, .int .i64 r.c, .slice A r.wd.length a, .slice B r.da.length b, .int .i64 r.n, .slice C r.sk.length c] 35)).alloc (.cells #[.int .i64 d] 3)).alloc (.cells #[.int .i64 0] 3)).alloc (.cells #[.bool false] 4)) from (by repeat (first | exact Below.refl _ _ | refine bl_plus ?_ | refine bl_alloc ?_ _ | refine bl_drew ?_ | refine bl_drewN ?_ _)))
  have HVD := hide (show Blk ((((w.alloc (.cells #[.int .i64 r.u, .int .i64 r.e, .int .i64 r.f, .int .i64 r.t, .int .i64 r.c, .slice A r.wd.length a, .slice B r.da.length b, .int .i64 r.n, .slice C r.sk.length c] 35)).alloc (.cells #[.int .i64 d] 3)).alloc (.cells #[.int .i64 0] 3)).alloc (.cells #[.bool false] 4)) (w.heap.size + 1) 3 #[.int .i64 d] from Blk.alloc (Blk.alloc (by have := Blk.new (w.alloc (.cells #[.int .i64 r.u, .int .i64 r.e, .int .i64 r.f, .int .i64 r.t, .int .i64 r.c, .slice A r.wd.length a, .slice B r.da.length b, .int .i64 r.n, .slice C r.sk.length c] 35)) 3 #[.int .i64 d]; rwa [World.size_alloc] at this) _) _)
  have HVF := hide (show Blk ((((w.alloc (.cells #[.int .i64 r.u, .int .i64 r.e, .int .i64 r.f, .int .i64 r.t, .int .i64 r.c, .slice A r.wd.length a, .slice B r.da.length b, .int .i64 r.n, .slice C r.sk.length c] 35)).alloc (.cells #[.int .i64 d] 3)).alloc (.cells #[.int .i64 0] 3)).alloc (.cells #[.bool false] 4)) (w.heap.size + 1 + 1) 3 #[.int .i64 0] from Blk.alloc (by have := Blk.new ((w.alloc (.cells #[.int .i64 r.u, .int .i64 r.e, .int .i64 r.f, .int .i64 r.t, .int .i64 r.c, .slice A r.wd.length a, .slice B r.da.length b, .int .i64 r.n, .slice C r.sk.length c] 35)).alloc (.cells #[.int .i64 d] 3)) 3 #[.int .i64 0]; rwa [World.size_alloc, World.size_alloc] at this) _)
  have HVG := hide (show Blk ((((w.alloc (.cells #[.int .i64 r.u, .int .i64 r.e, .int .i64 r.f, .int .i64 r.t, .int .i64 r.c, .slice A r.wd.length a, .slice B r.da.length b, .int .i64 r.n, .slice C r.sk.length c] 35)).alloc (.cells #[.int .i64 d] 3)).alloc (.cells #[.int .i64 0] 3)).alloc (.cells #[.bool false] 4)) (w.heap.size + 1 + 1 + 1) 4 #[.bool false] from by have := Blk.new (((w.alloc (.cells #[.int .i64 r.u, .int .i64 r.e, .int .i64 r.f, .int .i64 r.t, .int .i64 r.c, .slice A r.wd.length a, .slice B r.da.length b, .int .i64 r.n, .slice C r.sk.length c] 35)).alloc (.cells #[.int .i64 d] 3)).alloc (.cells #[.int .i64 0] 3)) 4 #[.bool false]; rwa [World.size_alloc, World.size_alloc, World.size_alloc] at this)
  have HVR := hide (show Blk ((((w.alloc (.cells #[.int .i64 r.u, .int .i64 r.e, .int .i64 r.f, .int .i64 r.t, .int .i64 r.c, .slice A r.wd.length a, .slice B r.da.length b, .int .i64 r.n, .slice C r.sk.length c] 35)).alloc (.cells #[.int .i64 d] 3)).alloc (.cells #[.int .i64 0] 3)).alloc (.cells #[.bool false] 4)) w.heap.size 35 #[.int .i64 r.u, .int .i64 r.e, .int .i64 r.f, .int .i64 r.t, .int .i64 r.c, .slice A r.wd.length a, .slice B r.da.length b, .int .i64 r.n, .slice C r.sk.length c] from Blk.alloc (Blk.alloc (Blk.alloc (Blk.new ..) _) _) _)
  generalize ((((w.alloc (.cells #[.int .i64 r.u, .int .i64 r.e, .int .i64 r.f, .int .i64 r.t, .int .i64 r.c, .slice A r.wd.length a, .slice B r.da.length b, .int .i64 r.n, .slice C r.sk.length c] 35)).alloc (.cells #[.int .i64 d] 3)).alloc (.cells #[.int .i64 0] 3)).alloc (.cells #[.bool false] 4)) = V at *
  obtain ⟨b0, b1, b2, b3, b4, b5, b6, b7, b8, b9, b10⟩ := HVR.out.nine
  have HOC := hide (occurrences_any r HOK.out _ w V HR.out HVB.out 63 #[.pointer (some ⟨w.heap.size + 1, 0, none⟩), .pointer (some ⟨w.heap.size + 1 + 1, 0, none⟩), .pointer (some ⟨w.heap.size + 1 + 1 + 1, 0, none⟩)] (fun x => decide (x ≤ d)) (nxK (w.heap.size + 1) (w.heap.size + 1 + 1) (w.heap.size + 1 + 1 + 1) d) (fun _ b => b = w.heap.size + 1 + 1 ∨ b = w.heap.size + 1 + 1 + 1) (sees_next (w.heap.size + 1) (w.heap.size + 1 + 1) (w.heap.size + 1 + 1 + 1) d w.heap.size (by omega) (by omega)) ⟨HVF.out, HVG.out, HVD.out, by omega, by omega, by omega⟩)
  clear HVR HVD HVG HVF
  go_wp2_with (go_at_call 37; refine HOC.out.mono ?_; rintro e w' ⟨rfl, hi, ht⟩; have c1 := hi.1.cell 0; have c2 := hi.2.1.cell 0; simp only [List.getElem?_toArray, List.getElem?_cons_zero] at c1 c2; rw [HFIN.out] at c1 c2; have HT := hide (ht.below (B := w.heap.size) (fun b hb => by rcases hb with rfl | rfl <;> omega) HVB.out HVB.out.size); clear hi ht b0 b1 b2 b3 b4 b5 b6 b7 b8 b9 b10)
  go_quiet (fail)
  go_wp2
  go_returns
  exact ⟨rfl, bl_drewN HT.out _⟩

set_option maxHeartbeats 3200000 in
set_option maxRecDepth 100000 in
theorem nextP_any (r : Rul) (v : Value) (d : Int) (w : World) (hr : RulAt w r v) :
    Calls Try.prog 16 #[v, .int .i64 d] w fun e w' => e = .returned (.tuple #[.int .i64 (nxR r d).1, .int .i64 (nxR r d).2]) ∧ Below w.heap.size w w' := by
  have HR := hide hr
  obtain ⟨A, B, C, a, b, c, rfl, h1, h2, h3, h4, h5, h6⟩ := hr.ex
  unfold maxLen at h4 h5 h6
  have HCA := hide (fun w' hb => checkAt_any r _ d w' (HR.out.below hb))
  unfold nxR
  by_cases hE : atErr r d = 0
  · obtain ⟨hok, d0, d1⟩ := atErr_ok hE
    rw [if_pos hE]
    rw [hE] at HCA
    have HNX := hide (fun w' hb => next_any r hok _ d w' (HR.out.below hb))
    clear hE hok h1 h2 h3 hr
    generalize r.nxt d = X at *
    cases X with
    | none =>
      simp only [Option.getD_none, Option.isSome_none] at HNX
      unfold nxF
      go_enter Try.func16, Try.ntmps16
      go_wp2_with (first | (go_at_call 36; (with_reducible refine (HCA.out _ (by repeat (first | exact Below.refl _ _ | refine bl_plus ?_ | refine bl_alloc ?_ _ | refine bl_drew ?_ | refine bl_drewN ?_ _))).mono ?_); rintro e w' ⟨rfl, hbl⟩; obtain ⟨os1, n1, rfl⟩ := below_plus hbl; clear hbl) | (go_at_call 41; (with_reducible refine (HNX.out _ (by repeat (first | exact Below.refl _ _ | refine bl_plus ?_ | refine bl_alloc ?_ _ | refine bl_drew ?_ | refine bl_drewN ?_ _))).mono ?_); rintro e w' ⟨rfl, hbl⟩; obtain ⟨os2, n2, rfl⟩ := below_plus hbl; clear hbl))
      go_returns
      exact ⟨rfl, (by repeat (first | exact Below.refl _ _ | refine bl_plus ?_ | refine bl_alloc ?_ _ | refine bl_drew ?_ | refine bl_drewN ?_ _))⟩
    | some x =>
      simp only [Option.getD_some, Option.isSome_some] at HNX
      unfold nxF
      go_enter Try.func16, Try.ntmps16
      go_wp2_with (first | (go_at_call 36; (with_reducible refine (HCA.out _ (by repeat (first | exact Below.refl _ _ | refine bl_plus ?_ | refine bl_alloc ?_ _ | refine bl_drew ?_ | refine bl_drewN ?_ _))).mono ?_); rintro e w' ⟨rfl, hbl⟩; obtain ⟨os1, n1, rfl⟩ := below_plus hbl; clear hbl) | (go_at_call 41; (with_reducible refine (HNX.out _ (by repeat (first | exact Below.refl _ _ | refine bl_plus ?_ | refine bl_alloc ?_ _ | refine bl_drew ?_ | refine bl_drewN ?_ _))).mono ?_); rintro e w' ⟨rfl, hbl⟩; obtain ⟨os2, n2, rfl⟩ := below_plus hbl; clear hbl))
      go_returns
      exact ⟨rfl, (by repeat (first | exact Below.refl _ _ | refine bl_plus ?_ | refine bl_alloc ?_ _ | refine bl_drew ?_ | refine bl_drewN ?_ _))⟩
  · rw [if_neg hE]
    generalize atErr r d = X at *
    have hX : (X == 0) = false := by simp [hE]
    have hX2 : (X != 0) = true := by rw [bne, hX]; rfl
    clear hE h1 h2 h3 hr
    go_enter Try.func16, Try.ntmps16
    go_wp2_with (first | (go_at_call 36; (with_reducible refine (HCA.out _ (by repeat (first | exact Below.refl _ _ | refine bl_plus ?_ | refine bl_alloc ?_ _ | refine bl_drew ?_ | refine bl_drewN ?_ _))).mono ?_); rintro e w' ⟨rfl, hbl⟩; obtain ⟨os1, n1, rfl⟩ := below_plus hbl; clear hbl))
    go_returns
    exact ⟨rfl, (by repeat (first | exact Below.refl _ _ | refine bl_plus ?_ | refine bl_alloc ?_ _ | refine bl_drew ?_ | refine bl_drewN ?_ _))⟩

/-- What Between hands back. -/
def BtwOut (r : Rul) (f t : Int) (w : World) (e : Ending) (w' : World) : Prop :=
  Below w.heap.size w w' ∧ ∃ A c, e = .returned (.tuple #[.slice A (btwR r f t).1.length c, .int .i64 (btwR r f t).2]) ∧ IntsAt w' A (btwR r f t).1
theorem btwR_len (r : Rul) (h : r.Ok) (f t : Int) : (inFT f t r.occ).length ≤ 100001 := Nat.le_trans (List.length_filter_le _ _) (occ_len r h)

set_option maxHeartbeats 3200000 in
set_option maxRecDepth 100000 in
theorem between_any (r : Rul) (h : r.Ok) (v : Value) (f t : Int) (w : World) (hr : RulAt w r v) :
    Calls Try.prog 30 #[v, .int .i64 f, .int .i64 t] w fun e w' => (∃ A, e = .returned (.slice A (inFT f t r.occ).length (inFT f t r.occ).length) ∧ IntsAt w' A (inFT f t r.occ)) ∧ Below w.heap.size w w' := by
  have HR := hide hr
  have HOK := hide h
  obtain ⟨A, B, C, a, b, c, rfl, h1, h2, h3, h4, h5, h6⟩ := hr.ex
  unfold maxLen at h4 h5 h6
  clear h1 h2 h3 hr h
  have HFIN := hide (visit_inFT (f := f) (t := t) r.occ_rising)
  have hlen := btwR_len r HOK.out f t
  generalize hPO : (fun e w' => (∃ A, e = Ending.returned (.slice A (inFT f t r.occ).length (inFT f t r.occ).length) ∧ IntsAt w' A (inFT f t r.occ)) ∧ Below w.heap.size w w') = PO
  have HPO := hide (fun A w' (hx : IntsAt w' A (inFT f t r.occ)) (hb : Below w.heap.size w w') => (by rw [← hPO]; exact ⟨⟨A, rfl, hx⟩, hb⟩ : PO (Ending.returned (.slice A (inFT f t r.occ).length (inFT f t r.occ).length)) w'))
  clear hPO
  generalize inFT f t r.occ = xs at *
  go_enter Try.func30, Try.ntmps30
  go_upto_region 2 with (fail)
  have HVB := hide (show Below w.heap.size w ((((w.alloc (.cells #[.int .i64 r.u, .int .i64 r.e, .int .i64 r.f, .int .i64 r.t, .int .i64 r.c, .slice A r.wd.length a, .slice B r.da.length b, .int .i64 r.n, .slice C r.sk.length c] 35)).alloc (.cells #[.int .i64 f] 3)).alloc (.cells #[.int .i64 t] 3)).alloc (.cells #[.slice none 0 0] 33)) from (by repeat (first | exact Below.refl _ _ | refine bl_plus ?_ | refine bl_alloc ?_ _ | refine bl_drew ?_ | refine bl_drewN ?_ _)))
  have HVF := hide (show Blk ((((w.alloc (.cells #[.int .i64 r.u, .int .i64 r.e, .int .i64 r.f, .int .i64 r.t, .int .i64 r.c, .slice A r.wd.length a, .slice B r.da.length b, .int .i64 r.n, .slice C r.sk.length c] 35)).alloc (.cells #[.int .i64 f] 3)).alloc (.cells #[.int .i64 t] 3)).alloc (.cells #[.slice none 0 0] 33)) (w.heap.size + 1) 3 #[.int .i64 f] from Blk.alloc (Blk.alloc (by have := Blk.new (w.alloc (.cells #[.int .i64 r.u, .int .i64 r.e, .int .i64 r.f, .int .i64 r.t, .int .i64 r.c, .slice A r.wd.length a, .slice B r.da.length b, .int .i64 r.n, .slice C r.sk.length c] 35)) 3 #[.int .i64 f]; rwa [World.size_alloc] at this) _) _)
  have HVD := hide (show Blk ((((w.alloc (.cells #[.int .i64 r.u, .int .i64 r.e, .int .i64 r.f, .int .i64 r.t, .int .i64 r.c, .slice A r.wd.length a, .slice B r.da.length b, .int .i64 r.n, .slice C r.sk.length c] 35)).alloc (.cells #[.int .i64 f] 3)).alloc (.cells #[.int .i64 t] 3)).alloc (.cells #[.slice none 0 0] 33)) (w.heap.size + 1 + 1) 3 #[.int .i64 t] from Blk.alloc (by have := Blk.new ((w.alloc (.cells #[.int .i64 r.u, .int .i64 r.e, .int .i64 r.f, .int .i64 r.t, .int .i64 r.c, .slice A r.wd.length a, .slice B r.da.length b, .int .i64 r.n, .slice C r.sk.length c] 35)).alloc (.cells #[.int .i64 f] 3)) 3 #[.int .i64 t]; rwa [World.size_alloc, World.size_alloc] at this) _)
  have HVG := hide (show Blk ((((w.alloc (.cells #[.int .i64 r.u, .int .i64 r.e, .int .i64 r.f, .int .i64 r.t, .int .i64 r.c, .slice A r.wd.length a, .slice B r.da.length b, .int .i64 r.n, .slice C r.sk.length c] 35)).alloc (.cells #[.int .i64 f] 3)).alloc (.cells #[.int .i64 t] 3)).alloc (.cells #[.slice none 0 0] 33)) (w.heap.size + 1 + 1 + 1) 33 #[.slice none 0 0] from by have := Blk.new (((w.alloc (.cells #[.int .i64 r.u, .int .i64 r.e, .int .i64 r.f, .int .i64 r.t, .int .i64 r.c, .slice A r.wd.length a, .slice B r.da.length b, .int .i64 r.n, .slice C r.sk.length c] 35)).alloc (.cells #[.int .i64 f] 3)).alloc (.cells #[.int .i64 t] 3)) 33 #[.slice none 0 0]; rwa [World.size_alloc, World.size_alloc, World.size_alloc] at this)
  have HVR := hide (show Blk ((((w.alloc (.cells #[.int .i64 r.u, .int .i64 r.e, .int .i64 r.f, .int .i64 r.t, .int .i64 r.c, .slice A r.wd.length a, .slice B r.da.length b, .int .i64 r.n, .slice C r.sk.length c] 35)).alloc (.cells #[.int .i64 f] 3)).alloc (.cells #[.int .i64 t] 3)).alloc (.cells #[.slice none 0 0] 33)) w.heap.size 35 #[.int .i64 r.u, .int .i64 r.e, .int .i64 r.f, .int .i64 r.t, .int .i64 r.c, .slice A r.wd.length a, .slice B r.da.length b, .int .i64 r.n, .slice C r.sk.length c] from Blk.alloc (Blk.alloc (Blk.alloc (Blk.new ..) _) _) _)
  generalize ((((w.alloc (.cells #[.int .i64 r.u, .int .i64 r.e, .int .i64 r.f, .int .i64 r.t, .int .i64 r.c, .slice A r.wd.length a, .slice B r.da.length b, .int .i64 r.n, .slice C r.sk.length c] 35)).alloc (.cells #[.int .i64 f] 3)).alloc (.cells #[.int .i64 t] 3)).alloc (.cells #[.slice none 0 0] 33)) = V at *
  obtain ⟨b0, b1, b2, b3, b4, b5, b6, b7, b8, b9, b10⟩ := HVR.out.nine
  have HOC := hide (occurrences_any r HOK.out _ w V HR.out HVB.out 54 #[.pointer (some ⟨w.heap.size + 1, 0, none⟩), .pointer (some ⟨w.heap.size + 1 + 1, 0, none⟩), .pointer (some ⟨w.heap.size + 1 + 1 + 1, 0, none⟩)] (fun x => decide (x < t)) (BtwK (w.heap.size + 1) (w.heap.size + 1 + 1) (w.heap.size + 1 + 1 + 1) f t) (BtwT (w.heap.size + 1 + 1 + 1)) (sees_between (w.heap.size + 1) (w.heap.size + 1 + 1) (w.heap.size + 1 + 1 + 1) f t w.heap.size (by omega)) ⟨HVF.out, HVD.out, by omega, by omega, by omega, by omega, none, 0, HVG.out, OwnK.empty⟩)
  have HTT := hide (show ∀ b, BtwT (w.heap.size + 1 + 1 + 1) V b → w.heap.size ≤ b from fun b hb => (((sees_between (w.heap.size + 1) (w.heap.size + 1 + 1) (w.heap.size + 1 + 1 + 1) f t w.heap.size (by omega)).own [] V b ⟨HVF.out, HVD.out, by omega, by omega, by omega, by omega, none, 0, HVG.out, OwnK.empty⟩ hb).1))
  clear HVR HVD HVG HVF
  go_wp2_with (first | (go_at_call 37; refine HOC.out.mono ?_; rintro e w' ⟨rfl, hi, ht⟩; obtain ⟨_, _, _, _, _, _, A3, c3, hk, hown⟩ := hi; rw [HFIN.out] at hk hown; have c1 := hk.cell 0; simp only [List.getElem?_toArray, List.getElem?_cons_zero] at c1; obtain ⟨A4, c4, e4, hnc, hcm, _⟩ := ownK_form hown; injection e4 with e5 _ e6; subst e5 e6; have HIN := hide (ownK_ints hown).2.2; have HT := hide (ht.below HTT.out HVB.out HVB.out.size); clear hk hown ht b0 b1 b2 b3 b4 b5 b6 b7 b8 b9 b10) | (go_at_call 55; refine (clipInts_any _ _ _ _ (by assumption) (by assumption)).mono ?_; rintro e w' ⟨rfl, rfl⟩))
  exact HPO.out _ _ HIN.out HT.out

end Go.Proofs.Ytpbkidjbbhkjnaa
