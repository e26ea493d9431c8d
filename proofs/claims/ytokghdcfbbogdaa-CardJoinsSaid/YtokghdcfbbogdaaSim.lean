/-
  PLAIN: a simulated time.
-/
import Derived.Test.YtokghdcfbbogdaaTodayC
namespace Go.Proofs.Ytokghdcfbbogdaa
open Go.RowKit

/-- The grade that is given next. -/
def nextGrade (gs : List Int) (g : Nat) : Int := (gs[g % gs.length]?).getD 0
/-- What is asked on a day is graded, one after the other; none: the reviews are full. -/
def simAsk (gs : List Int) (d : Int) : List Int → List St → Nat → Option (List St × Nat)
  | [], xs, g => some (xs, g)
  | z :: zs, xs, g => if g = 20000 then none else match xs[z.toNat]? with
    | none => none
    | some x => simAsk gs d zs (xs.set z.toNat (x.graded (nextGrade gs g) d)) (g + 1)
/-- Day by day. -/
def simDays (gs : List Int) (bn ba : Int) : Nat → Int → List St → Nat → List Int → Option (List St × List Int)
  | 0, _, xs, _, cs => some (xs, cs)
  | n + 1, d, xs, g, cs => match simAsk gs d (todayList xs d 0 0 bn ba) xs g with
    | none => none
    | some (ys, h) => simDays gs bn ba n (d + 1) ys h (cs ++ [((todayList xs d 0 0 bn ba).length : Int)])
theorem simAsk_full {gs : List Int} {d : Int} {z : Int} {zs : List Int} {xs : List St} : simAsk gs d (z :: zs) xs 20000 = none := by simp [simAsk]
theorem simAsk_step {gs : List Int} {d : Int} {z : Int} {zs : List Int} {xs : List St} {g : Nat} {x : St} (hg : g ≠ 20000) (hx : xs[z.toNat]? = some x) :
    simAsk gs d (z :: zs) xs g = simAsk gs d zs (xs.set z.toNat (x.graded (nextGrade gs g) d)) (g + 1) := by simp [simAsk, hg, hx]

/-! ### A list of states whose one state is graded is right still -/
theorem statesFrom_set : ∀ (xs : List St) (p : Option St) (k : Nat) (y : St) (hk : k < xs.length), y.err = 0 → y.bl = xs[k].bl → y.no = xs[k].no → statesFrom p xs = 0 → statesFrom p (xs.set k y) = 0 := by
  intro xs
  induction xs with
  | nil => intro p k y hk; simp at hk
  | cons x xs ih =>
    intro p k y hk hy hb hn h
    have hx : x.err = 0 := by
      by_cases hx : x.err = 0
      · exact hx
      · rw [statesFrom_bad hx] at h; exact absurd h hx
    cases k with
    | zero =>
      simp only [List.getElem_cons_zero] at hb hn
      simp only [List.set_cons_zero]
      simp only [statesFrom, if_pos hx] at h
      simp only [statesFrom, if_pos hy]
      have hlt : ∀ q : St, q.lt y ↔ q.lt x := fun q => by unfold St.lt; rw [hb, hn]
      have hlt2 : ∀ q : St, y.lt q ↔ x.lt q := fun q => by unfold St.lt; rw [hb, hn]
      have hrest : ∀ l : List St, statesFrom (some y) l = statesFrom (some x) l := fun l => by
        cases l with
        | nil => rfl
        | cons z zs => simp only [statesFrom, Option.some.injEq, exists_eq_left', hlt2]
      split at h
      · omega
      · rename_i hq
        rw [if_neg]
        · rw [hrest]; exact h
        · rintro ⟨q, e, hq2⟩; exact hq ⟨q, e, fun h => hq2 ((hlt q).2 h)⟩
    | succ k =>
      simp only [List.set_cons_succ]
      simp only [statesFrom, if_pos hx] at h ⊢
      split at h
      · omega
      · rename_i hq
        rw [if_neg hq]
        exact ih (some x) k y (by simpa using hk) hy hb hn h
theorem statesErr_set {xs : List St} {k : Nat} {y : St} (h : statesErr xs = 0) (hk : k < xs.length) (hy : y.err = 0) (hb : y.bl = xs[k].bl) (hn : y.no = xs[k].no) : statesErr (xs.set k y) = 0 := by
  have hl := len_of_statesErr h
  unfold statesErr at h ⊢
  rw [if_neg (by omega)] at h
  rw [if_neg (by rw [List.length_set]; omega)]
  exact statesFrom_set xs none k y hk hy hb hn h

/-! ### What is asked may be graded -/
theorem pick_holds {p : St → Bool} {xs : List St} : ∀ (k : Nat) (z : Int), z ∈ pick p xs k → ∃ i : Nat, ∃ x, z = (i : Int) ∧ xs[i]? = some x ∧ p x = true := by
  intro k
  induction k with
  | zero => intro z hz; simp [pick] at hz
  | succ k ih =>
    intro z hz
    unfold pick at hz
    split at hz
    · exact ih z hz
    · rename_i x hx
      split at hz
      · rename_i hp
        rcases List.mem_append.1 hz with hz | hz
        · exact ih z hz
        · exact ⟨k, x, by simpa using hz, hx, hp⟩
      · exact ih z hz
theorem la_le_du {x : St} (h : x.err = 0) : x.la ≤ x.du := by
  have hi := ill_of_err h
  simp only [St.ill, decide_eq_false_iff_not] at hi
  omega
theorem fresh_la {x : St} (h : x.err = 0) (hd : x.du < 0) : x.la = -1 := by
  have hi := ill_of_err h
  have hg := (St.good_of_err h).du
  simp only [St.ill, decide_eq_false_iff_not] at hi
  omega
/-- A place that is asked: there is a state, last seen no later than the day. -/
def Askable (xs : List St) (d z : Int) : Prop := ∃ i : Nat, ∃ x, z = (i : Int) ∧ xs[i]? = some x ∧ x.la ≤ d
theorem dueList_askable {xs : List St} {d : Int} (h : statesErr xs = 0) : ∀ z ∈ dueList xs d, Askable xs d z := by
  intro z hz
  unfold dueList at hz
  split at hz
  · rename_i hpos
    letI : Inhabited (Fin xs.length) := ⟨⟨0, hpos⟩⟩
    obtain ⟨i, hi, rfl⟩ := List.mem_map.1 hz
    obtain ⟨j, hj, rfl⟩ := List.getElem_of_mem hi
    have hall : ∀ k, k < (pickFin (asked d) xs hpos).size → asked d xs[((pickFin (asked d) xs hpos)[k]!).val] = true := by
      intro k hk
      have hk2 : k < (pickFin (asked d) xs hpos).toList.length := by simpa using hk
      have hm : finZ (pickFin (asked d) xs hpos)[k]! ∈ pick (asked d) xs xs.length := by
        rw [← pickFin_val (asked d) xs hpos, get_bang hk2]
        exact List.mem_map.2 ⟨_, List.getElem_mem hk2, rfl⟩
      obtain ⟨i, x, hz, hx, hp⟩ := pick_holds _ _ hm
      have he : ((pickFin (asked d) xs hpos)[k]!).val = i := by unfold finZ at hz; omega
      have hi2 : xs[i]? = some xs[((pickFin (asked d) xs hpos)[k]!).val] := by rw [← he]; exact List.getElem?_eq_getElem _
      rw [hi2] at hx
      injection hx with hx
      rw [hx]; exact hp
    have hS := stableF_all (p := fun i => asked d xs[i.val] = true) (ltOf (dueBy xs)) hall
    have hj2 : j < (stableF (ltOf (dueBy xs)) (pickFin (asked d) xs hpos)).size := by simpa using hj
    have h1 := hS j hj2
    rw [get_bang (by simpa using hj2)] at h1
    generalize (stableF (ltOf (dueBy xs)) (pickFin (asked d) xs hpos)).toList[j] = i at h1
    refine ⟨i.val, xs[i.val], rfl, List.getElem?_eq_getElem _, ?_⟩
    have he := err_of_statesErr h i.val i.isLt
    have := la_le_du he
    unfold asked at h1
    simp only [decide_eq_true_eq] at h1
    omega
  · simp at hz
theorem todayList_askable {xs : List St} {d first all bn ba : Int} (h : statesErr xs = 0) (hd : 0 ≤ d) : ∀ z ∈ todayList xs d first all bn ba, Askable xs d z := by
  intro z hz
  unfold todayList tdTo tdOut at hz
  rcases List.mem_append.1 hz with hz | hz
  · exact dueList_askable h z (List.mem_of_mem_take hz)
  · obtain ⟨i, x, rfl, hx, hp⟩ := pick_holds _ _ (List.mem_of_mem_take hz)
    have hi : i < xs.length := by
      rcases Nat.lt_or_ge i xs.length with h' | h'
      · exact h'
      · rw [List.getElem?_eq_none h'] at hx; cases hx
    have he := err_of_statesErr h i hi
    rw [List.getElem?_eq_getElem hi] at hx
    injection hx with hx
    rw [hx] at he
    unfold freshOn at hp
    simp only [decide_eq_true_eq] at hp
    have := fresh_la he hp.1
    exact ⟨i, x, rfl, by rw [List.getElem?_eq_getElem hi, hx], by omega⟩
theorem askable_set {xs : List St} {d z : Int} {k : Nat} {y : St} (hy : y.la ≤ d) (h : Askable xs d z) : Askable (xs.set k y) d z := by
  obtain ⟨i, x, rfl, hx, hl⟩ := h
  by_cases hik : k = i
  · subst hik
    have hi : k < xs.length := by
      rcases Nat.lt_or_ge k xs.length with h' | h'
      · exact h'
      · rw [List.getElem?_eq_none h'] at hx; cases hx
    exact ⟨k, y, rfl, by rw [List.getElem?_set_self hi], hy⟩
  · exact ⟨i, x, rfl, by rw [List.getElem?_set_ne hik]; exact hx, hl⟩

/-! ### The reviews of the days before count nothing on a new day -/
theorem cntAll_new {rs : List Rv} {d : Int} (h : ∀ r ∈ rs, r.da < d) : ∀ k, cntAll rs d k = 0 := by
  intro k
  induction k with
  | zero => rfl
  | succ k ih =>
    unfold cntAll
    split
    · exact ih
    · rename_i r hr
      have := h r (List.mem_of_getElem? hr)
      rw [if_neg (by omega)]; exact ih
theorem cntFirst_new {rs : List Rv} {d : Int} (h : ∀ r ∈ rs, r.da < d) : ∀ k, cntFirst rs d k = 0 := by
  intro k
  induction k with
  | zero => rfl
  | succ k ih =>
    unfold cntFirst
    split
    · exact ih
    · rename_i r hr
      have := h r (List.mem_of_getElem? hr)
      rw [if_neg (by omega)]; exact ih

/-- The error of what a simulation is given besides states. -/
def gradesOk (gs : List Int) : Bool := gs.all fun g => decide (1 ≤ g ∧ g ≤ 4)
def simErr (gs : List Int) (fr days bn ba : Int) : Int :=
  if gs.length = 0 ∨ 20000 < gs.length then 4 else if gradesOk gs = false then 10
  else if (fr < 0 ∨ 100000 < fr) ∨ (days < 0 ∨ 1500 < days) ∨ 100000 < fr + days then 2 else if bndOk bn ba then 0 else 2
def simulate (xs : List St) (gs : List Int) (fr days bn ba : Int) : (List St × List Int) × Int :=
  if statesErr xs = 0 then (if simErr gs fr days bn ba = 0 then (match simDays gs bn ba days.toNat fr xs 0 [] with
    | none => (([], []), 14)
    | some r => (r, 0)) else (([], []), simErr gs fr days bn ba)) else (([], []), statesErr xs)
theorem nextGrade_ok {gs : List Int} (h : gradesOk gs = true) (h0 : 0 < gs.length) (g : Nat) : 1 ≤ nextGrade gs g ∧ nextGrade gs g ≤ 4 := by
  have hlt : g % gs.length < gs.length := Nat.mod_lt _ h0
  unfold nextGrade
  rw [List.getElem?_eq_getElem hlt, Option.getD_some]
  have := List.all_eq_true.1 h _ (List.getElem_mem hlt)
  simpa using this

end Go.Proofs.Ytokghdcfbbogdaa
/-
  WALKS: checkSimulate.
-/
namespace Go.Proofs.Ytokghdcfbbogdaa
open Go.RowKit

theorem simErr_len {gs : List Int} {fr days bn ba : Int} (h : gs.length = 0 ∨ 20000 < gs.length) : simErr gs fr days bn ba = 4 := by unfold simErr; rw [if_pos h]
theorem simErr_kind {gs : List Int} {fr days bn ba : Int} (h : ¬ (gs.length = 0 ∨ 20000 < gs.length)) (hk : gradesOk gs = false) : simErr gs fr days bn ba = 10 := by unfold simErr; rw [if_neg h, if_pos hk]
theorem simErr_range {gs : List Int} {fr days bn ba : Int} (h : ¬ (gs.length = 0 ∨ 20000 < gs.length)) (hk : gradesOk gs = true) (hr : (fr < 0 ∨ 100000 < fr) ∨ (days < 0 ∨ 1500 < days) ∨ 100000 < fr + days) : simErr gs fr days bn ba = 2 := by unfold simErr; rw [if_neg h, if_neg (by simp [hk]), if_pos hr]
theorem simErr_bound {gs : List Int} {fr days bn ba : Int} (h : ¬ (gs.length = 0 ∨ 20000 < gs.length)) (hk : gradesOk gs = true) (hr : ¬ ((fr < 0 ∨ 100000 < fr) ∨ (days < 0 ∨ 1500 < days) ∨ 100000 < fr + days)) : simErr gs fr days bn ba = if bndOk bn ba then 0 else 2 := by unfold simErr; rw [if_neg h, if_neg (by simp [hk]), if_neg hr]

set_option maxHeartbeats 3200000 in
set_option maxRecDepth 100000 in
theorem checkSimulate_len (A : Option Addr) (c : Nat) (gs : List Int) (fr days bn ba : Int) (w : World) (h : gs.length = 0 ∨ 20000 < gs.length) :
    Calls Try.prog 74 #[.slice A gs.length c, .int .i64 fr, .int .i64 days, .agg #[.int .i64 bn, .int .i64 ba]] w fun e w' => e = .returned (.int .i64 (simErr gs fr days bn ba)) ∧ Below w.heap.size w w' := by
  rw [simErr_len h]
  have hc : ((gs.length : Int) == 0) = true ∨ (((gs.length : Int) == 0) = false ∧ decide (20000 < (gs.length : Int)) = true) := by simp only [beq_iff_eq, beq_eq_false_iff_ne, decide_eq_true_eq, ne_eq]; omega
  clear h
  rcases hc with hc | ⟨hc, hc2⟩
  all_goals
    go_enter Try.func74, Try.ntmps74
    go_wp2
    go_returns
    exact ⟨rfl, (by repeat (first | exact Below.refl _ _ | refine bl_plus ?_ | refine bl_alloc ?_ _ | refine bl_drew ?_))⟩

set_option maxHeartbeats 3200000 in
set_option maxRecDepth 100000 in
theorem checkSimulate_kind (A : Option Addr) (c : Nat) (gs : List Int) (fr days bn ba : Int) (w : World) (hA : IntsAt w A gs) (h : ¬ (gs.length = 0 ∨ 20000 < gs.length)) (hk : gradesOk gs = false) :
    Calls Try.prog 74 #[.slice A gs.length c, .int .i64 fr, .int .i64 days, .agg #[.int .i64 bn, .int .i64 ba]] w fun e w' => e = .returned (.int .i64 (simErr gs fr days bn ba)) ∧ Below w.heap.size w w' := by
  rw [simErr_kind h hk]
  have hb1 : ((gs.length : Int) == 0) = false := by simp only [beq_eq_false_iff_ne, ne_eq]; omega
  have hb2 : decide (20000 < (gs.length : Int)) = false := by simp only [decide_eq_false_iff_not]; omega
  have HA := hide hA
  have hl : gs.length ≤ 20000 := by omega
  have HK := hide hk
  clear hA h hk
  go_enter Try.func74, Try.ntmps74
  go_wp2
  go_loopw [21] (fun i wr => ∃ (k : Nat) (os : Array Obj) (n : Nat), k ≤ gs.length ∧ i = .int .i64 k ∧ Hid (∀ j (h : j < gs.length), j < k → 1 ≤ gs[j] ∧ gs[j] ≤ 4) ∧ wr = plus w os n) (fun i _ => gs.length - (intOf i).toNat)
  case atStart => exact ⟨0, _, _, Nat.zero_le _, rfl, fun j _ hj => by omega, (below_plus (by repeat (first | exact Below.refl _ _ | refine bl_plus ?_ | refine bl_alloc ?_ _ | refine bl_drew ?_))).choose_spec.choose_spec⟩
  case round =>
    obtain ⟨k, os, n, hk, rfl, HJ, rfl⟩ := hrel
    by_cases hlt : k < gs.length
    · obtain ⟨b, off, rfl, hb, hcell⟩ := HA.out (by omega)
      have hc0 := hcell k hlt
      clear hcell
      by_cases ho : gs[k] < 1 ∨ 4 < gs[k]
      · have HO := hide (fun w => outside_yes gs[k] 1 4 w ho)
        generalize gs[k] = x at hc0 HO
        clear ho
        go_wp2_with (go_at_call 61; refine (HO.out _).mono ?_; rintro e w' ⟨rfl, rfl⟩)
        go_returns
        exact ⟨rfl, (by repeat (first | exact Below.refl _ _ | refine bl_plus ?_ | refine bl_alloc ?_ _ | refine bl_drew ?_))⟩
      · have HO := hide (fun w => outside_no gs[k] 1 4 w (by omega) (by omega))
        have HJ2 : Hid (∀ j (h : j < gs.length), j < k + 1 → 1 ≤ gs[j] ∧ gs[j] ≤ 4) := fun j h hj => by
          by_cases hjk : j = k
          · subst hjk; omega
          · exact HJ.out j h (by omega)
        generalize gs[k] = x at hc0 HO
        clear ho HJ
        go_wp2_with (go_at_call 61; refine (HO.out _).mono ?_; rintro e w' ⟨rfl, rfl⟩)
        go_roundw
        case rel => exact ⟨k + 1, _, _, hlt, by go_num, HJ2, rfl⟩
        case measure => simp [intOf]; omega
    · exfalso
      have h1 : gradesOk gs = true := by
        unfold gradesOk
        rw [List.all_eq_true]
        intro g hg
        obtain ⟨j, hj, rfl⟩ := List.getElem_of_mem hg
        have := HJ.out j hj (by omega)
        simpa using this
      rw [HK.out] at h1
      cases h1

set_option maxHeartbeats 3200000 in
set_option maxRecDepth 100000 in
theorem checkSimulate_day (A : Option Addr) (c : Nat) (gs : List Int) (fr days bn ba : Int) (w : World) (hA : IntsAt w A gs) (h : ¬ (gs.length = 0 ∨ 20000 < gs.length)) (hk : gradesOk gs = true) (hr : fr < 0 ∨ 100000 < fr) :
    Calls Try.prog 74 #[.slice A gs.length c, .int .i64 fr, .int .i64 days, .agg #[.int .i64 bn, .int .i64 ba]] w fun e w' => e = .returned (.int .i64 (simErr gs fr days bn ba)) ∧ Below w.heap.size w w' := by
  rw [simErr_range h hk (.inl hr)]
  have hb1 : ((gs.length : Int) == 0) = false := by simp only [beq_eq_false_iff_ne, ne_eq]; omega
  have hb2 : decide (20000 < (gs.length : Int)) = false := by simp only [decide_eq_false_iff_not]; omega
  have HA := hide hA
  have hl : gs.length ≤ 20000 := by omega
  have hall : ∀ j (h : j < gs.length), 1 ≤ gs[j] ∧ gs[j] ≤ 4 := fun j hj => by
    have := List.all_eq_true.1 hk _ (List.getElem_mem hj)
    simpa using this
  have HALL := hide hall
  have HC := hide (fun w => checkDay_no fr w hr)
  clear hr
  clear hA h hk hall
  go_enter Try.func74, Try.ntmps74
  go_wp2
  go_loopw [21] (fun i wr => ∃ (k : Nat) (os : Array Obj) (n : Nat), k ≤ gs.length ∧ i = .int .i64 k ∧ wr = plus (w.alloc (.cells #[.int .i64 bn, .int .i64 ba] 43)) os n) (fun i _ => gs.length - (intOf i).toNat)
  case atStart => exact ⟨0, #[], _, Nat.zero_le _, rfl, plus_nil.symm⟩
  case round =>
    obtain ⟨k, os, n, hk, rfl, rfl⟩ := hrel
    by_cases hlt : k < gs.length
    · obtain ⟨b, off, rfl, hb, hcell⟩ := HA.out (by omega)
      have hc0 := hcell k hlt
      have ho := HALL.out k hlt
      clear hcell
      generalize gs[k] = x at hc0 ho
      have HO := hide (fun w => outside_no x 1 4 w ho.1 ho.2)
      clear ho
      go_wp2_with (go_at_call 61; refine (HO.out _).mono ?_; rintro e w' ⟨rfl, rfl⟩)
      go_roundw
      case rel => exact ⟨k + 1, _, _, hlt, by go_num, rfl⟩
      case measure => simp [intOf]; omega
    · go_wp2_with (go_at_call 64; refine (HC.out _).mono ?_; rintro e w' ⟨rfl, rfl⟩)
      go_returns
      exact ⟨rfl, (by repeat (first | exact Below.refl _ _ | refine bl_plus ?_ | refine bl_alloc ?_ _ | refine bl_drew ?_))⟩

set_option maxHeartbeats 3200000 in
set_option maxRecDepth 100000 in
theorem checkSimulate_days (A : Option Addr) (c : Nat) (gs : List Int) (fr days bn ba : Int) (w : World) (hA : IntsAt w A gs) (h : ¬ (gs.length = 0 ∨ 20000 < gs.length)) (hk : gradesOk gs = true) (hf : 0 ≤ fr ∧ fr ≤ 100000) (hr : days < 0 ∨ 1500 < days) :
    Calls Try.prog 74 #[.slice A gs.length c, .int .i64 fr, .int .i64 days, .agg #[.int .i64 bn, .int .i64 ba]] w fun e w' => e = .returned (.int .i64 (simErr gs fr days bn ba)) ∧ Below w.heap.size w w' := by
  rw [simErr_range h hk (.inr (.inl hr))]
  have hb1 : ((gs.length : Int) == 0) = false := by simp only [beq_eq_false_iff_ne, ne_eq]; omega
  have hb2 : decide (20000 < (gs.length : Int)) = false := by simp only [decide_eq_false_iff_not]; omega
  have HA := hide hA
  have hl : gs.length ≤ 20000 := by omega
  have hall : ∀ j (h : j < gs.length), 1 ≤ gs[j] ∧ gs[j] ≤ 4 := fun j hj => by
    have := List.all_eq_true.1 hk _ (List.getElem_mem hj)
    simpa using this
  have HALL := hide hall
  have HC := hide (fun w => checkDay_yes fr w hf.1 hf.2)
  have HOD := hide (fun w => outside_yes days 0 1500 w hr)
  clear hr
  clear hA h hk hall
  go_enter Try.func74, Try.ntmps74
  go_wp2
  go_loopw [21] (fun i wr => ∃ (k : Nat) (os : Array Obj) (n : Nat), k ≤ gs.length ∧ i = .int .i64 k ∧ wr = plus (w.alloc (.cells #[.int .i64 bn, .int .i64 ba] 43)) os n) (fun i _ => gs.length - (intOf i).toNat)
  case atStart => exact ⟨0, #[], _, Nat.zero_le _, rfl, plus_nil.symm⟩
  case round =>
    obtain ⟨k, os, n, hk, rfl, rfl⟩ := hrel
    by_cases hlt : k < gs.length
    · obtain ⟨b, off, rfl, hb, hcell⟩ := HA.out (by omega)
      have hc0 := hcell k hlt
      have ho := HALL.out k hlt
      clear hcell
      generalize gs[k] = x at hc0 ho
      have HO := hide (fun w => outside_no x 1 4 w ho.1 ho.2)
      clear ho
      go_wp2_with (go_at_call 61; refine (HO.out _).mono ?_; rintro e w' ⟨rfl, rfl⟩)
      go_roundw
      case rel => exact ⟨k + 1, _, _, hlt, by go_num, rfl⟩
      case measure => simp [intOf]; omega
    · go_wp2_with (first | (go_at_call 64; refine (HC.out _).mono ?_; rintro e w' ⟨rfl, rfl⟩) | (go_at_call 61; refine (HOD.out _).mono ?_; rintro e w' ⟨rfl, rfl⟩))
      go_returns
      exact ⟨rfl, (by repeat (first | exact Below.refl _ _ | refine bl_plus ?_ | refine bl_alloc ?_ _ | refine bl_drew ?_))⟩

set_option maxHeartbeats 3200000 in
set_option maxRecDepth 100000 in
theorem checkSimulate_sum (A : Option Addr) (c : Nat) (gs : List Int) (fr days bn ba : Int) (w : World) (hA : IntsAt w A gs) (h : ¬ (gs.length = 0 ∨ 20000 < gs.length)) (hk : gradesOk gs = true) (hf : 0 ≤ fr ∧ fr ≤ 100000) (hd : 0 ≤ days ∧ days ≤ 1500) (hr : 100000 < fr + days) :
    Calls Try.prog 74 #[.slice A gs.length c, .int .i64 fr, .int .i64 days, .agg #[.int .i64 bn, .int .i64 ba]] w fun e w' => e = .returned (.int .i64 (simErr gs fr days bn ba)) ∧ Below w.heap.size w w' := by
  rw [simErr_range h hk (.inr (.inr hr))]
  have hb1 : ((gs.length : Int) == 0) = false := by simp only [beq_eq_false_iff_ne, ne_eq]; omega
  have hb2 : decide (20000 < (gs.length : Int)) = false := by simp only [decide_eq_false_iff_not]; omega
  have HA := hide hA
  have hl : gs.length ≤ 20000 := by omega
  have hall : ∀ j (h : j < gs.length), 1 ≤ gs[j] ∧ gs[j] ≤ 4 := fun j hj => by
    have := List.all_eq_true.1 hk _ (List.getElem_mem hj)
    simpa using this
  have HALL := hide hall
  have HC := hide (fun w => checkDay_yes fr w hf.1 hf.2)
  have HOD := hide (fun w => outside_no days 0 1500 w hd.1 hd.2)
  have hs : decide (100000 < fr + days) = true := decide_eq_true hr
  clear hr
  clear hA h hk hall
  go_enter Try.func74, Try.ntmps74
  go_wp2
  go_loopw [21] (fun i wr => ∃ (k : Nat) (os : Array Obj) (n : Nat), k ≤ gs.length ∧ i = .int .i64 k ∧ wr = plus (w.alloc (.cells #[.int .i64 bn, .int .i64 ba] 43)) os n) (fun i _ => gs.length - (intOf i).toNat)
  case atStart => exact ⟨0, #[], _, Nat.zero_le _, rfl, plus_nil.symm⟩
  case round =>
    obtain ⟨k, os, n, hk, rfl, rfl⟩ := hrel
    by_cases hlt : k < gs.length
    · obtain ⟨b, off, rfl, hb, hcell⟩ := HA.out (by omega)
      have hc0 := hcell k hlt
      have ho := HALL.out k hlt
      clear hcell
      generalize gs[k] = x at hc0 ho
      have HO := hide (fun w => outside_no x 1 4 w ho.1 ho.2)
      clear ho
      go_wp2_with (go_at_call 61; refine (HO.out _).mono ?_; rintro e w' ⟨rfl, rfl⟩)
      go_roundw
      case rel => exact ⟨k + 1, _, _, hlt, by go_num, rfl⟩
      case measure => simp [intOf]; omega
    · go_wp2_with (first | (go_at_call 64; refine (HC.out _).mono ?_; rintro e w' ⟨rfl, rfl⟩) | (go_at_call 61; refine (HOD.out _).mono ?_; rintro e w' ⟨rfl, rfl⟩))
      go_returns
      exact ⟨rfl, (by repeat (first | exact Below.refl _ _ | refine bl_plus ?_ | refine bl_alloc ?_ _ | refine bl_drew ?_))⟩

set_option maxHeartbeats 3200000 in
set_option maxRecDepth 100000 in
theorem checkSimulate_ok (A : Option Addr) (c : Nat) (gs : List Int) (fr days bn ba : Int) (w : World) (hA : IntsAt w A gs) (h : ¬ (gs.length = 0 ∨ 20000 < gs.length)) (hk : gradesOk gs = true) (hf : 0 ≤ fr ∧ fr ≤ 100000) (hd : 0 ≤ days ∧ days ≤ 1500) (hr : ¬ 100000 < fr + days) :
    Calls Try.prog 74 #[.slice A gs.length c, .int .i64 fr, .int .i64 days, .agg #[.int .i64 bn, .int .i64 ba]] w fun e w' => e = .returned (.int .i64 (simErr gs fr days bn ba)) ∧ Below w.heap.size w w' := by
  rw [simErr_bound h hk (by omega)]
  have hb1 : ((gs.length : Int) == 0) = false := by simp only [beq_eq_false_iff_ne, ne_eq]; omega
  have hb2 : decide (20000 < (gs.length : Int)) = false := by simp only [decide_eq_false_iff_not]; omega
  have HA := hide hA
  have hl : gs.length ≤ 20000 := by omega
  have hall : ∀ j (h : j < gs.length), 1 ≤ gs[j] ∧ gs[j] ≤ 4 := fun j hj => by
    have := List.all_eq_true.1 hk _ (List.getElem_mem hj)
    simpa using this
  have HALL := hide hall
  have HC := hide (fun w => checkDay_yes fr w hf.1 hf.2)
  have HOD := hide (fun w => outside_no days 0 1500 w hd.1 hd.2)
  have hcb := fun w => checkBounds_any bn ba w
  generalize (if bndOk bn ba then (0 : Int) else 2) = q at hcb ⊢
  have HCB := hide hcb
  clear hcb
  have hs : decide (100000 < fr + days) = false := decide_eq_false hr
  clear hr
  clear hA h hk hall
  go_enter Try.func74, Try.ntmps74
  go_wp2
  go_loopw [21] (fun i wr => ∃ (k : Nat) (os : Array Obj) (n : Nat), k ≤ gs.length ∧ i = .int .i64 k ∧ wr = plus (w.alloc (.cells #[.int .i64 bn, .int .i64 ba] 43)) os n) (fun i _ => gs.length - (intOf i).toNat)
  case atStart => exact ⟨0, #[], _, Nat.zero_le _, rfl, plus_nil.symm⟩
  case round =>
    obtain ⟨k, os, n, hk, rfl, rfl⟩ := hrel
    by_cases hlt : k < gs.length
    · obtain ⟨b, off, rfl, hb, hcell⟩ := HA.out (by omega)
      have hc0 := hcell k hlt
      have ho := HALL.out k hlt
      clear hcell
      generalize gs[k] = x at hc0 ho
      have HO := hide (fun w => outside_no x 1 4 w ho.1 ho.2)
      clear ho
      go_wp2_with (go_at_call 61; refine (HO.out _).mono ?_; rintro e w' ⟨rfl, rfl⟩)
      go_roundw
      case rel => exact ⟨k + 1, _, _, hlt, by go_num, rfl⟩
      case measure => simp [intOf]; omega
    · go_wp2_with (first | (go_at_call 64; refine (HC.out _).mono ?_; rintro e w' ⟨rfl, rfl⟩) | (go_at_call 61; refine (HOD.out _).mono ?_; rintro e w' ⟨rfl, rfl⟩) | (go_at_call 68; refine (HCB.out _).mono ?_; rintro e w' ⟨rfl, hb⟩; obtain ⟨os3, n3, rfl⟩ := below_plus hb; clear hb))
      go_returns
      exact ⟨rfl, (by repeat (first | exact Below.refl _ _ | refine bl_plus ?_ | refine bl_alloc ?_ _ | refine bl_drew ?_))⟩

theorem checkSimulate_any (A : Option Addr) (c : Nat) (gs : List Int) (fr days bn ba : Int) (w : World) (hA : IntsAt w A gs) :
    Calls Try.prog 74 #[.slice A gs.length c, .int .i64 fr, .int .i64 days, .agg #[.int .i64 bn, .int .i64 ba]] w fun e w' => e = .returned (.int .i64 (simErr gs fr days bn ba)) ∧ Below w.heap.size w w' := by
  by_cases h : gs.length = 0 ∨ 20000 < gs.length
  · exact checkSimulate_len A c gs fr days bn ba w h
  · cases hk : gradesOk gs with
    | false => exact checkSimulate_kind A c gs fr days bn ba w hA h hk
    | true =>
      by_cases hf : fr < 0 ∨ 100000 < fr
      · exact checkSimulate_day A c gs fr days bn ba w hA h hk hf
      · by_cases hd : days < 0 ∨ 1500 < days
        · exact checkSimulate_days A c gs fr days bn ba w hA h hk (by omega) hd
        · by_cases hr : 100000 < fr + days
          · exact checkSimulate_sum A c gs fr days bn ba w hA h hk (by omega) (by omega) hr
          · exact checkSimulate_ok A c gs fr days bn ba w hA h hk (by omega) (by omega) hr

end Go.Proofs.Ytokghdcfbbogdaa
/-
  WALKS: the reference's test of the grades.
-/
namespace Go.Proofs.Ytokghdcfbbogdaa
open Go.RowKit

set_option maxHeartbeats 400000 in
theorem badGrade_any (x : Int) (w : World) :
    Calls Try.prog 75 #[.int .i64 x] w fun e w' => e = .returned (.bool (!decide (1 ≤ x ∧ x ≤ 4))) ∧ w = w' := by
  have hc : (decide (x < 1) = true ∧ decide (1 ≤ x ∧ x ≤ 4) = false) ∨ (decide (x < 1) = false ∧ decide (4 < x) = true ∧ decide (1 ≤ x ∧ x ≤ 4) = false) ∨ (decide (x < 1) = false ∧ decide (4 < x) = false ∧ decide (1 ≤ x ∧ x ≤ 4) = true) := by
    simp only [decide_eq_true_eq, decide_eq_false_iff_not]; omega
  generalize decide (1 ≤ x ∧ x ≤ 4) = q at hc ⊢
  rcases hc with ⟨h1, rfl⟩ | ⟨h1, h2, rfl⟩ | ⟨h1, h2, rfl⟩
  all_goals
    go_enter Try.func75, Try.ntmps75
    go_wp2
    go_ret
    exact ⟨rfl, rfl⟩

set_option maxHeartbeats 1600000 in
set_option maxRecDepth 100000 in
theorem indexBad_any (A : Option Addr) (c : Nat) (gs : List Int) (w : World) (hA : IntsAt w A gs) (hl : gs.length ≤ 20000) :
    Calls Try.prog 89 #[.slice A gs.length c, .func (.func 75) #[] #[]] w fun e w' => (∃ z : Int, e = .returned (.int .i64 z) ∧ decide (0 ≤ z) = !gradesOk gs) ∧ Below w.heap.size w w' := by
  have HA := hide hA
  clear hA
  go_enter Try.func89, Try.ntmps89
  go_wp2
  go_loopw [8] (fun i wr => ∃ k : Nat, k ≤ gs.length ∧ i = .int .i64 k ∧ Hid (∀ j (h : j < gs.length), j < k → 1 ≤ gs[j] ∧ gs[j] ≤ 4) ∧ wr = w) (fun i _ => gs.length - (intOf i).toNat)
  case atStart => exact ⟨0, Nat.zero_le _, rfl, fun j _ hj => by omega, rfl⟩
  case round =>
    obtain ⟨k, hk, rfl, HJ, rfl⟩ := hrel
    by_cases hlt : k < gs.length
    · obtain ⟨b, off, rfl, hb, hcell⟩ := HA.out (by omega)
      have hc0 := hcell k hlt
      clear hcell
      by_cases ho : 1 ≤ gs[k] ∧ gs[k] ≤ 4
      · have hbg := fun w => badGrade_any gs[k] w
        rw [decide_eq_true ho] at hbg
        have HJ2 : Hid (∀ j (h : j < gs.length), j < k + 1 → 1 ≤ gs[j] ∧ gs[j] ≤ 4) := fun j h hj => by
          by_cases hjk : j = k
          · subst hjk; exact ho
          · exact HJ.out j h (by omega)
        generalize gs[k] = x at hc0 hbg
        have HB := hide hbg
        clear ho HJ hbg
        go_wp2_with (go_at_call 75; refine (HB.out _).mono ?_; rintro e w' ⟨rfl, rfl⟩)
        go_roundw
        case rel => exact ⟨k + 1, hlt, by go_num, HJ2, by first | rfl | trivial⟩
        case measure => simp [intOf]; omega
      · have hbg := fun w => badGrade_any gs[k] w
        rw [decide_eq_false ho] at hbg
        have HK : Hid (gradesOk gs = false) := by
          show _ = _
          unfold gradesOk
          rw [List.all_eq_false]
          exact ⟨gs[k], List.getElem_mem hlt, by simpa using ho⟩
        generalize gs[k] = x at hc0 hbg
        have HB := hide hbg
        clear ho HJ hbg
        go_wp2_with (go_at_call 75; refine (HB.out _).mono ?_; rintro e w' ⟨rfl, rfl⟩)
        go_returns
        exact ⟨⟨(k : Int), rfl, by rw [HK.out]; simp⟩, Below.refl _ _⟩
    · have HK : Hid (gradesOk gs = true) := by
        show _ = _
        unfold gradesOk
        rw [List.all_eq_true]
        intro g hg
        obtain ⟨j, hj, rfl⟩ := List.getElem_of_mem hg
        have := HJ.out j hj (by omega)
        simpa using this
      clear HJ
      go_wp2
      go_returns
      exact ⟨⟨-1, rfl, by rw [HK.out]; simp⟩, Below.refl _ _⟩

set_option maxHeartbeats 800000 in
set_option maxRecDepth 100000 in
theorem containsBad_any (A : Option Addr) (c : Nat) (gs : List Int) (w : World) (hA : IntsAt w A gs) (hl : gs.length ≤ 20000) :
    Calls Try.prog 51 #[.slice A gs.length c, .func (.func 75) #[] #[]] w fun e w' => e = .returned (.bool (!gradesOk gs)) ∧ Below w.heap.size w w' := by
  have hi := indexBad_any A c gs w hA hl
  have HI := hide hi
  clear hi hA
  go_enter Try.func51, Try.ntmps51
  go_wp2_with (go_at_call 89; refine HI.out.mono ?_; rintro e w' ⟨⟨z, rfl, hz⟩, hb⟩; obtain ⟨os1, n1, rfl⟩ := below_plus hb; clear hb; have HZ := hide hz; clear hz)
  go_ret
  exact ⟨ret_bool (by rw [← HZ.out]), by repeat (first | exact Below.refl _ _ | refine bl_plus ?_ | refine bl_alloc ?_ _ | refine bl_drew ?_)⟩

end Go.Proofs.Ytokghdcfbbogdaa
